/- The texts Idb Idc ShelfB Lb Idd Ide Itr Idf of the seat, joined. -/
import Derived.Test.YtclhbcicbnoohaaGreatDoorG10
import Derived.Shelf.Strings.BuilderK
import Derived.Shelf.SlIter.Nil
import Derived.Shelf.SortM.Plain
import Derived.Shelf.SortM.SortNone
import Derived.Ground.GgzProg
import Derived.Ground.SlgmProg
import Derived.Maps.Own
import Derived.Maps.Views
import Derived.Maps.RangeWalk
/- Slices of names that a call has built: opened, written; the place of a name in a sorted list. -/
namespace Go.Proofs.YtclhbcicbnoohaaGreatDoor
open Go.RowKit

/-- A slice of strings of the call's own, opened. -/
structure OwnZ (w : World) (base g off cap : Nat) (cur : Array Value) (n : Nat) (xs : List Value) : Prop where
  len : xs.length = n
  low : base ≤ g
  row : w.heap[g]? = some (.cells cur 9 (0, 0))
  room : n ≤ cap
  big : cap ≤ 9223372036854775807
  fits : off + cap ≤ cur.size
  at' : ∀ j, j < n → cur[off + j]? = xs[j]?
theorem ownZ_of {w : World} {base : Nat} {v : Value} {n : Nat} {xs : List Value} (h : OwnAt w base 9 1 v n xs) (hn : 0 < n) : ∃ g off cap cur, v = .slice (some ⟨g, off, none⟩) n cap ∧ OwnZ w base g off cap cur n xs := by
  obtain ⟨h1, ⟨rfl, h2⟩ | ⟨g, off, cap, cur, rfl, hb, hh, hc, hc2, hs, hx⟩⟩ := h
  · omega
  · exact ⟨g, off, cap, cur, rfl, by rw [h1, Nat.mul_one], hb, hh, hc, hc2, by rw [Nat.mul_one] at hs; exact hs, fun j hj => hx j (by omega)⟩
theorem OwnZ.own {w : World} {base g off cap n : Nat} {cur : Array Value} {xs : List Value} (h : OwnZ w base g off cap cur n xs) : OwnAt w base 9 1 (.slice (some ⟨g, off, none⟩) n cap) n xs :=
  ⟨by rw [h.len, Nat.mul_one], .inr ⟨g, off, cap, cur, rfl, h.low, h.row, h.room, h.big, by rw [Nat.mul_one]; exact h.fits, fun j hj => h.at' j (by omega)⟩⟩
theorem OwnZ.cell {w : World} {base g off cap n : Nat} {cur : Array Value} {xs : List Value} (h : OwnZ w base g off cap cur n xs) {j : Nat} {u : Value} (hj : xs[j]? = some u) : w.cell? ⟨g, off + j, none⟩ = some u := by
  have hlt : j < n := by
    rcases Nat.lt_or_ge j xs.length with h' | h'
    · rw [h.len] at h'; exact h'
    · rw [List.getElem?_eq_none h'] at hj; cases hj
  rw [cell_of_row w g _ cur 9 (0, 0) h.row, h.at' j hlt, hj]
theorem OwnZ.there {w : World} {base g off cap n : Nat} {cur : Array Value} {xs : List Value} (h : OwnZ w base g off cap cur n xs) {j : Nat} (hj : j < cap) : (w.cell? ⟨g, off + j, none⟩).isSome = true := by
  have := h.fits
  rw [cell_of_row w g _ cur 9 (0, 0) h.row]
  simp
  omega
theorem OwnZ.free {w : World} {base g off cap n : Nat} {cur : Array Value} {xs : List Value} (h : OwnZ w base g off cap cur n xs) (j : Nat) : w.frozen? ⟨g, j, none⟩ = false := by simp [World.frozen?, h.row]
theorem OwnZ.drew {w : World} {base g off cap n : Nat} {cur : Array Value} {xs : List Value} (h : OwnZ w base g off cap cur n xs) : OwnZ w.drew base g off cap cur n xs := ⟨h.len, h.low, h.row, h.room, h.big, h.fits, h.at'⟩
theorem setArr_gt : ∀ (vs : List Value) (c : Array Value) (p q : Nat), p + vs.length ≤ q → (setArr c p vs)[q]? = c[q]?
  | [], _, _, _, _ => rfl
  | v :: vs, c, p, q, hq => by
    simp only [List.length_cons] at hq
    rw [setArr, setArr_gt vs _ _ _ (by omega), Array.getElem?_setIfInBounds_ne (by omega)]
theorem OwnZ.write {w : World} {base g off cap n : Nat} {cur : Array Value} {xs : List Value} (h : OwnZ w base g off cap cur n xs) (o : Nat) (ys : List Value) (ho : o + ys.length ≤ cap) (m : Nat) (hm : m ≤ cap) (zs : List Value) (hz : zs.length = m)
    (h1 : ∀ j, j < m → j < o → zs[j]? = cur[off + j]?) (h2 : ∀ j, j < m → o ≤ j → j < o + ys.length → zs[j]? = ys[j - o]?) (h3 : ∀ j, j < m → o + ys.length ≤ j → zs[j]? = cur[off + j]?) :
    OwnZ (w.setCells g (off + o) ys) base g off cap (setArr cur (off + o) ys) m zs := by
  have hf := h.fits
  refine ⟨hz, h.low, heap_setCells_at g ys _ w cur 9 h.row, hm, h.big, by rw [setArr_size]; exact h.fits, fun j hj => ?_⟩
  rcases Nat.lt_or_ge j o with hjo | hjo
  · rw [setArr_lt _ _ _ _ (by omega), h1 j hj hjo]
  · rcases Nat.lt_or_ge j (o + ys.length) with hjl | hjl
    · rw [show off + j = off + o + (j - o) by omega, setArr_in ys cur (off + o) (j - o) (by omega) (by omega), h2 j hj hjo hjl]
    · rw [h3 j hj hjl, setArr_gt _ _ _ _ (by omega)]
/-- Names as values. -/
def nmV (l : List T.Bs) : List Value := l.map fun x => .string (T.mkF x)
theorem nmV_strs (l : List T.Bs) : nmV l = strs (l.map T.mkF) := by unfold nmV strs; rw [List.map_map]; rfl
def OwnN (w : World) (base : Nat) (v : Value) (l : List T.Bs) : Prop := OwnAt w base 9 1 v l.length (nmV l)
theorem nmV_append (l m : List T.Bs) : nmV (l ++ m) = nmV l ++ nmV m := List.map_append
theorem nmV_len (l : List T.Bs) : (nmV l).length = l.length := List.length_map _
theorem nmV_one (l : List T.Bs) : ∀ u ∈ nmV l, u.oneCell' = true := by intro u hu; obtain ⟨n, _, rfl⟩ := List.mem_map.1 hu; rfl
/-- A name stands in a sorted list already. -/
theorem insN_in {x : T.Bs} : ∀ {l : List T.Bs}, l.Pairwise (· < ·) → x ∈ l → T.insN x l = l
  | y :: l, h, hx => by
    obtain ⟨h1, h2⟩ := List.pairwise_cons.1 h
    rw [T.insN]
    rcases List.mem_cons.1 hx with rfl | hx
    · rw [if_pos (List.le_refl _), if_pos rfl]
    · have := h1 x hx
      rw [if_pos (T.le_of_lt this), if_neg (fun e => T.lt_irrefl _ (e ▸ this)), insN_in h2 hx]
/-- .. or has its place in it. -/
theorem insN_at {x : T.Bs} : ∀ {l : List T.Bs} {a : Nat}, l.Pairwise (· < ·) → a ≤ l.length → (∀ i (h : i < l.length), i < a → l[i] ≤ x) → (∀ h : a < l.length, ¬ l[a] ≤ x) → x ∉ l → T.insN x l = l.take a ++ x :: l.drop a
  | [], a, _, ha, _, _, _ => by
    obtain rfl : a = 0 := Nat.le_zero.1 ha
    rfl
  | y :: l, 0, _, _, _, h2, _ => by
    have : ¬ y ≤ x := h2 (by simp)
    rw [T.insN, if_neg this]
    rfl
  | y :: l, a + 1, h, ha, h1, h2, h3 => by
    obtain ⟨_, hp⟩ := List.pairwise_cons.1 h
    have hy : y ≤ x := h1 0 (by simp) (by omega)
    have hne : ¬ y = x := fun e => h3 (e ▸ List.mem_cons_self)
    rw [T.insN, if_pos hy, if_neg hne, insN_at (a := a) hp (by simpa using ha) (fun i hi hia => h1 (i + 1) (by simpa using hi) (by omega)) (fun hal => h2 (by simpa using hal)) (fun hx => h3 (List.mem_cons_of_mem _ hx))]
    rfl
/-- The names of the first `a` that are x. -/
def known (l : List T.Bs) (x : T.Bs) (a : Nat) : Bool := (l.take a).any fun y => decide (y = x)
theorem known_succ {l : List T.Bs} {x : T.Bs} {a : Nat} (h : a < l.length) : known l x (a + 1) = (known l x a || decide (l[a] = x)) := by
  unfold known
  rw [List.take_succ_eq_append_getElem h, List.any_append]
  simp
/-- Behind a name that is greater, x does not stand. -/
theorem known_end {l : List T.Bs} {x : T.Bs} {a : Nat} (h : l.Pairwise (· < ·)) (ha : a ≤ l.length) (h2 : ∀ h : a < l.length, ¬ l[a] ≤ x) : known l x a = decide (x ∈ l) := by
  unfold known
  rw [Bool.eq_iff_iff, List.any_eq_true, decide_eq_true_eq]
  constructor
  · rintro ⟨y, hy, he⟩
    have := of_decide_eq_true he
    subst this
    exact List.mem_of_mem_take hy
  · intro hx
    refine ⟨x, ?_, by simp⟩
    obtain ⟨i, hi, rfl⟩ := List.getElem_of_mem hx
    rcases Nat.lt_or_ge i a with h3 | h3
    · have : (l.take a)[i]'(by simp; omega) = l[i] := by simp
      rw [← this]
      exact List.getElem_mem _
    · exfalso
      have hal : a < l.length := by omega
      refine h2 hal ?_
      rcases Nat.eq_or_lt_of_le h3 with e | e
      · subst e; exact List.le_refl _
      · exact T.le_of_lt (List.pairwise_iff_getElem.1 h a i hal hi e)
end Go.Proofs.YtclhbcicbnoohaaGreatDoor

/- A name is put into its place: the shift of the names behind it. -/
namespace Go.Proofs.YtclhbcicbnoohaaGreatDoor
open Go.RowKit

theorem str_size (w : World) : (Go.sizeOf 9).run Tryz.prog w = .ok 1 w := by kernel_rfl
set_option maxRecDepth 100000 in
theorem run_cut_str {W : World} {A : Option Addr} {n cap : Nat} (m : Nat) (hm : m ≤ n) : (Instr.slice 43 (.slice A n cap) (some (.int .i64 (m : Int))) none none).run Tryz.prog W = .ok (.slice (if cap = m then A else A.map (·.add (m * 1))) (n - m) (cap - m)) W := by
  have := run_slice_l (P := Tryz.prog) W 43 A n cap Tryz.underlying43 .i64 m (by omega) (by omega)
  have he : Tryz.prog.elem 43 = 9 := by kernel_rfl
  rw [he] at this
  rw [this, str_size]
  simp [Result.andThen, sliced]
set_option maxRecDepth 100000 in
theorem name_shift (L : List T.Bs) (x : T.Bs) (u : Value) (w4 : World) (base g off cap : Nat) (cur : Array Value) (q m : Nat) (hq : q = L.length) (hm : m ≤ q) (hO : OwnZ w4 base g off cap cur (q + 1) (nmV L ++ [u])) (hbase : base ≤ w4.heap.size) :
    ∃ D W5 cur5 zs5, (∀ W : World, (Instr.slice 43 (.slice (some ⟨g, off, none⟩) (q + 1) cap) (some (.int .i64 ((m : Int) + 1))) none none).run Tryz.prog W = .ok (.slice D (q - m) (cap - (m + 1))) W) ∧
      (∀ (ty : TypeId) dc sc, (Builtin.copy_ #[43, 43] ty #[.slice D (q - m) dc, .slice (some ⟨g, off + m, none⟩) (q + 1 - m) sc]).run Tryz.prog w4.drew = .ok (goInt ((q - m : Nat) : Int)) W5) ∧
      OwnZ W5 base g off cap cur5 (q + 1) zs5 ∧ Below base w4 W5 ∧ OwnN (W5.setCells g (off + m) [.string (T.mkF x)]) base (.slice (some ⟨g, off, none⟩) (q + 1) cap) (L.take m ++ x :: L.drop m) := by
  have hi : (Tryz.prog.info? 9).map (·.size) = some 1 := by
    obtain ⟨i0, hi, hz0, hz1, hz2⟩ := info_parts str_info
    rw [hi]; simp [hz1]
  have hroom := hO.room
  have hdl : (nmV (L.drop m)).length = q - m := by rw [nmV_len, List.length_drop, hq]
  have hlen : (L.take m ++ x :: L.drop m).length = q + 1 := by rw [List.length_append, List.length_take, List.length_cons, List.length_drop]; omega
  have hLl : (nmV L).length = q := by rw [nmV_len, hq]
  have hxs : ∀ j, j < q → (nmV L ++ [u])[j]? = (nmV L)[j]? := fun j hj => List.getElem?_append_left (by omega)
  have hdrop : ∀ j : Nat, (nmV (L.drop m))[j]? = (nmV L)[m + j]? := fun j => by unfold nmV; rw [List.getElem?_map, List.getElem?_map, List.getElem?_drop]
  have hz : ∀ j, j < q + 1 → (nmV (L.take m ++ x :: L.drop m))[j]? = if j < m then (nmV L)[j]? else if j = m then some (.string (T.mkF x)) else (nmV L)[j - 1]? := by
    intro j hj
    rw [nmV_append]
    by_cases h1 : j < m
    · rw [if_pos h1, List.getElem?_append_left (by rw [nmV_len, List.length_take]; omega)]
      unfold nmV
      rw [List.getElem?_map, List.getElem?_map, List.getElem?_take_of_lt h1]
    · rw [if_neg h1, List.getElem?_append_right (by rw [nmV_len, List.length_take]; omega), nmV_len, List.length_take, Nat.min_eq_left (by omega)]
      have e : nmV (x :: L.drop m) = .string (T.mkF x) :: nmV (L.drop m) := rfl
      rw [e]
      by_cases h2 : j = m
      · subst h2; rw [if_pos rfl, Nat.sub_self]; rfl
      · rw [if_neg h2, show j - m = (j - m - 1) + 1 by omega, List.getElem?_cons_succ, hdrop]
        congr 1
        omega
  have hsl : ∀ W : World, (Instr.slice 43 (.slice (some ⟨g, off, none⟩) (q + 1) cap) (some (.int .i64 ((m : Int) + 1))) none none).run Tryz.prog W = .ok (.slice (if cap = m + 1 then some ⟨g, off, none⟩ else some ⟨g, off + (m + 1), none⟩) (q - m) (cap - (m + 1))) W := fun W => by
    have := run_cut_str (W := W) (A := some ⟨g, off, none⟩) (n := q + 1) (cap := cap) (m + 1) (by omega)
    rw [show ((m + 1 : Nat) : Int) = (m : Int) + 1 by omega, show q + 1 - (m + 1) = q - m by omega] at this
    rw [this]
    simp [Addr.add_lit]
  by_cases hmq : m = q
  · refine ⟨_, w4.drew, cur, nmV L ++ [u], hsl, fun ty dc sc => ?_, hO.drew, Below.drew (Below.refl _ _), ?_⟩
    · rw [hmq, Nat.sub_self]
      exact run_copy_none (P := Tryz.prog) w4.drew 43 43 ty 9 _ _ 0 dc _ sc Tryz.underlying43 hi (by simp)
    · unfold OwnN
      rw [hlen]
      refine (hO.drew.write m [.string (T.mkF x)] (by simp; omega) (q + 1) hroom _ (by rw [nmV_len, hlen]) (fun j hj h1 => ?_) (fun j hj h1 h2 => ?_) (fun j hj h1 => ?_)).own
      · rw [hz j hj, if_pos h1, hO.at' j hj, hxs j (by omega)]
      · simp only [List.length_cons, List.length_nil] at h2
        obtain rfl : j = m := by omega
        rw [hz j hj, if_neg (by omega), if_pos rfl, Nat.sub_self]
        rfl
      · simp only [List.length_cons, List.length_nil] at h1
        omega
  · have hne : ¬ cap = m + 1 := by omega
    refine ⟨some ⟨g, off + (m + 1), none⟩, w4.drew.setCells g (off + (m + 1)) (nmV (L.drop m)), setArr cur (off + (m + 1)) (nmV (L.drop m)), ((setArr cur (off + (m + 1)) (nmV (L.drop m))).toList.drop off).take (q + 1), fun W => by rw [hsl W, if_neg hne], fun ty dc sc => ?_, ?_, ?_, ?_⟩
    · have := run_copy_cells (P := Tryz.prog) w4.drew 43 43 ty 9 g (off + (m + 1)) (q - m) dc ⟨g, off + m, none⟩ (q + 1 - m) sc (nmV (L.drop m)) Tryz.underlying43 hi (by rw [hdl]; simp only [Nat.min_def]; split <;> omega)
        (fun j v hj => by
          have hlt : j < q - m := by
            rcases Nat.lt_or_ge j (nmV (L.drop m)).length with h' | h'
            · rw [hdl] at h'; exact h'
            · rw [List.getElem?_eq_none h'] at hj; cases hj
          rw [Addr.add_lit, Nat.add_assoc]
          refine hO.drew.cell ?_
          rw [hxs _ (by omega), ← hdrop]
          exact hj)
        (fun j hj => by rw [hdl] at hj; rw [Nat.add_assoc]; exact hO.drew.there (by omega)) (fun j hj => hO.drew.free _) (nmV_one _)
      rw [hdl] at this
      exact this
    · have hf := hO.fits
      refine hO.drew.write (m + 1) (nmV (L.drop m)) (by rw [hdl]; omega) (q + 1) hroom _ (by rw [List.length_take, List.length_drop, Array.length_toList, setArr_size]; omega) (fun j hj h1 => ?_) (fun j hj h1 h2 => ?_) (fun j hj h1 => ?_)
      · rw [List.getElem?_take_of_lt hj, List.getElem?_drop, Array.getElem?_toList, setArr_lt _ _ _ _ (by omega)]
      · rw [List.getElem?_take_of_lt hj, List.getElem?_drop, Array.getElem?_toList, show off + j = off + (m + 1) + (j - (m + 1)) by omega, setArr_in _ _ _ _ (by omega) (by rw [hdl]; omega)]
      · rw [hdl] at h1; omega
    · exact Below.grown (Below.drew (Below.refl base w4)) (grownBy_setCells g _ _ w4.drew) hbase fun k hk => by cases hk; exact hO.low
    · unfold OwnN
      rw [hlen]
      have hf := hO.fits
      have hO5 : OwnZ (w4.drew.setCells g (off + (m + 1)) (nmV (L.drop m))) base g off cap (setArr cur (off + (m + 1)) (nmV (L.drop m))) (q + 1) (((setArr cur (off + (m + 1)) (nmV (L.drop m))).toList.drop off).take (q + 1)) :=
        ⟨by rw [List.length_take, List.length_drop, Array.length_toList, setArr_size]; omega, hO.low, heap_setCells_at g _ _ w4.drew cur 9 hO.row, hroom, hO.big, by rw [setArr_size]; exact hf, fun j hj => by rw [List.getElem?_take_of_lt hj, List.getElem?_drop, Array.getElem?_toList]⟩
      refine (hO5.write m [.string (T.mkF x)] (by simp; omega) (q + 1) hroom _ (by rw [nmV_len, hlen]) (fun j hj h1 => ?_) (fun j hj h1 h2 => ?_) (fun j hj h1 => ?_)).own
      · rw [hz j hj, if_pos h1, setArr_lt _ _ _ _ (by omega), hO.at' j hj, hxs j (by omega)]
      · simp only [List.length_cons, List.length_nil] at h2
        obtain rfl : j = m := by omega
        rw [hz j hj, if_neg (by omega), if_pos rfl, Nat.sub_self]
        rfl
      · simp only [List.length_cons, List.length_nil] at h1
        rw [hz j hj, if_neg (by omega), if_neg (by omega), show off + j = off + (m + 1) + (j - (m + 1)) by omega, setArr_in _ _ _ _ (by rw [hdl]; omega) (by rw [hdl]; omega), hdrop]
        congr 1
        omega
end Go.Proofs.YtclhbcicbnoohaaGreatDoor

/- Contracts of strings.Builder that the one command left out at this cut, laid by hand. No conditions. -/
namespace Go.Proofs
def Tryz.lays240_ren : Go.Shelf.Ren := ⟨fun | 240 => 112 | 276 => 129 | n => n, fun | 0 => 0 | 3 => 3 | 4 => 4 | 5 => 5 | 9 => 9 | 20 => 20 | 37 => 102 | 70 => 101 | 72 => 104 | 75 => 107 | 80 => 110 | 164 => 137 | n => n, fun | n => n⟩
theorem Tryz.lays240 : Go.Proofs.Lays.n240 Tryz.prog Tryz.lays240_ren := {
  mixed := by kernel_rfl
  f240 := Tryz.func112.trans (congrArg some (by kernel_rfl))
  f276 := Tryz.func129.trans (congrArg some (by kernel_rfl))
  t0 := Tryz.underlying0
  a0 := Tryz.isAgg0
  z0 := Tryz.sizeOf0
  v0 := Tryz.zeroValue0
  t4 := Tryz.underlying4
  a4 := Tryz.isAgg4
  z4 := Tryz.sizeOf4
  v4 := Tryz.zeroValue4
  t9 := Tryz.underlying9
  a9 := Tryz.isAgg9
  z9 := Tryz.sizeOf9
  v9 := Tryz.zeroValue9
  t20 := Tryz.underlying20
  a20 := Tryz.isAgg20
  z20 := Tryz.sizeOf20
  v20 := Tryz.zeroValue20
  t70 := Tryz.underlying101
  a70 := Tryz.isAgg101
  z70 := Tryz.sizeOf101
  v70 := Tryz.zeroValue101
  t72 := Tryz.underlying104
  a72 := Tryz.isAgg104
  z72 := Tryz.sizeOf104
  v72 := Tryz.zeroValue104
  t164 := Tryz.underlying137
  a164 := Tryz.isAgg137
  z164 := Tryz.sizeOf137
  v164 := Tryz.zeroValue137 }
def Tryz.lays166_ren : Go.Shelf.Ren := ⟨fun | 166 => 92 | 240 => 112 | 276 => 129 | n => n, fun | 0 => 0 | 3 => 3 | 4 => 4 | 5 => 5 | 9 => 9 | 20 => 20 | 37 => 102 | 70 => 101 | 72 => 104 | 75 => 107 | 80 => 110 | 164 => 137 | n => n, fun | n => n⟩
theorem Tryz.lays166 : Go.Proofs.Lays.n166 Tryz.prog Tryz.lays166_ren := {
  mixed := by kernel_rfl
  f166 := Tryz.func92.trans (congrArg some (by kernel_rfl))
  f240 := Tryz.func112.trans (congrArg some (by kernel_rfl))
  f276 := Tryz.func129.trans (congrArg some (by kernel_rfl))
  t0 := Tryz.underlying0
  a0 := Tryz.isAgg0
  z0 := Tryz.sizeOf0
  v0 := Tryz.zeroValue0
  t3 := Tryz.underlying3
  a3 := Tryz.isAgg3
  z3 := Tryz.sizeOf3
  v3 := Tryz.zeroValue3
  t4 := Tryz.underlying4
  a4 := Tryz.isAgg4
  z4 := Tryz.sizeOf4
  v4 := Tryz.zeroValue4
  t9 := Tryz.underlying9
  a9 := Tryz.isAgg9
  z9 := Tryz.sizeOf9
  v9 := Tryz.zeroValue9
  t20 := Tryz.underlying20
  a20 := Tryz.isAgg20
  z20 := Tryz.sizeOf20
  v20 := Tryz.zeroValue20
  t37 := Tryz.underlying102
  a37 := Tryz.isAgg102
  z37 := Tryz.sizeOf102
  v37 := Tryz.zeroValue102
  t70 := Tryz.underlying101
  a70 := Tryz.isAgg101
  z70 := Tryz.sizeOf101
  v70 := Tryz.zeroValue101
  t72 := Tryz.underlying104
  a72 := Tryz.isAgg104
  z72 := Tryz.sizeOf104
  v72 := Tryz.zeroValue104
  t75 := Tryz.underlying107
  a75 := Tryz.isAgg107
  z75 := Tryz.sizeOf107
  v75 := Tryz.zeroValue107
  t164 := Tryz.underlying137
  a164 := Tryz.isAgg137
  z164 := Tryz.sizeOf137
  v164 := Tryz.zeroValue137 }
theorem Tryz.Builder_X72_240 : Builder.X72 Tryz.prog Tryz.lays240_ren where
  sizeBuilder := by kernel_rfl
  liesBuilder := by kernel_rfl
open Go.RowKit in
theorem Tryz.Builder_copyCheck (B b : Nat) (bs : List Value) (w : World) (h : Lib.IsBuilder 104 5 B b bs w) :
    Calls Tryz.prog 112 #[.pointer (some ⟨b, 0, none⟩)] w fun e w' => e = .returned (.tuple #[]) ∧ (Lib.BuilderAt 104 5 B b (.pointer (some ⟨b, 0, none⟩)) bs w' ∧ Below B w w') := Any.Builder_copyCheck Tryz.lays240 Tryz.Builder_X72_240 B b bs w h
theorem Tryz.Builder_Extra_166 : Builder.Extra Tryz.prog Tryz.lays166_ren where
  sizeBuilder := by kernel_rfl
  liesBuilder := by kernel_rfl
  t5 := Tryz.underlying5
  a5 := Tryz.isAgg5
  z5 := Tryz.sizeOf5
  v5 := Tryz.zeroValue5
  infoByte := by kernel_rfl
  cellsByte := by kernel_rfl
  sizeByte := by kernel_rfl
  neB5 := by decide
open Go.RowKit in
theorem Tryz.Builder_WriteString (B b : Nat) (bs : List Value) (s : ByteArray) (w : World) (h : Lib.IsBuilder 104 5 B b bs w) (hlen : bs.length + s.size ≤ 140737488355328) (hBw : B ≤ w.heap.size) :
    Calls Tryz.prog 92 #[.pointer (some ⟨b, 0, none⟩), .string s] w fun e w' => e = .returned (.tuple #[.int .i64 s.size, .nilIface]) ∧ (Lib.BuilderAt 104 5 B b (.pointer (some ⟨b, 0, none⟩)) (bs ++ Lib.strCells s) w' ∧ Below B w w') := Any.Builder_WriteString Tryz.lays166 Tryz.Builder_Extra_166 B b bs s w h hlen hBw
open Go.RowKit in
theorem Tryz.Builder_copyCheck_f (B b : Nat) (bs : List Value) (w : World) (h : Lib.IsBuilderF 104 5 B b bs w) :
    Calls Tryz.prog 112 #[.pointer (some ⟨b, 0, none⟩)] w fun e w' => e = .returned (.tuple #[]) ∧ (Lib.BuilderAtF 104 5 B b (.pointer (some ⟨b, 0, none⟩)) bs w' ∧ Below B w w') := Any.Builder_copyCheck_f Tryz.lays240 Tryz.Builder_X72_240 B b bs w h
open Go.RowKit in
theorem Tryz.Builder_WriteString_f (B b : Nat) (bs : List Value) (s : ByteArray) (w : World) (h : Lib.IsBuilderF 104 5 B b bs w) (hlen : bs.length + s.size ≤ 140737488355328) (hBw : B ≤ w.heap.size) :
    Calls Tryz.prog 92 #[.pointer (some ⟨b, 0, none⟩), .string s] w fun e w' => e = .returned (.tuple #[.int .i64 s.size, .nilIface]) ∧ (Lib.BuilderAtF 104 5 B b (.pointer (some ⟨b, 0, none⟩)) (bs ++ Lib.strCells s) w' ∧ Below B w w') := Any.Builder_WriteString_f Tryz.lays166 Tryz.Builder_Extra_166 B b bs s w h hlen hBw
open Go.RowKit in
theorem Tryz.Builder_copyCheck_k (B b : Nat) (bs : List Value) (w : World) (h : Lib.IsBuilderF 104 5 B b bs w) :
    Calls Tryz.prog 112 #[.pointer (some ⟨b, 0, none⟩)] w fun e w' => e = .returned (.tuple #[]) ∧ (Lib.BuilderAtF 104 5 B b (.pointer (some ⟨b, 0, none⟩)) bs w' ∧ Below B w w' ∧ Lib.OthersKept 5 (some b) w w') := Any.Builder_copyCheck_k Tryz.lays240 Tryz.Builder_X72_240 B b bs w h
open Go.RowKit in
theorem Tryz.Builder_WriteString_k (B b : Nat) (bs : List Value) (s : ByteArray) (w : World) (h : Lib.IsBuilderF 104 5 B b bs w) (hlen : bs.length + s.size ≤ 140737488355328) (hBw : B ≤ w.heap.size) :
    Calls Tryz.prog 92 #[.pointer (some ⟨b, 0, none⟩), .string s] w fun e w' => e = .returned (.tuple #[.int .i64 s.size, .nilIface]) ∧ (Lib.BuilderAtF 104 5 B b (.pointer (some ⟨b, 0, none⟩)) (bs ++ Lib.strCells s) w' ∧ Below B w w' ∧ Lib.OthersKept 5 (some b) w w') := Any.Builder_WriteString_k Tryz.lays166 Tryz.Builder_Extra_166 B b bs s w h hlen hBw
end Go.Proofs

/- Lists of texts: codec's list of Text, Texts. -/
namespace Go.Proofs.YtclhbcicbnoohaaGreatDoor
open Go.RowKit Go.Lib

theorem byteCells_mkB (a : List UInt8) (b : List UInt8) : Lib.byteCells a ++ strCells (mkB b) = Lib.byteCells (a ++ b) := by
  unfold Lib.byteCells strCells
  rw [List.map_append]
  rfl
theorem bld_ext {B b : Nat} {bs : List Value} {W W' : World} (h : IsBuilderF 104 5 B b bs W) (e : Ext W W') : IsBuilderF 104 5 B b bs W' := by
  rcases h with h | h
  · have hlt := h.lt
    obtain ⟨hB, v, hv, ho, hne⟩ := h
    exact .inl ⟨hB, v, (e.block b hlt).trans hv, ho.kept (row := none) ⟨e.os, e.tape, e.output, e.size, fun k hk _ => e.block k hk⟩ (Classical.em _), hne⟩
  · have hlt := h.lt
    obtain ⟨hB, v, hv, ho, hne⟩ := h
    exact .inr ⟨hB, v, (e.block b hlt).trans hv, ho.kept (row := none) ⟨e.os, e.tape, e.output, e.size, fun k hk _ => e.block k hk⟩ (Classical.em _), hne⟩
theorem txsK_le (l : List ByteArray) (h2 : ∀ s ∈ l, s.size ≤ 65536) (hl : l.length ≤ 1024) : ∀ k, k ≤ l.length → (txsK l k).length ≤ 100 + k * 100000
  | 0, _ => by
    rw [txsK_zero]
    have := dec_len 15 l.length (by omega)
    unfold C.num
    simp only [List.length_append, List.length_cons, List.length_nil]
    omega
  | k + 1, h => by
    have ih := txsK_le l h2 hl k (by omega)
    have := txt_len (h2 l[k] (List.getElem_mem (by omega)))
    rw [txsK_succ l (by omega), List.length_append]
    omega
set_option maxRecDepth 100000 in
set_option maxHeartbeats 2000000 in
theorem list_any (l : List ByteArray) (A : Option Addr) (n c : Nat) (w : World) (hn : n = l.length) (hA : TxsAt w A l) (h1 : n ≤ 1024) (h2 : ∀ s ∈ l, s.size ≤ 65536) (hg : Gl w) : Calls Tryz.prog 102 #[.slice A n c, .func (.func 103) #[] #[]] w (Al (.tuple #[.string (mkB (txsL l)), .int .i64 0]) w) := by
  have HN := Lib.hid hn
  have HA := Lib.hid hA
  have H2 := Lib.hid h2
  have HG := Lib.hid hg
  have HLE := Lib.hid (txsK_le l h2 (by omega))
  obtain ⟨R, hR⟩ : ∃ R, R = mkB (txsL l) := ⟨_, rfl⟩
  rw [← hR]
  have HR := Lib.hid hR
  have HI : Hid (∀ W, Ext w W → Calls Tryz.prog 122 #[.int .i64 (n : Int)] W (Al (.string (mkB (C.dec n))) W)) := fun W hW => by
    have := Itoa_any (n : Int) W (by omega) (by omega) (HG.out.ext hW)
    rwa [Int.toNat_natCast] at this
  have HNS : Hid (mkB (C.dec n) ++ ⟨#[59]⟩ = mkB (txsK l 0)) := by unfold Hid; rw [numS, txsK_zero, hn]
  have hdl : (mkB (C.dec n)).size ≤ 16 := by rw [mkB_size]; exact dec_len 15 _ (by omega)
  clear hR hn hA h2 hg
  generalize mkB (C.dec n) = dn at HI HNS hdl
  go_enter Tryz.func102, Tryz.ntmps102
  go_wp2_with fail
  refine (HI.out _ ((Ext.refl w).alloc _)).mono ?_
  rintro e w1 ⟨rfl, hx1⟩
  have hb1 := bld_ext (IsBuilderF.of (fresh_isBuilder 104 5 w)) hx1
  have X1 : Hid (Ext w w1) := ((Ext.refl w).alloc _).trans hx1
  have hsz1 := X1.out.size
  have HB1 := Lib.hid hb1
  have hds : (dn ++ (⟨#[59]⟩ : ByteArray)).size ≤ 17 := by rw [ByteArray.size_append]; show _ + 1 ≤ _; omega
  have HDS := Lib.hid hds
  clear hx1 hb1 hds
  go_wp2_with fail
  refine (Tryz.Builder_WriteString_f _ _ _ _ _ HB1.out (by have := HDS.out; simp only [List.length_nil]; omega) hsz1).mono ?_
  rintro e w2 ⟨rfl, hb2, hbw2⟩
  have X2 : Hid (Ext w w2) := Below.trans X1.out hbw2
  have HB2 : Hid (IsBuilderF 104 5 w.heap.size w.heap.size (Lib.byteCells (txsK l 0)) w2) := by
    rw [HNS.out] at hb2
    exact .inr hb2
  clear hb2 hbw2 HB1 X1
  go_wp2_with fail
  go_loopw [21] (fun i wr => ∃ k : Nat, k ≤ n ∧ i = .int .i64 k ∧ Hid (IsBuilderF 104 5 w.heap.size w.heap.size (Lib.byteCells (txsK l k)) wr ∧ Ext w wr)) (fun i _ => n - (intOf i).toNat)
  case atStart => exact ⟨0, Nat.zero_le _, rfl, HB2.out, X2.out⟩
  case round =>
    clear HB2 X2
    obtain ⟨k, hk, rfl, HK⟩ := hrel
    by_cases hlt : k < n
    · have hkl : k < l.length := by rw [← HN.out]; exact hlt
      obtain ⟨g, off, hAe, hc⟩ := HA.out.ext HK.out.2 k hkl
      have hs := H2.out l[k] (List.getElem_mem hkl)
      have HT : Hid (∀ W, Ext w W → Calls Tryz.prog 103 #[.string l[k]] W (Al (.tuple #[.string (mkB (C.txt l[k].data.toList)), .int .i64 0]) W)) := fun W hW => by
        rw [← txtV_ok hs]
        exact Text_any' _ W (by omega) (HG.out.ext hW)
      have htl : (mkB (C.txt l[k].data.toList)).size ≤ 100000 := by rw [mkB_size]; exact txt_len hs
      have HB : Hid (Lib.byteCells (txsK l k) ++ strCells (mkB (C.txt l[k].data.toList)) = Lib.byteCells (txsK l (k + 1))) := by unfold Hid; rw [byteCells_mkB, txsK_succ l hkl]
      have hlen := HLE.out k (by omega)
      have HLEN : Hid ((Lib.byteCells (txsK l k)).length ≤ 100 + k * 100000) := by unfold Hid; rw [Lib.byteCells_length]; exact hlen
      have hsz : l[k].size ≤ 65536 := hs
      clear hs hlen
      generalize mkB (C.txt l[k].data.toList) = tx at HT HB htl
      generalize l[k] = x at hc HT hsz
      subst hAe
      go_wp2_with fail
      refine (HT.out _ HK.out.2).mono ?_
      rintro e w5 ⟨rfl, hx5⟩
      have X5 := Lib.hid (Ext.trans HK.out.2 hx5 : Ext w w5)
      have B5 := Lib.hid (bld_ext HK.out.1 hx5)
      have hsz5 := X5.out.size
      clear hx5 HK
      go_wp2_with fail
      refine (Tryz.Builder_WriteString_f _ _ _ _ _ B5.out (by have := HLEN.out; omega) hsz5).mono ?_
      rintro e w6 ⟨rfl, hb6, hbw6⟩
      have X6 : Hid (Ext w w6) := Below.trans X5.out hbw6
      have B6 : Hid (IsBuilderF 104 5 w.heap.size w.heap.size (Lib.byteCells (txsK l (k + 1))) w6) := by
        rw [HB.out] at hb6
        exact .inr hb6
      clear hb6 hbw6 B5 X5
      go_wp2_with fail
      exact ⟨⟨k + 1, by omega, by go_num, B6.out, X6.out⟩, by simp [intOf]; omega⟩
    · have hkn : k = n := by omega
      have HB : Hid (IsBuilderF 104 5 w.heap.size w.heap.size (Lib.byteCells (txsL l)) wr) := by
        have := HK.out.1
        rw [hkn, HN.out, txsK_end] at this
        exact this
      have X := Lib.hid HK.out.2
      have hsz := X.out.size
      have hdk : decide (k < n) = false := decide_eq_false hlt
      clear HK hkn hk
      go_wp2_with fail
      refine (Tryz.Builder_String_any_f _ _ _ _ HB.out hsz).mono ?_
      rintro e w2 ⟨rfl, hbw⟩
      go_wp2_with fail
      go_ret2
      exact ⟨by rw [HR.out]; rfl, Below.trans X.out hbw.2⟩
theorem Texts_any (l : List ByteArray) (A : Option Addr) (n c : Nat) (w : World) (hn : n = l.length) (hA : TxsAt w A l) (h1 : n ≤ 1024) (h2 : ∀ s ∈ l, s.size ≤ 65536) (hg : Gl w) : Calls Tryz.prog 81 #[.slice A n c] w (Al (.tuple #[.string (mkB (txsL l)), .int .i64 0]) w) := by
  obtain ⟨R, hR⟩ : ∃ R, R = mkB (txsL l) := ⟨_, rfl⟩
  have HL := Lib.hid (list_any l A n c w hn hA h1 h2 hg)
  rw [← hR] at HL ⊢
  clear hR hn hA h2 hg
  go_enter Tryz.func81, Tryz.ntmps81
  go_wp2_with fail
  refine HL.out.mono ?_
  rintro e w1 ⟨rfl, hx1⟩
  have X1 := Lib.hid hx1
  clear hx1
  go_wp2_with fail
  go_ret2
  exact ⟨rfl, X1.out⟩
end Go.Proofs.YtclhbcicbnoohaaGreatDoor

/- The reference's id: the names of a tree, their values, the digest. -/
namespace Go.Proofs.YtclhbcicbnoohaaGreatDoor
open Go.RowKit

theorem part_first (s : ByteArray) : ∃ (h : 0 < (partsB 47 s).length), (partsB 47 s)[0] = T.mkF (T.fstP s.data.toList) := by
  have h1 := T.segs_head s.data.toList
  unfold partsB
  cases hs : Seg.segs 47 s.data.toList with
  | nil => rw [hs] at h1; cases h1
  | cons a l =>
    rw [hs] at h1
    cases h1
    exact ⟨by simp, rfl⟩
theorem dig_is (b : ByteArray) : dig b = ⟨(D.sha b.data.toList).toArray⟩ := rfl
theorem mkF_toList (l : T.Bs) : (T.mkF l).toList = l := by rw [ByteArray.toList_eq]; exact T.mkF_data l
/-- The cells of names. -/
theorem OwnN.cells {w : World} {base : Nat} {v : Value} {l : List T.Bs} (h : OwnN w base v l) : ∃ q A c, q = l.length ∧ v = .slice A q c ∧ q ≤ c ∧ c ≤ 9223372036854775807 ∧ OwnAt w base 9 1 (.slice A q c) q (nmV l) ∧
    ∀ j (hj : j < l.length), ∃ g off, A = some ⟨g, off, none⟩ ∧ ∀ w', Ext w w' → w'.cell? ⟨g, off + j, none⟩ = some (.string (T.mkF l[j])) := by
  by_cases hl : l = []
  · subst hl
    obtain ⟨_, ⟨rfl, _⟩ | ⟨g, off, cap, cur, rfl, _, _, hn, hc, _⟩⟩ := id h
    · exact ⟨0, none, 0, rfl, rfl, Nat.le_refl _, by decide, h, fun j hj => by simp at hj⟩
    · exact ⟨0, _, cap, rfl, rfl, Nat.zero_le _, hc, h, fun j hj => by simp at hj⟩
  · obtain ⟨g, off, cap, rfl, _, _, hn, hc, hcell⟩ := OwnAt.cells h (List.length_pos_iff.2 hl)
    exact ⟨l.length, _, cap, rfl, rfl, hn, hc, h, fun j hj => ⟨g, off, rfl, fun w' hw' => hw'.keepc (hcell j _ (by simp [nmV, hj]))⟩⟩
/-- What the call of itself is known to give. -/
def IdHyp (fn : Nat) (n : Nat) : Prop := ∀ (t : T.Tr) (A : Option Addr) (c m : Nat) (w : World), m = t.length → SliceAt fileR w (Old w) A c t → T.Ok okB t → (∃ k, n = k + 1 ∧ T.Deep k t) → Calls Tryz.prog fn #[.slice A m c] w (Al (.string (T.idS n t)) w)
theorem le_split {y x : T.Bs} (h : y ≤ x) : (Op.bytesLess (T.mkF y).toList (T.mkF x).toList = true ∧ ((T.mkF y).toList == (T.mkF x).toList) = false ∧ decide (y = x) = false) ∨ (Op.bytesLess (T.mkF y).toList (T.mkF x).toList = false ∧ ((T.mkF y).toList == (T.mkF x).toList) = true ∧ decide (y = x) = true) := by
  rw [less_dec, eq_dec, T.mkF_data, T.mkF_data]
  rcases List.le_iff_lt_or_eq.1 h with h1 | h1
  · refine .inl ⟨decide_eq_true h1, ?_, ?_⟩ <;> exact decide_eq_false fun e => T.lt_irrefl _ (e ▸ h1)
  · subst h1; exact .inr ⟨decide_eq_false (T.lt_irrefl _), decide_eq_true rfl, decide_eq_true rfl⟩
theorem le_nope {y x : T.Bs} (h : ¬ y ≤ x) : Op.bytesLess (T.mkF y).toList (T.mkF x).toList = false ∧ ((T.mkF y).toList == (T.mkF x).toList) = false := by
  rw [less_dec, eq_dec, T.mkF_data, T.mkF_data]
  have := T.lt_of_not_le h
  exact ⟨decide_eq_false fun h1 => T.lt_irrefl _ (T.lt_trans h1 this), decide_eq_false fun e => T.lt_irrefl _ (e ▸ this)⟩
set_option maxRecDepth 100000 in
set_option maxHeartbeats 8000000 in
theorem rid_step (N : Nat) (IH : IdHyp 64 N) (t : T.Tr) (A : Option Addr) (c n : Nat) (w : World) (hn : n = t.length) (hA : SliceAt fileR w (Old w) A c t) (hok : T.Ok okB t) (hdp : T.Deep N t) :
    Calls Tryz.prog 64 #[.slice A n c] w (Al (.string (T.idS (N + 1) t)) w) := by
  obtain ⟨i0, hi, hz0, hz1, hz2⟩ := info_parts str_info
  have hn64 : n ≤ 64 := by rw [hn]; exact hok.few
  obtain ⟨Z, hZ⟩ : ∃ Z, Z = T.idS (N + 1) t := ⟨_, rfl⟩
  rw [← hZ]
  have HZ := Lib.hid hZ
  have HN := Lib.hid hn
  have HA := Lib.hid hA
  have HPS : Hid (∀ f ∈ t, f.1.size ≤ 128) := fun f hf => okB_size (hok.path f hf)
  have HOK := Lib.hid hok
  have HDP := Lib.hid hdp
  have HIH := Lib.hid IH
  clear hZ hn hA hok hdp IH
  go_enter Tryz.func64, Tryz.ntmps64
  go_wp2_with fail
  go_loopw [18, 3] (fun i v wr => ∃ k : Nat, k ≤ n ∧ i = .int .i64 k ∧ OwnN wr w.heap.size v (T.namesK t k) ∧ Hid (Ext w wr)) (fun i _ _ => n - (intOf i).toNat)
  case atStart => exact ⟨0, Nat.zero_le _, rfl, OwnAt.nil _ _ _ _, Ext.refl _⟩
  case round =>
    obtain ⟨k, hk, rfl, hown, HX⟩ := hrel
    by_cases hlt : k < n
    · have hkl : k < t.length := by rw [← HN.out]; exact hlt
      obtain ⟨b, off, hAe, hb, c0, c1, h1, h2⟩ := file_get (HA.out.ext HX.out) hkl
      subst hAe
      rw [← Nat.add_assoc] at c1
      have hps := HPS.out t[k] (List.getElem_mem hkl)
      obtain ⟨q, Ao, co, hq, rfl, hqc, hc63, hown', hcl⟩ := hown.cells
      have hql : q ≤ 64 := by rw [hq]; have := T.namesK_length t k; omega
      have HQ := Lib.hid hq
      have HCL := Lib.hid hcl
      have HSO := Lib.hid (T.namesK_sorted t k)
      have HNS := Lib.hid (T.namesK_succ hkl)
      have HNL : Hid ((T.namesK t (k + 1)).length ≤ k + 1) := T.namesK_length t (k + 1)
      clear hown hq hcl
      have HSP : Hid (∀ W, Calls Tryz.prog 62 #[.string t[k].1, .int .u8 47] W (RetStrs W (partsB 47 t[k].1))) := fun W => refSplit_any t[k].1 47 W (by omega)
      have hpf := part_first t[k].1
      have hpp : T.pth t[k] = t[k].1.data.toList := rfl
      rw [hpp] at HNS
      clear hpp
      generalize t[k] = f at *
      obtain ⟨fp, fd⟩ := f
      simp only at c0 c1 h1 h2 hps HSP HNS hpf
      obtain ⟨L, hL⟩ : ∃ L, L = T.namesK t k := ⟨_, rfl⟩
      rw [← hL] at HQ HCL HSO HNS hown'
      have HL := Lib.hid hL
      clear hL
      generalize T.fstP fp.data.toList = x at HNS hpf
      generalize partsB 47 fp = parts at HSP hpf
      obtain ⟨hp0, hpx⟩ := hpf
      go_wp2_with fail
      refine (HSP.out _).mono ?_
      rintro e w5 ⟨sv, rfl, hos, d5⟩
      obtain ⟨As, cs, rfl, hss⟩ := StrsAt.of_own hos
      obtain ⟨bs, os, rfl, hsc⟩ := hss.2.2 0 hp0
      have s0 := hsc w5 (Ext.refl w5)
      rw [hpx, Nat.add_zero] at s0
      obtain ⟨PN, hPN⟩ : ∃ PN, PN = parts.length := ⟨_, rfl⟩
      have hPN0 : 0 < PN := by rw [hPN]; exact hp0
      have hPN63 : PN ≤ 9223372036854775807 := by rw [hPN]; exact hss.2.1
      rw [← hPN]
      clear hPN hss hsc hos hpx HSP
      have HX5 : Hid (Ext wr w5) := (show Ext wr (wr.alloc _) from (Ext.refl wr).alloc _).trans d5
      have hown5 := hown'.ext HX5.out
      clear d5
      go_wp2_with fail
      clear s0 c0 c1
      go_loopw [7, 8] (fun a d wi => ∃ m : Nat, m ≤ q ∧ a = .int .i64 m ∧ d = .bool (known L x m) ∧ Hid ((∀ i (h : i < L.length), i < m → L[i] ≤ x) ∧ Ext w5 wi)) (fun a _ _ => q - (intOf a).toNat)
      case atStart => exact ⟨0, Nat.zero_le _, rfl, rfl, fun _ _ h => absurd h (Nat.not_lt_zero _), Ext.refl _⟩
      case round =>
        obtain ⟨m, hm, rfl, rfl, HM⟩ := hrel
        have HXM := Lib.hid HM.out.2
        have HLE := Lib.hid HM.out.1
        clear HM
        by_cases hmq : m < q
        · have hml : m < L.length := by rw [← HQ.out]; exact hmq
          obtain ⟨gn, on, hAo, hcn⟩ := HCL.out m hml
          subst hAo
          have cn2 := hcn _ (HX5.out.trans HXM.out)
          have HKS := Lib.hid (known_succ (x := x) hml)
          have HST : Hid (L[m] ≤ x → ∀ i (h : i < L.length), i < m + 1 → L[i] ≤ x) := fun h0 i h' h'' => by
            rcases Nat.lt_or_ge i m with h3 | h3
            · exact HLE.out i h' h3
            · obtain rfl : i = m := by omega
              exact h0
          have HKE : Hid (¬ L[m] ≤ x → known L x m = decide (x ∈ L)) := fun h0 => known_end HSO.out (by omega) fun _ => h0
          have HIA : Hid (¬ L[m] ≤ x → x ∉ L → T.insN x L = L.take m ++ x :: L.drop m) := fun h0 h3 => insN_at HSO.out (by omega) HLE.out (fun _ => h0) h3
          clear hcn
          generalize L[m] = y at *
          by_cases hyx : y ≤ x
          · have HQ1 := Lib.hid (HST.out hyx)
            clear HST HKE HIA
            rcases le_split hyx with ⟨g1, g2, g3⟩ | ⟨g1, g2, g3⟩
            all_goals
              rw [g3] at HKS
              clear g3 hyx
              generalize known L x m = kb at *
              cases kb
              · have HK2 := Lib.hid HKS.out
                clear HKS
                go_wp2_with fail
                go_roundw
                case rel => exact ⟨m + 1, by omega, by go_num, by rw [HK2.out]; rfl, HQ1.out, HXM.out⟩
                case measure => simp [intOf]; omega
              · have HK2 := Lib.hid HKS.out
                clear HKS
                go_wp2_with fail
                go_roundw
                case rel => exact ⟨m + 1, by omega, by go_num, by rw [HK2.out]; rfl, HQ1.out, HXM.out⟩
                case measure => simp [intOf]; omega
          · obtain ⟨g1, g2⟩ := le_nope hyx
            have HK2 := Lib.hid (HKE.out hyx)
            have HI2 := Lib.hid (HIA.out hyx)
            clear HKE HIA HST HKS hyx
            have hmq' : m < q := hmq
            by_cases hin : x ∈ L
            · rw [decide_eq_true hin] at HK2
              have HF : Hid (T.namesK t (k + 1) = L) := by unfold Hid; rw [HNS.out]; exact insN_in HSO.out hin
              have hkk := HK2.out
              clear HK2 HI2 hin
              go_wp2_with fail
              go_roundw
              case rel => exact ⟨k + 1, by omega, by go_num, by unfold OwnN; rw [HF.out, ← HQ.out]; exact hown5.ext HXM.out, (HX.out.trans HX5.out).trans HXM.out⟩
              case measure => simp [intOf]; omega
            · rw [decide_eq_false hin] at HK2
              have HF : Hid (T.namesK t (k + 1) = L.take m ++ x :: L.drop m) := by unfold Hid; rw [HNS.out]; exact HI2.out hin
              have hkk := HK2.out
              clear HK2 HI2 hin
              have hown6 := hown5.ext HXM.out
              have HXW : Hid (Ext w wr) := (HX.out.trans HX5.out).trans HXM.out
              go_wp2_with (at_builtin; refine wpList_append_ownAt _ rfl (.tmp 52) (.tmp 53) 43 rfl w.heap.size 9 i0 (.string ⟨#[]⟩) 1 16 Tryz.underlying43 hi hz0 hz1 hz2 rfl (by decide) _ _ _ rfl (hown6.alloc _) ⟨_, 0, none⟩ 1 1 [.string ⟨#[]⟩] rfl rfl (cell_one_new _ _ _) (by simp [Value.oneCell']) (by unfold maxLen; omega) (by omega) (Nat.le_trans HXW.out.size (by simp)) (by decide) ?_; intro v4 w4 hown4 hg4 hold4 _)
              have HX4 : Hid (Ext w w4) := (HXW.out.alloc _).grown hold4 hg4
              obtain ⟨g4, o4, cap4, cur4, rfl, hO⟩ := ownZ_of hown4 (by omega)
              obtain ⟨D, W5, cur5, zs5, hsl, hcp, hO5, hB5, hfin⟩ := name_shift L x _ w4 w.heap.size g4 o4 cap4 cur4 q m HQ.out (by omega) hO HX4.out.size
              have hroom := hO.room
              have hcap63 := hO.big
              have HCP := Lib.hid hcp
              have HO5 := Lib.hid hO5
              have HB5 : Hid (Ext w W5) := Below.trans HX4.out hB5
              have HFIN : Hid (OwnN (W5.setCells g4 (o4 + m) [.string (T.mkF x)]) w.heap.size (.slice (some ⟨g4, o4, none⟩) (q + 1) cap4) (T.namesK t (k + 1))) := by rw [HF.out]; exact hfin
              have HLOW : Hid (w.heap.size ≤ g4) := hO.low
              obtain ⟨xx, hxx⟩ := Option.isSome_iff_exists.1 (hO5.there (j := m) (by omega))
              have hfz := hO5.free (o4 + m)
              clear hcp hO hO5 hB5 hfin hown4 hg4 hold4 hown6 hown5 hown' HF
              have hcm : ¬ cap4 = m := by omega
              have hs2 : ∀ W : World, (Instr.slice 43 (.slice (some ⟨g4, o4, none⟩) (q + 1) cap4) (some (.int .i64 (m : Int))) none none).run Tryz.prog W = .ok (.slice (some ⟨g4, o4 + m, none⟩) (q + 1 - m) (cap4 - m)) W := fun W => by
                have := run_cut_str (W := W) (A := some ⟨g4, o4, none⟩) (n := q + 1) (cap := cap4) m (by omega)
                rw [this, if_neg hcm]
                simp [Addr.add_lit]
              have ht1 : ((m : Int) + 1).toNat = m + 1 := by omega
              have hw1 : IntKind.i64.wrap ((m : Int) + 1) = (m : Int) + 1 := by rw [IntKind.wrap_i64]; omega
              go_wp2_with fail
              obtain ⟨Φ, hΦ⟩ : ∃ Φ : World → Prop, ∀ x, Φ x := ⟨fun _ => True, fun _ => trivial⟩
              have h0 : Φ w4.drew := hΦ _
              have hne' := Lat.some h0
              have HΦ := Lib.hid hΦ
              clear hΦ
              refine wp_region_lat [7] Φ h0 (by kernel_rfl) (by kernel_rfl) (by kernel_rfl) ?_
              iterate 7 (refine lex_pure rfl rfl rfl ?_; intro K hK; go_big_quiet_op; go_big_quiet_on)
              refine lex_eff rfl ?_
              refine wpList_copy_at _ rfl (.tmp 58) (.tmp 61) 43 43 rfl _ _ rfl rfl (HCP.out _ _ _) ?_
              go_wp2_with fail
              refine ⟨⟨⟨_, HΦ.out _⟩, rfl⟩, ?_⟩
              refine lex_nil ?_
              clear hne' h0 hsl hs2
              go_wp2_with fail
              go_roundw
              case rel => exact ⟨k + 1, by omega, by go_num, by have := HFIN.out; exact this, HB5.out.grownNew HLOW.out (grownBy_setCells g4 [.string (T.mkF x)] (o4 + m) W5)⟩
              case measure => simp [intOf]; omega
        · have HMQ : Hid (m = q) := by unfold Hid; omega
          have HK2 : Hid (known L x m = decide (x ∈ L)) := known_end HSO.out (by have := HQ.out; omega) fun h => by have := HQ.out; have := HMQ.out; omega
          have HI2 : Hid (x ∉ L → T.insN x L = L.take m ++ x :: L.drop m) := fun h3 => insN_at HSO.out (by have := HQ.out; omega) HLE.out (fun h => by have := HQ.out; have := HMQ.out; omega) h3
          have hdm : decide (m < q) = false := decide_eq_false hmq
          clear hmq
          by_cases hin : x ∈ L
          · rw [decide_eq_true hin] at HK2
            have HF : Hid (T.namesK t (k + 1) = L) := by unfold Hid; rw [HNS.out]; exact insN_in HSO.out hin
            have hkk := HK2.out
            clear HK2 HI2 hin
            go_wp2_with fail
            go_roundw
            case rel => exact ⟨k + 1, by omega, by go_num, by unfold OwnN; rw [HF.out, ← HQ.out]; exact hown5.ext HXM.out, (HX.out.trans HX5.out).trans HXM.out⟩
            case measure => simp [intOf]; omega
          · rw [decide_eq_false hin] at HK2
            have HF : Hid (T.namesK t (k + 1) = L.take m ++ x :: L.drop m) := by unfold Hid; rw [HNS.out]; exact HI2.out hin
            have hkk := HK2.out
            clear HK2 HI2 hin
            have hown6 := hown5.ext HXM.out
            have HXW : Hid (Ext w wr) := (HX.out.trans HX5.out).trans HXM.out
            go_wp2_with (at_builtin; refine wpList_append_ownAt _ rfl (.tmp 52) (.tmp 53) 43 rfl w.heap.size 9 i0 (.string ⟨#[]⟩) 1 16 Tryz.underlying43 hi hz0 hz1 hz2 rfl (by decide) _ _ _ rfl (hown6.alloc _) ⟨_, 0, none⟩ 1 1 [.string ⟨#[]⟩] rfl rfl (cell_one_new _ _ _) (by simp [Value.oneCell']) (by unfold maxLen; omega) (by omega) (Nat.le_trans HXW.out.size (by simp)) (by decide) ?_; intro v4 w4 hown4 hg4 hold4 _)
            have HX4 : Hid (Ext w w4) := (HXW.out.alloc _).grown hold4 hg4
            obtain ⟨g4, o4, cap4, cur4, rfl, hO⟩ := ownZ_of hown4 (by omega)
            obtain ⟨D, W5, cur5, zs5, hsl, hcp, hO5, hB5, hfin⟩ := name_shift L x _ w4 w.heap.size g4 o4 cap4 cur4 q m HQ.out (by omega) hO HX4.out.size
            have hroom := hO.room
            have hcap63 := hO.big
            have HCP := Lib.hid hcp
            have HO5 := Lib.hid hO5
            have HB5 : Hid (Ext w W5) := Below.trans HX4.out hB5
            have HFIN : Hid (OwnN (W5.setCells g4 (o4 + m) [.string (T.mkF x)]) w.heap.size (.slice (some ⟨g4, o4, none⟩) (q + 1) cap4) (T.namesK t (k + 1))) := by rw [HF.out]; exact hfin
            have HLOW : Hid (w.heap.size ≤ g4) := hO.low
            obtain ⟨xx, hxx⟩ := Option.isSome_iff_exists.1 (hO5.there (j := m) (by omega))
            have hfz := hO5.free (o4 + m)
            clear hcp hO hO5 hB5 hfin hown4 hg4 hold4 hown6 hown5 hown' HF
            have hcm : ¬ cap4 = m := by omega
            have hs2 : ∀ W : World, (Instr.slice 43 (.slice (some ⟨g4, o4, none⟩) (q + 1) cap4) (some (.int .i64 (m : Int))) none none).run Tryz.prog W = .ok (.slice (some ⟨g4, o4 + m, none⟩) (q + 1 - m) (cap4 - m)) W := fun W => by
              have := run_cut_str (W := W) (A := some ⟨g4, o4, none⟩) (n := q + 1) (cap := cap4) m (by omega)
              rw [this, if_neg hcm]
              simp [Addr.add_lit]
            have ht1 : ((m : Int) + 1).toNat = m + 1 := by omega
            have hw1 : IntKind.i64.wrap ((m : Int) + 1) = (m : Int) + 1 := by rw [IntKind.wrap_i64]; omega
            go_wp2_with fail
            obtain ⟨Φ, hΦ⟩ : ∃ Φ : World → Prop, ∀ x, Φ x := ⟨fun _ => True, fun _ => trivial⟩
            have h0 : Φ w4.drew := hΦ _
            have hne' := Lat.some h0
            have HΦ := Lib.hid hΦ
            clear hΦ
            refine wp_region_lat [7] Φ h0 (by kernel_rfl) (by kernel_rfl) (by kernel_rfl) ?_
            iterate 7 (refine lex_pure rfl rfl rfl ?_; intro K hK; go_big_quiet_op; go_big_quiet_on)
            refine lex_eff rfl ?_
            refine wpList_copy_at _ rfl (.tmp 58) (.tmp 61) 43 43 rfl _ _ rfl rfl (HCP.out _ _ _) ?_
            go_wp2_with fail
            refine ⟨⟨⟨_, HΦ.out _⟩, rfl⟩, ?_⟩
            refine lex_nil ?_
            clear hne' h0 hsl hs2
            go_wp2_with fail
            go_roundw
            case rel => exact ⟨k + 1, by omega, by go_num, by have := HFIN.out; exact this, HB5.out.grownNew HLOW.out (grownBy_setCells g4 [.string (T.mkF x)] (o4 + m) W5)⟩
            case measure => simp [intOf]; omega
    · obtain rfl : k = n := by omega
      obtain ⟨W1, rfl⟩ : ∃ W, W = wr := ⟨wr, rfl⟩
      have hnm : T.namesK t k = T.names t := by unfold T.names; rw [← HN.out]
      rw [hnm] at hown
      obtain ⟨q, Ao, co, hq, rfl, hqc, hc63, hown', hcl⟩ := hown.cells
      obtain ⟨L, hL⟩ : ∃ L, L = T.names t := ⟨_, rfl⟩
      have HMM : Hid (∀ y ∈ L, nameB y = true ∧ y ∈ T.names t) := fun y hy => by rw [hL] at hy; exact ⟨T.names_ok HOK.out hy, hy⟩
      have hqk : q ≤ 64 := by rw [hq]; have := T.namesK_length t t.length; have := HN.out; unfold T.names; omega
      rw [← hL] at hq hcl
      have HQ := Lib.hid hq
      have HCL := Lib.hid hcl
      have HZ2 : Hid (Z = dig (⟨#[100]⟩ ++ mkB (txsL (T.listK (T.idS N) t L)))) := by unfold Hid; rw [HZ.out, T.idS, hL]
      clear hown hown' hq hcl hL hnm HZ
      go_wp2_with fail
      go_loopw [70, 9] (fun i v wi => ∃ j : Nat, j ≤ q ∧ i = .int .i64 j ∧ OwnStrs wi W1.heap.size v (T.listK (T.idS N) t (L.take j)) ∧ Hid (Ext W1 wi)) (fun i _ _ => q - (intOf i).toNat)
      case atStart => exact ⟨0, Nat.zero_le _, rfl, own_strs_nil _ _, Ext.refl _⟩
      case round =>
        obtain ⟨j, hj, rfl, hos, HE⟩ := hrel
        by_cases hjq : j < q
        · have hjl : j < L.length := by rw [← HQ.out]; exact hjq
          obtain ⟨gn, on, hAo, hcn⟩ := HCL.out j hjl
          subst hAo
          have cn := hcn _ HE.out
          obtain ⟨hnb, hym⟩ := HMM.out L[j] (List.getElem_mem hjl)
          obtain ⟨hyp, hyc, hyne, hyl⟩ := T.name_path hnb
          have HSN : Hid (T.listK (T.idS N) t (L.take (j + 1)) = T.listK (T.idS N) t (L.take j) ++ [T.mkF L[j], T.valT (T.idS N) t L[j]]) := by unfold Hid; rw [List.take_succ_eq_append_getElem hjl, T.listK_snoc]
          have hll : (T.listK (T.idS N) t (L.take j)).length ≤ 128 := by rw [T.listK_length, List.length_take]; omega
          have HFD : Hid (∀ W, Ext w W → Calls Tryz.prog 14 #[.slice A k c, .string (T.mkF L[j])] W (Al (findV t (T.mkF L[j])) W)) := fun W hW => rFind_any t A c k (T.mkF L[j]) W HN.out (HA.out.ext hW)
          have HXW : Hid (Ext w wr) := HX.out.trans HE.out
          have hysz : (T.mkF L[j]).size ≤ 32 := by
            have e : (T.mkF L[j]).size = L[j].length := by simp [T.mkF, ByteArray.size]
            rw [e]; exact hyl
          clear hcn
          generalize L[j] = y at *
          obtain ⟨q2, A2, c2, hq2, rfl, hos2⟩ : ∃ q2 A2 c2, q2 = (T.listK (T.idS N) t (L.take j)).length ∧ u9 = .slice A2 q2 c2 ∧ OwnAt wr W1.heap.size 9 1 (.slice A2 q2 c2) q2 (strs (T.listK (T.idS N) t (L.take j))) := by
            obtain ⟨A', c', e, _⟩ := StrsAt.of_own hos
            exact ⟨_, A', c', rfl, e, by rw [← e]; exact hos⟩
          have hq2l : q2 ≤ 128 := by rw [hq2]; exact hll
          have HQ2 := Lib.hid hq2
          clear hos hq2 hll
          cases hf : T.findT t y with
          | some f =>
            have hfm : f ∈ t := List.mem_of_find?_eq_some hf
            have hfs : f.2.size ≤ 65536 := HOK.out.size f hfm
            have hfv : findV t (T.mkF y) = .tuple #[.string f.2, .bool true] := by unfold findV; rw [T.mkF_data, hf]
            have hvt : T.valT (T.idS N) t y = fidB f.2 := by unfold T.valT; rw [hf]
            rw [hfv] at HFD
            rw [hvt] at HSN
            have HFI : Hid (∀ W, Calls Tryz.prog 69 #[.string f.2] W (Al (.string (fidB f.2)) W)) := fun W => rFileID_any f.2 W (by omega)
            clear hfv hvt hf hfm
            generalize f.2 = fdd at HFD HFI HSN hfs
            generalize fidB fdd = val at HFI HSN
            go_wp2_with fail
            refine (HFD.out _ HXW.out).mono ?_
            rintro e w5 ⟨rfl, d5⟩
            go_wp2_with fail
            refine (HFI.out _).mono ?_
            rintro e w6 ⟨rfl, d6⟩
            have hos6 := (hos2.ext d5).ext d6
            have HE6 : Hid (Ext W1 w6) := (HE.out.trans d5).trans d6
            clear d5 d6
            go_wp2_with (at_builtin; refine wpList_append_ownAt _ rfl (.tmp 81) (.tmp 85) 43 rfl W1.heap.size 9 i0 (.string ⟨#[]⟩) 1 16 Tryz.underlying43 hi hz0 hz1 hz2 rfl (by decide) _ _ _ rfl (hos6.alloc _) ⟨_, 0, none⟩ 2 2 (strs [T.mkF y, val]) rfl rfl (cells_new_strs w6 [T.mkF y, val]) (strs_one _) (by unfold maxLen; omega) (by omega) (Nat.le_trans HE6.out.size (by simp)) (by decide) ?_; intro v4 w4 hown4 hg4 hold4 _)
            go_roundw
            case rel =>
              refine ⟨j + 1, by omega, by go_num, ?_, (HE6.out.alloc _).grown hold4 hg4⟩
              rw [HSN.out]
              unfold OwnStrs
              rw [List.length_append, ← HQ2.out, strs_append]
              exact hown4
            case measure => simp [intOf]; omega
          | none =>
            have hvt : T.valT (T.idS N) t y = T.idS N (T.subT t y) := by unfold T.valT; rw [hf]
            have hfv : findV t (T.mkF y) = .tuple #[.string ⟨#[]⟩, .bool false] := by unfold findV; rw [T.mkF_data, hf]
            have hun : T.underE okB t (T.mkF y) = T.subT t y := by
              unfold T.underE
              have hs0 : (T.mkF y).size ≠ 0 := by
                have e : (T.mkF y).size = y.length := by simp [T.mkF, ByteArray.size]
                rw [e]
                intro e0
                exact hyne (List.eq_nil_of_length_eq_zero e0)
              rw [if_neg (by rw [(T.ok_iff okB).2 HOK.out]; simp), if_neg hs0, if_pos hyp, T.mkF_data, T.subT_under hyne]
            rw [hfv] at HFD
            rw [hvt] at HSN
            have HUN : Hid (∀ W, Ext w W → Calls Tryz.prog 23 #[.slice A k c, .string (T.mkF y)] W (RetT W (T.subT t y))) := fun W hW => by
              have := rUnder_any t A c k (T.mkF y) W HN.out (HA.out.ext hW) (fun f hf => by have := HPS.out f hf; omega) (by omega)
              rwa [hun] at this
            have HSUB : Hid (T.Ok okB (T.subT t y)) := T.sub_ok HOK.out hyc
            have HDS : Hid (∃ kk, N = kk + 1 ∧ T.Deep kk (T.subT t y)) := by
              cases hN : N with
              | zero =>
                exfalso
                have := HDP.out
                rw [hN] at this
                have ht := T.deep_zero this
                rw [ht] at hym
                simp [T.names, T.namesK] at hym
              | succ kk => exact ⟨kk, rfl, T.deep_sub (by rw [← hN]; exact HDP.out) hyc⟩
            have HIC : Hid (∀ (A' : Option Addr) (c' m' : Nat) (W : World), m' = (T.subT t y).length → SliceAt fileR W (Old W) A' c' (T.subT t y) → Calls Tryz.prog 64 #[.slice A' m' c'] W (Al (.string (T.idS N (T.subT t y))) W)) := fun A' c' m' W hm' hA' => HIH.out _ A' c' m' W hm' hA' HSUB.out HDS.out
            have hvsz := T.idS_size N (T.subT t y)
            clear hfv hvt hf hun
            generalize T.subT t y = sub at *
            generalize T.idS N sub = val at *
            go_wp2_with fail
            refine (HFD.out _ HXW.out).mono ?_
            rintro e w5 ⟨rfl, d5⟩
            go_wp2_with fail
            refine (HUN.out _ (HXW.out.trans d5)).mono ?_
            rintro e w6 ⟨sv, rfl, hsv, d6⟩
            obtain ⟨As, cs, rfl, hss⟩ := own_files_slice hsv fun f hf => ⟨by have := okB_size (HSUB.out.path f hf); omega, by have := HSUB.out.size f hf; omega⟩
            have HRC := Lib.hid (HIC.out As cs _ w6 rfl hss)
            have hos6 := (hos2.ext d5).ext d6
            have HE6' : Hid (Ext W1 w6) := (HE.out.trans d5).trans d6
            clear d5 d6 hsv hss HIC
            generalize sub.length = sn at *
            go_wp2_with fail
            refine HRC.out.mono ?_
            rintro e w7 ⟨rfl, d7⟩
            replace hos6 := hos6.ext d7
            have HE6 : Hid (Ext W1 w7) := HE6'.out.trans d7
            clear d7 HE6'
            go_wp2_with (at_builtin; refine wpList_append_ownAt _ rfl (.tmp 87) (.tmp 93) 43 rfl W1.heap.size 9 i0 (.string ⟨#[]⟩) 1 16 Tryz.underlying43 hi hz0 hz1 hz2 rfl (by decide) _ _ _ rfl (hos6.alloc _) ⟨_, 0, none⟩ 2 2 (strs [T.mkF y, val]) rfl rfl (cells_new_strs w7 [T.mkF y, val]) (strs_one _) (by unfold maxLen; omega) (by omega) (Nat.le_trans HE6.out.size (by simp)) (by decide) ?_; intro v4 w4 hown4 hg4 hold4 _)
            go_roundw
            case rel =>
              refine ⟨j + 1, by omega, by go_num, ?_, (HE6.out.alloc _).grown hold4 hg4⟩
              rw [HSN.out]
              unfold OwnStrs
              rw [List.length_append, ← HQ2.out, strs_append]
              exact hown4
            case measure => simp [intOf]; omega
        · obtain rfl : j = q := by omega
          have htl : L.take j = L := by rw [HQ.out, List.take_length]
          rw [htl] at hos
          obtain ⟨A2, c2, rfl, hss⟩ := StrsAt.of_own hos
          have HTX : Hid (∀ W, Ext wr W → TxsAt W A2 (T.listK (T.idS N) t L)) := fun W hW i hi => by
            obtain ⟨b, off, e, hc⟩ := hss.2.2 i hi
            exact ⟨b, off, e, hc W hW⟩
          have hll : (T.listK (T.idS N) t L).length ≤ 1024 := by rw [T.listK_length]; have := HQ.out; omega
          have hls : ∀ s ∈ T.listK (T.idS N) t L, s.size ≤ 65536 := fun s hs => by
            obtain ⟨y, hy, h3 | h3⟩ := T.mem_listK hs
            · obtain ⟨_, _, _, hyl⟩ := T.name_path (HMM.out y hy).1
              have e : (T.mkF y).size = y.length := by simp [T.mkF, ByteArray.size]
              rw [h3, e]; omega
            · rw [h3]
              have := T.valT_size (T.idS_size N) t y
              omega
          have HTS : Hid (∀ W, Ext wr W → Calls Tryz.prog 87 #[.slice A2 (T.listK (T.idS N) t L).length c2] W (Al (.tuple #[.string (mkB (txsL (T.listK (T.idS N) t L))), .int .i64 0]) W)) := fun W hW => refTexts_any _ A2 _ c2 W rfl (HTX.out W hW) hll hls
          have hsz : (mkB (txsL (T.listK (T.idS N) t L))).size ≤ 103000000 := by
            have h3 := txsK_le _ hls hll _ (Nat.le_refl _)
            rw [txsK_end] at h3
            have e : (mkB (txsL (T.listK (T.idS N) t L))).size = (txsL (T.listK (T.idS N) t L)).length := by simp [mkB, ByteArray.size]
            rw [e]
            have := Nat.mul_le_mul_right 100000 hll
            omega
          clear hss hos htl hls
          generalize (T.listK (T.idS N) t L).length = ln at *
          generalize mkB (txsL (T.listK (T.idS N) t L)) = S at *
          have hs1 : ((⟨#[100]⟩ : ByteArray) ++ S).size = 1 + S.size := by rw [ByteArray.size_append]; rfl
          have HSM : Hid (∀ W, Calls Tryz.prog 88 #[.string (⟨#[100]⟩ ++ S)] W (Al (.string Z) W)) := fun W => by
            have h3 := rSum_any (⟨#[100]⟩ ++ S) W (by rw [hs1]; omega)
            rw [← dig_is] at h3
            rw [HZ2.out]
            exact h3
          have HXW : Hid (Ext w wr) := HX.out.trans HE.out
          clear HZ2 HTX
          go_wp2_with fail
          refine (HTS.out _ (Ext.refl _)).mono ?_
          rintro e w5 ⟨rfl, d5⟩
          go_wp2_with fail
          refine (HSM.out _).mono ?_
          rintro e w6 ⟨rfl, d6⟩
          go_wp2_with fail
          go_ret
          exact ⟨rfl, (HXW.out.trans d5).trans d6⟩
end Go.Proofs.YtclhbcicbnoohaaGreatDoor

/- The reference's ID. -/
namespace Go.Proofs.YtclhbcicbnoohaaGreatDoor
open Go.RowKit

theorem rid_any : ∀ (N : Nat) (t : T.Tr) (A : Option Addr) (c n : Nat) (w : World), n = t.length → SliceAt fileR w (Old w) A c t → T.Ok okB t → T.Deep N t →
    Calls Tryz.prog 64 #[.slice A n c] w (Al (.string (T.idS (N + 1) t)) w)
  | 0, t, A, c, n, w, hn, hA, hok, hdp => rid_step 0 (fun _ _ _ _ _ _ _ _ h => by obtain ⟨k, hk, _⟩ := h; cases hk) t A c n w hn hA hok hdp
  | N + 1, t, A, c, n, w, hn, hA, hok, hdp => rid_step (N + 1) (fun t' A' c' n' w' hn' hA' hok' h => by
      obtain ⟨k, hk, hd⟩ := h
      cases hk
      exact rid_any N t' A' c' n' w' hn' hA' hok' hd) t A c n w hn hA hok hdp
def idV (t : T.Tr) : Value := .tuple #[.string (T.idE t).1, .int .i64 (T.idE t).2]
set_option maxRecDepth 100000 in
theorem rID_any (t : T.Tr) (A : Option Addr) (c n : Nat) (w : World) (hn : n = t.length) (hA : SliceAt fileR w (Old w) A c t) (hp : ∀ f ∈ t, f.1.size ≤ 9000000) :
    Calls Tryz.prog 30 #[.slice A n c] w (Al (idV t) w) := by
  have hck : Hid (Calls Tryz.prog 29 #[.slice A n c] w (Al (.int .i64 (T.checkE okB t)) w)) := rCheck_any t A c n w hn hA hp
  obtain ⟨Z, hZ⟩ : ∃ Z, Z = idV t := ⟨_, rfl⟩
  rw [← hZ]
  by_cases h0 : T.checkE okB t = 0
  · rw [h0] at hck
    have hok := checkE_ok h0
    have HID : Hid (∀ W, Ext w W → Calls Tryz.prog 64 #[.slice A n c] W (Al (.string (T.idT t)) W)) := fun W hW => rid_any 8 t A c n W hn (hA.ext hW) hok (T.deep_ok hok)
    have HF : Hid (Z = .tuple #[.string (T.idT t), .int .i64 0]) := by unfold Hid; rw [hZ, idV, T.idE, if_neg (by rw [h0]; simp)]
    generalize T.idT t = r at HID HF
    clear hZ hn hA hp h0 hok
    go_enter Tryz.func30, Tryz.ntmps30
    go_wp2_with fail
    refine hck.out.mono ?_
    rintro e w1 ⟨rfl, d1⟩
    go_wp2_with fail
    refine (HID.out _ d1).mono ?_
    rintro e w2 ⟨rfl, d2⟩
    go_wp2_with fail
    go_ret2
    exact ⟨by rw [HF.out]; rfl, d1.trans d2⟩
  · have HF : Hid (Z = .tuple #[.string ⟨#[]⟩, .int .i64 1]) := by unfold Hid; rw [hZ, idV, T.idE, if_pos h0]
    have hd : ((T.checkE okB t) == 0) = false := by simp [h0]
    generalize T.checkE okB t = x at hck h0 hd
    have hd2 : (!(x == 0)) = true := by rw [hd]; rfl
    clear hZ hn hA hp
    go_enter Tryz.func30, Tryz.ntmps30
    go_wp2_with fail
    refine hck.out.mono ?_
    rintro e w1 ⟨rfl, d1⟩
    go_wp2_with fail
    go_ret2
    exact ⟨by rw [HF.out]; rfl, d1⟩
end Go.Proofs.YtclhbcicbnoohaaGreatDoor

/- The sorted keys of a map of strings: contracts of the library, laid at this program by the shelf. No conditions. -/
namespace Go.Proofs
open Go.Shelf
def Tryz.keys80_ren : Go.Shelf.Ren := ⟨fun | 7 => 80 | 10 => 101 | n => n, fun | 23 => 87 | 26 => 9 | 3 => 9 | 28 => 93 | 0 => 0 | 27 => 92 | 33 => 79 | 4 => 4 | n => n, fun | n => n⟩
theorem Tryz.keys80 : Go.Proofs.SlLaysZ.n7 Tryz.prog Tryz.keys80_ren := {
  mixed := by kernel_rfl
  f7 := ⟨Tryz.f80.name, by decide, Tryz.func80.trans (congrArg some (by kernel_rfl))⟩
  f10 := ⟨Tryz.f101.name, by decide, Tryz.func101.trans (congrArg some (by kernel_rfl))⟩
  t0 := Tryz.underlying0
  a0 := Tryz.isAgg0
  z0 := Tryz.sizeOf0
  v0 := Tryz.zeroValue0
  t4 := Tryz.underlying4
  a4 := Tryz.isAgg4
  z4 := Tryz.sizeOf4
  v4 := Tryz.zeroValue4
  t23 := Tryz.underlying87
  a23 := Tryz.isAgg87
  z23 := Tryz.sizeOf87
  v23 := Tryz.zeroValue87
  t26 := Tryz.underlying9
  a26 := Tryz.isAgg9
  z26 := Tryz.sizeOf9
  v26 := Tryz.zeroValue9
  t27 := Tryz.underlying92
  a27 := Tryz.isAgg92
  z27 := Tryz.sizeOf92
  v27 := Tryz.zeroValue92
  t28 := Tryz.underlying93
  a28 := Tryz.isAgg93
  z28 := Tryz.sizeOf93
  v28 := Tryz.zeroValue93
  t33 := Tryz.underlying79
  a33 := Tryz.isAgg79
  z33 := Tryz.sizeOf79
  v33 := Tryz.zeroValue79 }
def Tryz.sorted79_ren : Go.Shelf.Ren := ⟨fun | 6 => 79 | 8 => 99 | 9 => 100 | 11 => 119 | 13 => 121 | 12 => 120 | 23 => 142 | 24 => 143 | 14 => 133 | 15 => 134 | 16 => 135 | 17 => 136 | 18 => 137 | 19 => 138 | 20 => 139 | 21 => 140 | 22 => 141 | 25 => 149 | 26 => 150 | 27 => 151 | 28 => 152 | 29 => 153 | 30 => 154 | 31 => 159 | n => n, fun | 26 => 9 | 28 => 93 | 24 => 43 | 0 => 0 | 3 => 3 | 37 => 84 | 48 => 140 | 50 => 120 | 4 => 4 | 40 => 145 | 39 => 144 | 45 => 69 | 5 => 5 | 9 => 9 | 51 => 156 | 55 => 160 | 57 => 173 | 58 => 174 | 33 => 79 | n => n, fun | n => n⟩
theorem Tryz.sorted79 : Go.Proofs.SlLaysZ.n6 Tryz.prog Tryz.sorted79_ren := {
  mixed := by kernel_rfl
  f6 := ⟨Tryz.f79.name, by decide, Tryz.func79.trans (congrArg some (by kernel_rfl))⟩
  f8 := ⟨Tryz.f99.name, by decide, Tryz.func99.trans (congrArg some (by kernel_rfl))⟩
  f11 := ⟨Tryz.f119.name, by decide, Tryz.func119.trans (congrArg some (by kernel_rfl))⟩
  t0 := Tryz.underlying0
  a0 := Tryz.isAgg0
  z0 := Tryz.sizeOf0
  v0 := Tryz.zeroValue0
  t24 := Tryz.underlying43
  a24 := Tryz.isAgg43
  z24 := Tryz.sizeOf43
  v24 := Tryz.zeroValue43
  t26 := Tryz.underlying9
  a26 := Tryz.isAgg9
  z26 := Tryz.sizeOf9
  v26 := Tryz.zeroValue9
  t28 := Tryz.underlying93
  a28 := Tryz.isAgg93
  z28 := Tryz.sizeOf93
  v28 := Tryz.zeroValue93
  i26 := by kernel_rfl }
def Tryz.sort100_ren : Go.Shelf.Ren := ⟨fun | 6 => 100 | 8 => 121 | 9 => 120 | 19 => 142 | 20 => 143 | 21 => 133 | 22 => 134 | 23 => 135 | 24 => 136 | 25 => 137 | 26 => 138 | 27 => 139 | 28 => 140 | 29 => 141 | 36 => 149 | 31 => 150 | 32 => 151 | 37 => 152 | 38 => 153 | 39 => 154 | 41 => 159 | n => n, fun | 27 => 43 | 29 => 9 | 3 => 3 | 32 => 84 | 26 => 43 | 0 => 0 | 44 => 140 | 46 => 120 | 4 => 4 | 36 => 145 | 35 => 144 | 41 => 69 | 5 => 5 | 9 => 9 | 53 => 156 | 57 => 160 | 63 => 173 | 64 => 174 | n => n, fun | n => n⟩
theorem Tryz.sort100 : Go.Proofs.SlLaysM.n6 Tryz.prog Tryz.sort100_ren := {
  mixed := by kernel_rfl
  f6 := ⟨Tryz.f100.name, by decide, Tryz.func100.trans (congrArg some (by kernel_rfl))⟩
  f8 := Tryz.func121.trans (congrArg some (by kernel_rfl))
  f9 := ⟨Tryz.f120.name, by decide, Tryz.func120.trans (congrArg some (by kernel_rfl))⟩
  f19 := Tryz.func142.trans (congrArg some (by kernel_rfl))
  f20 := Tryz.func143.trans (congrArg some (by kernel_rfl))
  f21 := ⟨Tryz.f133.name, by decide, Tryz.func133.trans (congrArg some (by kernel_rfl))⟩
  f22 := ⟨Tryz.f134.name, by decide, Tryz.func134.trans (congrArg some (by kernel_rfl))⟩
  f23 := ⟨Tryz.f135.name, by decide, Tryz.func135.trans (congrArg some (by kernel_rfl))⟩
  f24 := ⟨Tryz.f136.name, by decide, Tryz.func136.trans (congrArg some (by kernel_rfl))⟩
  f25 := ⟨Tryz.f137.name, by decide, Tryz.func137.trans (congrArg some (by kernel_rfl))⟩
  f26 := ⟨Tryz.f138.name, by decide, Tryz.func138.trans (congrArg some (by kernel_rfl))⟩
  f27 := ⟨Tryz.f139.name, by decide, Tryz.func139.trans (congrArg some (by kernel_rfl))⟩
  f28 := ⟨Tryz.f140.name, by decide, Tryz.func140.trans (congrArg some (by kernel_rfl))⟩
  f29 := ⟨Tryz.f141.name, by decide, Tryz.func141.trans (congrArg some (by kernel_rfl))⟩
  f31 := Tryz.func150.trans (congrArg some (by kernel_rfl))
  f32 := Tryz.func151.trans (congrArg some (by kernel_rfl))
  f36 := ⟨Tryz.f149.name, by decide, Tryz.func149.trans (congrArg some (by kernel_rfl))⟩
  f37 := ⟨Tryz.f152.name, by decide, Tryz.func152.trans (congrArg some (by kernel_rfl))⟩
  f38 := ⟨Tryz.f153.name, by decide, Tryz.func153.trans (congrArg some (by kernel_rfl))⟩
  f39 := ⟨Tryz.f154.name, by decide, Tryz.func154.trans (congrArg some (by kernel_rfl))⟩
  f41 := ⟨Tryz.f159.name, by decide, Tryz.func159.trans (congrArg some (by kernel_rfl))⟩
  t0 := Tryz.underlying0
  a0 := Tryz.isAgg0
  z0 := Tryz.sizeOf0
  v0 := Tryz.zeroValue0
  t3 := Tryz.underlying3
  a3 := Tryz.isAgg3
  z3 := Tryz.sizeOf3
  v3 := Tryz.zeroValue3
  t4 := Tryz.underlying4
  a4 := Tryz.isAgg4
  z4 := Tryz.sizeOf4
  v4 := Tryz.zeroValue4
  t5 := Tryz.underlying5
  a5 := Tryz.isAgg5
  z5 := Tryz.sizeOf5
  v5 := Tryz.zeroValue5
  t9 := Tryz.underlying9
  a9 := Tryz.isAgg9
  z9 := Tryz.sizeOf9
  v9 := Tryz.zeroValue9
  t26 := Tryz.underlying43
  a26 := Tryz.isAgg43
  z26 := Tryz.sizeOf43
  v26 := Tryz.zeroValue43
  t27 := Tryz.underlying43
  a27 := Tryz.isAgg43
  z27 := Tryz.sizeOf43
  v27 := Tryz.zeroValue43
  t29 := Tryz.underlying9
  a29 := Tryz.isAgg9
  z29 := Tryz.sizeOf9
  v29 := Tryz.zeroValue9
  t32 := Tryz.underlying84
  a32 := Tryz.isAgg84
  z32 := Tryz.sizeOf84
  v32 := Tryz.zeroValue84
  t35 := Tryz.underlying144
  a35 := Tryz.isAgg144
  z35 := Tryz.sizeOf144
  v35 := Tryz.zeroValue144
  t36 := Tryz.underlying145
  a36 := Tryz.isAgg145
  z36 := Tryz.sizeOf145
  v36 := Tryz.zeroValue145
  t41 := Tryz.underlying69
  a41 := Tryz.isAgg69
  z41 := Tryz.sizeOf69
  v41 := Tryz.zeroValue69
  t44 := Tryz.underlying140
  a44 := Tryz.isAgg140
  z44 := Tryz.sizeOf140
  v44 := Tryz.zeroValue140
  t46 := Tryz.underlying120
  a46 := Tryz.isAgg120
  z46 := Tryz.sizeOf120
  v46 := Tryz.zeroValue120
  t53 := Tryz.underlying156
  a53 := Tryz.isAgg156
  z53 := Tryz.sizeOf156
  v53 := Tryz.zeroValue156
  t57 := Tryz.underlying160
  a57 := Tryz.isAgg160
  z57 := Tryz.sizeOf160
  v57 := Tryz.zeroValue160
  t63 := Tryz.underlying173
  a63 := Tryz.isAgg173
  z63 := Tryz.sizeOf173
  v63 := Tryz.zeroValue173
  t64 := Tryz.underlying174
  a64 := Tryz.isAgg174
  z64 := Tryz.sizeOf174
  v64 := Tryz.zeroValue174 }
open Go.RowKit Go.Maps Go.Sort
theorem Tryz.sorts79 (m : Nat) : AnyZ.SortsIn Tryz.prog Tryz.sorted79_ren Fence.wide m :=
  ⟨fun blk off cap ss W hH hblk hsz => callsIn_wide.2 (AnyM.slices_Sort_string Tryz.sort100 blk off cap ss W hH hblk hsz),
   fun p cap W => callsIn_wide.2 (AnyM.slices_Sort_string_none Tryz.sort100 p cap W)⟩
theorem Tryz.maps_Keys_80 (mb : Option Nat) (W : World) : CallsIn Fence.wide 5 Tryz.prog 80 #[.map mb] W fun e w' => e = .returned (.func (.func 101) #[] #[.pointer (some ⟨W.heap.size, 0, none⟩)]) ∧ w' = W.alloc (.cells #[.map mb] 87) :=
  AnyZ.keys_in Tryz.keys80 Fence.wide 5 trivial rfl mb W
set_option maxHeartbeats 1000000 in
theorem Tryz.slices_Sorted_keys_79_80 {H : Type} (b nn : Nat) (D0 : DataW H) (R : Value → Option (DataW H × List MemPlace)) (w : World) (hown : w.ownsMap Tryz.prog 9 R b nn D0) (hmax : Maps.size D0 ≤ maxLen) (hbytes : Maps.size D0 * 16 ≤ 140737488355328) :
    CallsIn Fence.wide 5 Tryz.prog 79 #[.func (.func 101) #[] #[.pointer (some ⟨w.heap.size, 0, none⟩)]] (w.alloc (.cells #[.map (some b)] 87)) fun e w' => ∃ (v : Value) (ss : List (List UInt8)), e = .returned v ∧ ss.Perm (strKeys D0) ∧
      w'.ownsRow (w.alloc (.cells #[.map (some b)] 87)).heap.size 9 1 v ss.length ((ss.mergeSort (fun x y => decide (x ≤ y))).map encStr) ∧ (v = .slice none 0 0 ↔ ss = []) ∧ Below (w.alloc (.cells #[.map (some b)] 87)).heap.size (w.alloc (.cells #[.map (some b)] 87)) w' := by
  have hbl := hown.lt
  have hseq : SeqGives Fence.wide 2 Tryz.prog 101 #[.pointer (some ⟨w.heap.size, 0, none⟩)] encStr (fun ss => ss.Perm (strKeys D0)) (Maps.size D0) (w.alloc (.cells #[.map (some b)] 87)) :=
    AnyZ.keys_gives (ρ := Tryz.keys80_ren) { Tryz.keys80 with } Fence.wide _ trivial rfl (by omega) w.heap.size b nn D0 _ (by simp) (by simp) (by
      obtain ⟨es, clock, hb, Ft, hs, hD⟩ := hown
      exact ⟨es, clock, (Below.heap_alloc _ _ b hbl).trans hb, Ft, hs, hD⟩)
  exact AnyZ.sorted_in Tryz.sorted79 Fence.wide 5 trivial trivial trivial trivial rfl (by omega) (Tryz.sorts79 _) (enters_of Tryz.func100 (by kernel_rfl) rfl) 101 #[.pointer (some ⟨w.heap.size, 0, none⟩)] trivial (enters_of Tryz.func101 (by kernel_rfl) rfl) _ _ hmax hbytes _ hseq
end Go.Proofs
namespace Go.Proofs.YtclhbcicbnoohaaGreatDoor
open Go.RowKit Go.Maps Go.Sort
theorem Keys_any (b : Nat) (w : World) : Calls Tryz.prog 80 #[.map (some b)] w fun e w' => e = .returned (.func (.func 101) #[] #[.pointer (some ⟨w.heap.size, 0, none⟩)]) ∧ w' = w.alloc (.cells #[.map (some b)] 87) :=
  callsIn_wide.1 (Tryz.maps_Keys_80 (some b) w)
theorem Sorted_any {H : Type} (b nn : Nat) (D0 : DataW H) (R : Value → Option (DataW H × List MemPlace)) (w : World) (hown : w.ownsMap Tryz.prog 9 R b nn D0) (hmax : Maps.size D0 ≤ 1000) :
    Calls Tryz.prog 79 #[.func (.func 101) #[] #[.pointer (some ⟨w.heap.size, 0, none⟩)]] (w.alloc (.cells #[.map (some b)] 87)) fun e w' => ∃ (v : Value) (ss : List (List UInt8)), e = .returned v ∧ ss.Perm (strKeys D0) ∧
      OwnAt w' w.heap.size 9 1 v ss.length ((ss.mergeSort (fun x y => decide (x ≤ y))).map encStr) ∧ Ext w w' := by
  refine (callsIn_wide.1 (Tryz.slices_Sorted_keys_79_80 b nn D0 R w hown (by unfold maxLen; omega) (by omega))).mono ?_
  rintro e w' ⟨v, ss, rfl, hp, hr, _, hb⟩
  have hx : Ext w (w.alloc (.cells #[.map (some b)] 87)) := (Ext.refl w).alloc _
  exact ⟨v, ss, rfl, hp, (OwnAt.of_row hr).mono hx.size, hx.trans hb⟩
end Go.Proofs.YtclhbcicbnoohaaGreatDoor

/- The maps of tree.id: what they hold on the way, plain. -/
namespace Go.Proofs.YtclhbcicbnoohaaGreatDoor
open Go.RowKit Go.Maps Go.Sort

namespace T
def dirOf (t : Tr) (x : Bs) : Bool := t.any fun f => deepP (pth f) && decide (fstP (pth f) = x)
def flatOf (t : Tr) (x : Bs) : Bool := t.any fun f => !deepP (pth f) && decide (pth f = x)
def dsub (t : Tr) (x : Bs) : Tr := t.filterMap fun f => if deepP (pth f) && decide (fstP (pth f) = x) then some (mkF ((pth f).drop (x.length + 1)), f.2) else none
theorem dirOf_snoc {t : Tr} {k : Nat} (h : k < t.length) (x : Bs) : dirOf (t.take (k + 1)) x = (dirOf (t.take k) x || (deepP (pth t[k]) && decide (fstP (pth t[k]) = x))) := by
  unfold dirOf
  rw [List.take_succ_eq_append_getElem h, List.any_append]
  simp
theorem flatOf_snoc {t : Tr} {k : Nat} (h : k < t.length) (x : Bs) : flatOf (t.take (k + 1)) x = (flatOf (t.take k) x || (!deepP (pth t[k]) && decide (pth t[k] = x))) := by
  unfold flatOf
  rw [List.take_succ_eq_append_getElem h, List.any_append]
  simp
theorem dsub_hit {t : Tr} {k : Nat} (h : k < t.length) (hd : deepP (pth t[k]) = true) : dsub (t.take (k + 1)) (fstP (pth t[k])) = dsub (t.take k) (fstP (pth t[k])) ++ [(mkF ((pth t[k]).drop ((fstP (pth t[k])).length + 1)), t[k].2)] := by
  unfold dsub
  rw [List.take_succ_eq_append_getElem h, List.filterMap_append]
  congr 1
  simp [hd]
theorem dsub_miss {t : Tr} {k : Nat} (h : k < t.length) {x : Bs} (hd : (deepP (pth t[k]) && decide (fstP (pth t[k]) = x)) = false) : dsub (t.take (k + 1)) x = dsub (t.take k) x := by
  unfold dsub
  rw [List.take_succ_eq_append_getElem h, List.filterMap_append]
  have : ([t[k]].filterMap fun f => if deepP (pth f) && decide (fstP (pth f) = x) then some (mkF ((pth f).drop (x.length + 1)), f.2) else none) = [] := by
    rw [List.filterMap_cons, hd]
    rfl
  rw [this, List.append_nil]
theorem dsub_sub {t : Tr} {x : Bs} (hx : ∀ b ∈ x, b ≠ 47) : dsub t x = subT t x := by
  unfold dsub subT
  congr 1
  refine funext fun f => ?_
  unfold cutF
  have h := @below_fst (pth f) x hx
  by_cases hb : below (pth f) x = true
  · rw [if_pos hb, if_pos]
    obtain ⟨h1, h2⟩ := h.1 hb
    rw [h1, h2]
    simp
  · rw [if_neg hb, if_neg]
    intro h1
    rw [Bool.and_eq_true, decide_eq_true_eq] at h1
    exact hb (h.2 h1)
theorem find_self {t : Tr} (h : Srt t) {f : File} (hf : f ∈ t) : findT t (pth f) = some f := by
  obtain ⟨i, hi, rfl⟩ := List.getElem_of_mem hf
  refine findT_at (k := i) (fun j hj hji e => ?_) hi rfl
  have := srt_lt h hj hi hji
  rw [e] at this
  exact lt_irrefl _ this
theorem names_is (t : Tr) (x : Bs) : x ∈ names t ↔ (flatOf t x || dirOf t x) = true := by
  rw [mem_names, Bool.or_eq_true]
  unfold flatOf dirOf
  rw [List.any_eq_true, List.any_eq_true]
  constructor
  · rintro ⟨f, hf, rfl⟩
    cases hd : deepP (pth f) with
    | true => exact .inr ⟨f, hf, by simp [hd]⟩
    | false => exact .inl ⟨f, hf, by rw [flat_fst hd]; simp [hd]⟩
  · rintro (⟨f, hf, h⟩ | ⟨f, hf, h⟩)
    · simp only [Bool.and_eq_true, Bool.not_eq_true', decide_eq_true_eq] at h
      exact ⟨f, hf, by rw [flat_fst h.1]; exact h.2⟩
    · simp only [Bool.and_eq_true, decide_eq_true_eq] at h
      exact ⟨f, hf, h.2⟩
theorem flat_val {t : Tr} (h : Srt t) {f : File} (hf : f ∈ t) (g : Tr → ByteArray) : valT g t (pth f) = fidB f.2 := by
  unfold valT
  rw [find_self h hf]
theorem dir_val {t : Tr} (h : Ok okB t) {x : Bs} (hd : dirOf t x = true) (g : Tr → ByteArray) : valT g t x = g (subT t x) ∧ (∀ b ∈ x, b ≠ 47) := by
  unfold dirOf at hd
  rw [List.any_eq_true] at hd
  obtain ⟨f, hf, hd⟩ := hd
  rw [Bool.and_eq_true, decide_eq_true_eq] at hd
  obtain ⟨h1, rfl⟩ := hd
  refine ⟨?_, fst_clean _⟩
  unfold valT
  cases hq : findT t (fstP (pth f)) with
  | none => rfl
  | some q =>
    have hm : (mkF ((pth f).drop ((fstP (pth f)).length + 1)), f.2) ∈ subT t (fstP (pth f)) := mem_sub.2 ⟨f, hf, _, deep_cut h1, rfl⟩
    rw [find_sub h hq] at hm
    cases hm
end T
theorem law9 : Keyed Tryz.prog 9 := string_keyed Tryz.underlying9
theorem key9 {s : ByteArray} (h : s.size ≤ 9223372036854775807) : keyOf Tryz.prog 9 (.string s) = some (.string s.data.toList) := by
  rw [keyOf_string Tryz.underlying9]
  simp [mapKey, Tryz.underlying9, maxLen, h]
theorem keyLit (x : T.Bs) : WideAt.IsKeyLit (Lit.string x) := trivial
theorem lit_ne {x y : T.Bs} (h : x ≠ y) : Lit.string x ≠ Lit.string y := fun e => h (by cases e; rfl)
theorem same_lit (x y : T.Bs) : (Lit.string x).sameKey (.string y) = decide (x = y) := by
  unfold Lit.sameKey
  by_cases h : x = y <;> simp [h]
/-- The files' map: the names that S tells, each with its value. -/
structure FilesInv (g : T.Tr → ByteArray) (t : T.Tr) (D : DataW Unit) (S : T.Bs → Bool) : Prop where
  map : IsMap D
  has : ∀ x, Maps.has D (.string x) = S x
  val : ∀ x, S x = true → ∀ zd, D.atKey (.string x) zd = .lit (.string (T.valT g t x).data.toList)
theorem FilesInv.start (g : T.Tr → ByteArray) (t : T.Tr) : FilesInv g t (.map []) fun _ => false := ⟨isMap_empty, fun _ => rfl, fun _ h => by cases h⟩
theorem FilesInv.put {g : T.Tr → ByteArray} {t : T.Tr} {D : DataW Unit} {S : T.Bs → Bool} (h : FilesInv g t D S) (y : T.Bs) : FilesInv g t (D.put (.string y) (.lit (.string (T.valT g t y).data.toList))) fun x => S x || decide (y = x) := by
  refine ⟨h.map.put _ _, fun x => ?_, fun x hx zd => ?_⟩
  · by_cases e : x = y
    · subst e; rw [has_put_same h.map (keyLit _)]; simp
    · rw [has_put_other (lit_ne e), h.has, decide_eq_false fun e' => e e'.symm]; simp
  · by_cases e : x = y
    · subst e; exact atKey_put_same h.map (keyLit _) _ _
    · rw [atKey_put_other (lit_ne e)]
      rw [decide_eq_false fun e' => e e'.symm, Bool.or_false] at hx
      exact h.val x hx zd
theorem FilesInv.congr {g : T.Tr → ByteArray} {t : T.Tr} {D : DataW Unit} {S S' : T.Bs → Bool} (h : FilesInv g t D S) (hS : ∀ x, S' x = S x) : FilesInv g t D S' := by
  have : S' = S := funext hS
  rw [this]
  exact h
/-- How an element of the directories' map reads: as the value that it is. -/
def asIs (v : Value) : Option (DataW Value × List MemPlace) := some (.held v, [])
structure DirsInv (E : DataW Value) (val : T.Bs → Value) (S : T.Bs → Bool) : Prop where
  map : IsMap E
  has : ∀ x, Maps.has E (.string x) = S x
  at' : ∀ x, E.atKey (.string x) (.held (.slice none 0 0)) = .held (val x)
theorem DirsInv.start : DirsInv (.map []) (fun _ => .slice none 0 0) fun _ => false := ⟨isMap_empty, fun _ => rfl, fun _ => rfl⟩
theorem DirsInv.put {E : DataW Value} {val : T.Bs → Value} {S : T.Bs → Bool} (h : DirsInv E val S) (y : T.Bs) (v : Value) : DirsInv (E.put (.string y) (.held v)) (fun x => if x = y then v else val x) fun x => S x || decide (y = x) := by
  refine ⟨h.map.put _ _, fun x => ?_, fun x => ?_⟩
  · by_cases e : x = y
    · subst e; rw [has_put_same h.map (keyLit _)]; simp
    · rw [has_put_other (lit_ne e), h.has, decide_eq_false fun e' => e e'.symm]; simp
  · by_cases e : x = y
    · subst e; rw [if_pos rfl]; exact atKey_put_same h.map (keyLit _) _ _
    · rw [if_neg e, atKey_put_other (lit_ne e)]; exact h.at' x
/-- The rows of the directories. -/
structure RowsInv (w : World) (B : Nat) (val : T.Bs → Value) (t : T.Tr) : Prop where
  own : ∀ x, OwnFiles w B (val x) (T.dsub t x)
  apart : ∀ x y, x ≠ y → ∀ g, (val x).ownBlock = some g → (val y).ownBlock ≠ some g
theorem RowsInv.start (w : World) (B : Nat) : RowsInv w B (fun _ => .slice none 0 0) [] := ⟨fun _ => own_files_nil _ _, fun _ _ _ g h => by simp [Value.ownBlock] at h⟩
theorem RowsInv.ext {w w' : World} {B : Nat} {val : T.Bs → Value} {t : T.Tr} (h : RowsInv w B val t) (he : Ext w w') : RowsInv w' B val t := ⟨fun x => OwnAt.ext (h.own x) he, h.apart⟩
/-- A block below the rows is turned. -/
theorem RowsInv.low {w w' : World} {B : Nat} {val : T.Bs → Value} {t : T.Tr} (h : RowsInv w B val t) {b : Nat} (hg : w.grownBy w' (some b)) (hb : b < B) : RowsInv w' B val t :=
  ⟨fun x => OwnAt.keep (h.own x) fun g hgx hlt => hg.block g hlt fun e => by have := (own_at_lt (h.own x) hgx).1; have := Option.some.inj e; omega, h.apart⟩
/-- One row has grown. -/
theorem RowsInv.grow {w w' : World} {B : Nat} {val : T.Bs → Value} {t t' : T.Tr} (h : RowsInv w B val t) (y : T.Bs) (v' : Value) (hg : w.grownBy w' (val y).ownBlock) (hy : OwnFiles w' B v' (T.dsub t' y)) (hx : ∀ x, x ≠ y → T.dsub t' x = T.dsub t x)
    (hv : v'.ownBlock = (val y).ownBlock ∨ ∃ g, v'.ownBlock = some g ∧ w.heap.size ≤ g) : RowsInv w' B (fun x => if x = y then v' else val x) t' := by
  refine ⟨fun x => ?_, fun x z hxz g hgx => ?_⟩
  · by_cases e : x = y
    · subst e; rw [if_pos rfl]; exact hy
    · show OwnFiles w' B (if x = y then v' else val x) _
      rw [if_neg e, hx x e]
      exact OwnAt.grown (h.own x) hg fun g hgx => fun e2 => h.apart x y e g hgx e2
  · replace hgx : (if x = y then v' else val x).ownBlock = some g := hgx
    show (if z = y then v' else val z).ownBlock ≠ some g
    by_cases e : x = y
    · rw [if_pos e] at hgx
      rw [if_neg (fun e2 => hxz (by rw [e, e2]))]
      intro hz
      rcases hv with hv | ⟨g', hv, hge⟩
      · rw [hv] at hgx; exact h.apart y z (by rw [← e]; exact hxz) g hgx hz
      · rw [hv] at hgx; cases hgx; have := (own_at_lt (h.own z) hz).2; omega
    · rw [if_neg e] at hgx
      by_cases e2 : z = y
      · rw [if_pos e2]
        intro hz
        rcases hv with hv | ⟨g', hv, hge⟩
        · rw [hv] at hz; exact h.apart x y e g hgx hz
        · rw [hv] at hz; cases hz; have := (own_at_lt (h.own x) hgx).2; omega
      · rw [if_neg e2]; exact h.apart x z hxz g hgx
theorem names_nodup (t : T.Tr) : (T.names t).Nodup := by
  have h : (T.names t).Pairwise (· < ·) := T.namesK_sorted t _
  exact List.Pairwise.imp (R := (· < ·)) (S := (· ≠ ·)) (fun {a b} hab (e : a = b) => by subst e; exact T.lt_irrefl _ hab) h
/-- The sorted keys are the names. -/
theorem keys_names {w : World} {b n : Nat} {R : Value → Option (DataW Unit × List MemPlace)} {D : DataW Unit} {t : T.Tr} {ss : List (List UInt8)} (hown : w.ownsMap Tryz.prog 9 R b n D) (hh : ∀ x, Maps.has D (.string x) = (T.flatOf t x || T.dirOf t x)) (hp : ss.Perm (strKeys D)) :
    ss.mergeSort (fun x y => decide (x ≤ y)) = T.names t := by
  have hc : Collected D (fun _ => false) (T.names t) := ⟨names_nodup t, fun x => by rw [T.names_is, hh]; simp⟩
  have h1 := hc.perm hown law9 Tryz.underlying9 fun _ => rfl
  have h2 : ss.Perm (T.names t) := hp.trans h1.symm
  have h3 := mergeSort_of_perm h2
  refine h3.trans ?_
  refine List.mergeSort_of_pairwise ?_
  exact (T.namesK_sorted t _).imp fun h => decide_eq_true (T.le_of_lt h)
end Go.Proofs.YtclhbcicbnoohaaGreatDoor
