/- The texts Lnl Lnn Ga Gb Gc Gd Ge Gf of the seat, joined. -/
import Derived.Test.YtfbhchpbflaphaaGreatDoorS6
namespace Go.Proofs.YtfbhchpbflaphaaGreatDoor.L
open C
theorem scanO_step {x : ByteArray} {l : List Mem} {k : Nat} {e w : Int} (hk : k < l.length) : scanO x (l.drop k) k e w =
 if modeP l[k].2 x = 1 then (if 0 <= e then none else scanO x (l.drop (k + 1)) (k + 1) k w)
 else if modeP l[k].2 x = 2 /\ w < 0 then scanO x (l.drop (k + 1)) (k + 1) e k
 else scanO x (l.drop (k + 1)) (k + 1) e w := by
 rw [List.drop_eq_getElem_cons hk, scanO]
theorem scanO_end {x : ByteArray} {l : List Mem} {k : Nat} {e w : Int} (hk : l.length <= k) : scanO x (l.drop k) k e w = some (e, w) := by
 rw [List.drop_of_length_le hk, scanO]
def ExpAt (x : ByteArray) (a : List Mem) (i : Nat) (e : Int) : Prop :=
 (e = -1 /\ ∀ j (_ : j < a.length), j < i -> modeP a[j].2 x ≠ 1) ∨ ∃ n : Nat, ∃ _ : n < a.length, e = (n : Int) /\ n < i /\ modeP a[n].2 x = 1 /\ ∀ j (_ : j < a.length), j < i -> modeP a[j].2 x = 1 -> j = n
def WkAt (x : ByteArray) (a : List Mem) (i : Nat) (e : Int) : Prop :=
 (e = -1 /\ ∀ j (_ : j < a.length), j < i -> modeP a[j].2 x ≠ 2) ∨ ∃ n : Nat, ∃ _ : n < a.length, e = (n : Int) /\ n < i /\ modeP a[n].2 x = 2
def ScanIs (x : ByteArray) (a : List Mem) : Option (Int × Int) -> Prop
 | none => ∃ j k, ∃ _ : j < a.length, ∃ _ : k < a.length, j < k /\ modeP a[j].2 x = 1 /\ modeP a[k].2 x = 1
 | some (e, w) => ExpAt x a a.length e /\ WkAt x a a.length w
theorem scanO_spec (x : ByteArray) (a : List Mem) : ∀ (d i : Nat) (e w : Int), i + d = a.length -> ExpAt x a i e -> WkAt x a i w -> ScanIs x a (scanO x (a.drop i) i e w)
 | 0, i, e, w, hi, he, hw => by
  obtain rfl : i = a.length := by omega
  rw [scanO_end (Nat.le_refl _)]
  exact ⟨he, hw⟩
 | d + 1, i, e, w, hi, he, hw => by
  have hk : i < a.length := by omega
  rw [scanO_step hk]
  have e1 : modeP a[i].2 x ≠ 1 -> ExpAt x a (i + 1) e := fun h1 => by
   rcases he with ⟨h, h'⟩ | ⟨n, hn, h, h2, h3, h4⟩
   ·refine Or.inl ⟨h, fun j hj hji => ?_⟩
    by_cases e : j = i
    ·subst e; exact h1
    ·exact h' j hj (by omega)
   ·refine Or.inr ⟨n, hn, h, by omega, h3, fun j hj hji hm => ?_⟩
    by_cases e : j = i
    ·subst e; exact absurd hm h1
    ·exact h4 j hj (by omega) hm
  have w1 : modeP a[i].2 x ≠ 2 -> WkAt x a (i + 1) w := fun h1 => by
   rcases hw with ⟨h, h'⟩ | ⟨n, hn, h, h2, h3⟩
   ·refine Or.inl ⟨h, fun j hj hji => ?_⟩
    by_cases e : j = i
    ·subst e; exact h1
    ·exact h' j hj (by omega)
   ·exact Or.inr ⟨n, hn, h, by omega, h3⟩
  by_cases c1 : modeP a[i].2 x = 1
  ·rw [if_pos c1]
   by_cases c2 : 0 <= e
   ·rw [if_pos c2]
    rcases he with ⟨h, h'⟩ | ⟨n, hn, h, h2, h3, h4⟩
    ·omega
    ·exact ⟨n, i, hn, hk, h2, h3, c1⟩
   ·rw [if_neg c2]
    refine scanO_spec x a d (i + 1) i w (by omega) ?_ (w1 (by rw [c1]; decide))
    rcases he with ⟨h, h'⟩ | ⟨n, hn, h, h2, h3, h4⟩
    ·refine Or.inr ⟨i, hk, rfl, by omega, c1, fun j hj hji hm => ?_⟩
     by_cases e : j = i
     ·exact e
     ·exact absurd hm (h' j hj (by omega))
    ·omega
  ·rw [if_neg c1]
   by_cases c2 : modeP a[i].2 x = 2 /\ w < 0
   ·rw [if_pos c2]
    exact scanO_spec x a d (i + 1) e i (by omega) (e1 c1) (Or.inr ⟨i, hk, rfl, by omega, c2.1⟩)
   ·rw [if_neg c2]
    refine scanO_spec x a d (i + 1) e w (by omega) (e1 c1) ?_
    by_cases c3 : modeP a[i].2 x = 2
    ·rcases hw with ⟨h, h'⟩ | ⟨n, hn, h, h2, h3⟩
     ·exact absurd ⟨c3, by omega⟩ c2
     ·exact Or.inr ⟨n, hn, h, by omega, h3⟩
    ·exact w1 c3
theorem scan_all (x : ByteArray) (a : List Mem) : ScanIs x a (scanO x a 0 (-1) (-1)) :=
 scanO_spec x a a.length 0 (-1) (-1) (by omega) (Or.inl ⟨rfl, fun _ _ h => absurd h (Nat.not_lt_zero _)⟩) (Or.inl ⟨rfl, fun _ _ h => absurd h (Nat.not_lt_zero _)⟩)
def HitIs (E : Env) (x : ByteArray) : Hit -> Prop
 | .twice => ∃ j k, ∃ _ : j < E.objs.length, ∃ _ : k < E.objs.length, j < k /\ modeP E.objs[j].2 x = 1 /\ modeP E.objs[k].2 x = 1
 | .unit u m => (∃ _ : u < E.objs.length, m = 0 /\ ((modeP E.objs[u].2 x = 1 /\ ∀ j (_ : j < E.objs.length), modeP E.objs[j].2 x = 1 -> j = u) ∨ (modeP E.objs[u].2 x = 2 /\ ∀ j (_ : j < E.objs.length), modeP E.objs[j].2 x ≠ 1))) ∨
  ((∀ o ∈ E.objs, isDef x o = false) /\ ∃ i, ∃ _ : i < E.mems.length, u = E.objs.length + i /\ m = i + 1 /\ isDef x E.mems[i] = true /\ ∀ j (_ : j < E.mems.length), j < i -> isDef x E.mems[j] = false)
 | .lib j => (∀ o ∈ E.objs, isDef x o = false) /\ (∀ o ∈ E.mems, isDef x o = false) /\ ∃ _ : j < E.libs.length, isIn x E.libs[j] = true /\ ∀ i (_ : i < E.libs.length), i < j -> isIn x E.libs[i] = false
 | .unknown => (∀ o ∈ E.objs, isDef x o = false) /\ (∀ o ∈ E.mems, isDef x o = false) /\ ∀ l ∈ E.libs, isIn x l = false
theorem hit_is (E : Env) (x : ByteArray) : HitIs E x (hit E x) := by
 have h := scan_all x E.objs
 unfold hit
 cases hs : scanO x E.objs 0 (-1) (-1) with
 | none => rw [hs] at h; exact h
 | some q =>
  obtain ⟨e, w⟩ := q
  rw [hs] at h
  obtain ⟨he, hw⟩ := h
  show HitIs E x (if 0 <= pick e w then _ else _)
  unfold pick
  rcases he with ⟨h1, h2⟩ | ⟨n, hn, h1, h2, h3, h4⟩
  ·subst h1
   rw [if_neg (show ¬ (0 : Int) <= -1 by decide)]
   rcases hw with ⟨k1, k2⟩ | ⟨m, hm, k1, k2, k3⟩
   ·subst k1
    rw [if_neg (show ¬ (0 : Int) <= -1 by decide)]
    have hno : ∀ o ∈ E.objs, isDef x o = false := fun o ho => by
     obtain ⟨j, hj, rfl⟩ := List.getElem_of_mem ho
     simp [isDef, h2 j hj hj, k2 j hj hj]
    unfold later
    cases hf : E.mems.findIdx? (isDef x) with
    | some i =>
     obtain ⟨hi, hp, hq⟩ := List.findIdx?_eq_some_iff_getElem.1 hf
     exact Or.inr ⟨hno, i, hi, rfl, rfl, hp, fun j _ hji => by simpa using hq j hji⟩
    | none =>
     have hm := List.findIdx?_eq_none_iff.1 hf
     show HitIs E x (match E.libs.findIdx? (isIn x) with | some j => Hit.lib j | none => Hit.unknown)
     cases hg : E.libs.findIdx? (isIn x) with
     | some j =>
      obtain ⟨hj, hp, hq⟩ := List.findIdx?_eq_some_iff_getElem.1 hg
      exact ⟨hno, hm, hj, hp, fun i _ hij => by simpa using hq i hij⟩
     | none => exact ⟨hno, hm, List.findIdx?_eq_none_iff.1 hg⟩
   ·subst k1
    rw [if_pos (by omega)]
    exact Or.inl ⟨by simpa using hm, rfl, Or.inr ⟨by simpa using k3, fun j hj => h2 j hj hj⟩⟩
  ·subst h1
   rw [if_pos (by omega), if_pos (by omega)]
   exact Or.inl ⟨by simpa using hn, rfl, Or.inl ⟨by simpa using h3, fun j hj hm => by simpa using h4 j hj hj hm⟩⟩
section
variable {okN : ByteArray -> Bool} {E : Env}
def UnitsOk (okN : ByteArray -> Bool) (E : Env) : Prop := ∀ m ∈ E.units, checkB okN m.2 = true
theorem check_parts {o : C.Obj} (h : checkB okN o = true) : o.1.length <= 128 /\ o.2.length <= 128 /\ namesB okN o.1 = true /\ (∀ s ∈ o.1, symB o.2.length s = true) /\ ∀ i (_ : i < o.2.length), own o.1 i = 1 /\ secB o.1 o.2[i] = true := by
 unfold checkB at h
 simp only [Bool.and_eq_true, decide_eq_true_eq, List.all_eq_true] at h
 exact ⟨h.1.1.1.1, h.1.1.1.2, h.1.1.2, h.1.2, (ownedB_iff o).1 h.2⟩
theorem symP_mem {o : C.Obj} {x : ByteArray} {s : Sym} (h : symP o x = some s) : s ∈ o.1 /\ nm s = x.data.toList := by
 unfold symP at h
 cases hi : idx o.1 x.data.toList with
 | none => rw [hi] at h; cases h
 | some i =>
  rw [hi] at h
  obtain ⟨h1, h2⟩ := idx_lt hi
  have h : o.1[i]? = some s := h
  rw [List.getElem?_eq_getElem h1] at h
  cases h
  exact ⟨List.getElem_mem h1, h2⟩
theorem symB_parts {n : Nat} {s : Sym} (h : symB n s = true) : 0 <= s.2.1 /\ s.2.1 <= 3 /\ -1 <= s.2.2 /\ s.2.2 < n /\ (s.2.1 = 3 -> s.2.2 < 0) /\ (s.2.1 = 1 ∨ s.2.1 = 2 -> 0 <= s.2.2) := by
 unfold symB at h
 simp at h
 omega
theorem def_sec {o : C.Obj} {x : ByteArray} (h : checkB okN o = true) (hm : modeP o x = 1 ∨ modeP o x = 2) : ∃ s, symP o x = some s /\ (s.2.1 = 1 ∨ s.2.1 = 2) /\ 0 <= s.2.2 /\ s.2.2.toNat < o.2.length := by
 unfold modeP at hm
 cases hs : symP o x with
 | none => rw [hs] at hm; simp at hm
 | some s =>
  rw [hs] at hm
  have hm : s.2.1 = 1 ∨ s.2.1 = 2 := hm
  obtain ⟨_, _, _, k, _⟩ := check_parts h
  obtain ⟨_, _, _, a, _, b⟩ := symB_parts (k s (symP_mem hs).1)
  have := b hm
  exact ⟨s, rfl, hm, this, by omega⟩
theorem units_left {u : Nat} (h : u < E.objs.length) : E.units[u]? = some E.objs[u] := by
 unfold Env.units
 rw [List.getElem?_append_left h, List.getElem?_eq_getElem h]
theorem units_right {i : Nat} (h : i < E.mems.length) : E.units[E.objs.length + i]? = some E.mems[i] := by
 unfold Env.units
 rw [List.getElem?_append_right (by omega), show E.objs.length + i - E.objs.length = i by omega, List.getElem?_eq_getElem h]
theorem isDef_mode {x : ByteArray} {m : Mem} (h : isDef x m = true) : modeP m.2 x = 1 ∨ modeP m.2 x = 2 := by simpa [isDef] using h
theorem hit_unit {x : ByteArray} {u m : Nat} (h : hit E x = .unit u m) : ∃ q, E.units[u]? = some q /\ (modeP q.2 x = 1 ∨ modeP q.2 x = 2) /\ m <= E.mems.length := by
 have hh := hit_is E x
 rw [h] at hh
 rcases hh with ⟨hu, rfl, k⟩ | ⟨_, i, hi, rfl, rfl, k, _⟩
 ·refine ⟨_, units_left hu, ?_, Nat.zero_le _⟩
  rcases k with k | k
  ·exact Or.inl k.1
  ·exact Or.inr k.1
 ·exact ⟨_, units_right hi, isDef_mode k, hi⟩
theorem hit_sec (hU : UnitsOk okN E) {x : ByteArray} {u m : Nat} (h : hit E x = .unit u m) : u < E.units.length /\ (E.sec? (u, x)).isSome = true := by
 obtain ⟨q, hq, hm, _⟩ := hit_unit h
 obtain ⟨hu, rfl⟩ := List.getElem?_eq_some_iff.1 hq
 obtain ⟨s, h1, h2, h3, h4⟩ := def_sec (hU _ (List.getElem_mem hu)) hm
 refine ⟨hu, ?_⟩
 unfold Env.sec?
 simp [hq, h1, h3, h4]
theorem hit_lib {x : ByteArray} {j : Nat} (h : hit E x = .lib j) : j < E.libs.length := by
 have hh := hit_is E x
 rw [h] at hh
 exact hh.2.2.1
theorem sec_parts {p : Spot} {c : Sec} (h : E.sec? p = some c) : ∃ m s, E.units[p.1]? = some m /\ symP m.2 p.2 = some s /\ 0 <= s.2.2 /\ ∃ _ : s.2.2.toNat < m.2.2.length, m.2.2[s.2.2.toNat] = c := by
 unfold Env.sec? at h
 cases hm : E.units[p.1]? with
 | none => rw [hm] at h; cases h
 | some m =>
  rw [hm] at h
  cases hs : symP m.2 p.2 with
  | none => simp [hs] at h
  | some s =>
   have h : (if 0 <= s.2.2 then m.2.2[s.2.2.toNat]? else none) = some c := by simpa [hs] using h
   by_cases h0 : 0 <= s.2.2
   ·rw [if_pos h0] at h
    obtain ⟨h1, h2⟩ := List.getElem?_eq_some_iff.1 h
    exact ⟨m, s, rfl, hs, h0, h1, h2⟩
   ·rw [if_neg h0] at h; cases h
theorem sec_is {p : Spot} {c : Sec} (h : E.sec? p = some c) : E.sec p = c := by unfold Env.sec; rw [h]; rfl
theorem sec_ok (hU : UnitsOk okN E) {p : Spot} {c : Sec} (h : E.sec? p = some c) : ∃ m, E.units[p.1]? = some m /\ secB m.2.1 c = true := by
 obtain ⟨m, s, h1, h2, h3, h4, h5⟩ := sec_parts h
 obtain ⟨hu, hm⟩ := List.getElem?_eq_some_iff.1 h1
 refine ⟨m, h1, ?_⟩
 rw [<- h5]
 exact ((check_parts (hU m (hm ▸ List.getElem_mem hu))).2.2.2.2 _ h4).2
theorem rel_ok (hU : UnitsOk okN E) {p : Spot} (h : (E.sec? p).isSome = true) {r : Rel} (hr : r ∈ E.rels p) : (E.sym (p.1, r.2)).isSome = true /\ 0 <= r.1 /\ r.1 + 4 <= ((E.data p).length : Int) := by
 obtain ⟨c, hc⟩ := Option.isSome_iff_exists.1 h
 obtain ⟨m, h1, h2⟩ := sec_ok hU hc
 have hr' : r ∈ c.2.2 := by rwa [Env.rels, sec_is hc] at hr
 unfold secB at h2
 simp only [Bool.and_eq_true] at h2
 have h3 := (rels_range h2.1.2 (Int.le_refl 0)).1 r hr'
 refine ⟨?_, h3.1, ?_⟩
 ·unfold Env.sym
  obtain ⟨i, hi⟩ := Option.isSome_iff_exists.1 h3.2.2
  obtain ⟨k, _⟩ := idx_lt hi
  simp [h1, symP, hi, k]
 ·have := h3.2.1
  unfold Env.data
  rw [sec_is hc]
  omega
def AimOk (E : Env) : Aim -> Prop
 | .bad e => e = 6 ∨ e = 8
 | .spot p => p.1 < E.units.length /\ (E.sec? p).isSome = true
 | .lib j => j < E.libs.length
theorem aim_ok (hU : UnitsOk okN E) {u : Nat} (hu : u < E.units.length) {x : ByteArray} : AimOk E (aim E u x) := by
 unfold aim
 cases hs : E.sym (u, x) with
 | none => exact Or.inr rfl
 | some s =>
  show AimOk E (if s.2.1 = 0 then (if s.2.2 < 0 then Aim.bad 8 else .spot (u, x)) else match hit E x with | .twice => .bad 6 | .unknown => .bad 8 | .unit v _ => .spot (v, x) | .lib j => .lib j)
  by_cases h0 : s.2.1 = 0
  ·rw [if_pos h0]
   by_cases h1 : s.2.2 < 0
   ·rw [if_pos h1]; exact Or.inr rfl
   ·rw [if_neg h1]
    refine ⟨hu, ?_⟩
    unfold Env.sym at hs
    rw [List.getElem?_eq_getElem hu] at hs
    have hs : symP E.units[u].2 x = some s := hs
    have hk := check_parts (hU _ (List.getElem_mem hu))
    obtain ⟨_, _, _, k, _⟩ := symB_parts (hk.2.2.2.1 s (symP_mem hs).1)
    unfold Env.sec?
    simp [List.getElem?_eq_getElem hu, hs, show 0 <= s.2.2 by omega]
    omega
  ·rw [if_neg h0]
   cases hh : hit E x with
   | twice => exact Or.inl rfl
   | unknown => exact Or.inr rfl
   | unit v m => exact hit_sec hU hh
   | lib j => exact hit_lib hh
end
def ListOk (E : Env) (L : List Spot) : Prop := L.length <= 128 /\ L.Nodup /\ ∀ p ∈ L, p.1 < E.units.length /\ (E.sec? p).isSome = true
section
variable {okN : ByteArray -> Bool} {E : Env}
theorem has_iff {L : List Spot} {p : Spot} : has L p = true ↔ p ∈ L := by
 unfold has
 rw [List.any_eq_true]
 constructor
 ·rintro ⟨q, hq, h⟩
  rw [<- of_decide_eq_true h]; exact hq
 ·exact fun h => ⟨p, h, decide_eq_true rfl⟩
theorem pos_lt {L : List Spot} {p : Spot} (h : p ∈ L) : ∃ h : pos L p < L.length, L[pos L p] = p := by
 have h1 : pos L p < L.length := List.findIdx_lt_length.2 ⟨p, h, decide_eq_true rfl⟩
 exact ⟨h1, of_decide_eq_true (List.findIdx_getElem (w := h1))⟩
theorem pos_append {L : List Spot} {p : Spot} (t : List Spot) (h : p ∈ L) : pos (L ++ t) p = pos L p := by
 have h1 : L.findIdx (fun q => decide (q = p)) < L.length := List.findIdx_lt_length.2 ⟨p, h, decide_eq_true rfl⟩
 unfold pos
 rw [List.findIdx_append, if_pos h1]
theorem pos_snoc {L : List Spot} {p : Spot} (h : p ∉ L) : pos (L ++ [p]) p = L.length := by
 have h1 : L.findIdx (fun q => decide (q = p)) = L.length := List.findIdx_eq_length.2 fun q hq => by
  rw [decide_eq_false]
  exact fun e => h (e ▸ hq)
 unfold pos
 rw [List.findIdx_append, h1, if_neg (Nat.lt_irrefl _)]
 simp
theorem addS_ok {st st' : St} {p : Spot} (h : addS st p = .ok st') (hL : ListOk E st.1) (hp : p.1 < E.units.length /\ (E.sec? p).isSome = true) : ListOk E st'.1 /\ st.1 <+: st'.1 /\ p ∈ st'.1 /\ st'.2 = st.2 := by
 unfold addS at h
 by_cases hm : has st.1 p = true
 ·rw [if_pos hm] at h
  cases h
  exact ⟨hL, List.prefix_refl _, has_iff.1 hm, rfl⟩
 ·rw [if_neg hm] at h
  rw [has_iff] at hm
  by_cases hl : 128 <= st.1.length
  ·rw [if_pos hl] at h; cases h
  ·rw [if_neg hl] at h
   cases h
   refine ⟨⟨by simp; omega, ?_, fun q hq => ?_⟩, List.prefix_append _ _, by simp, rfl⟩
   ·rw [List.nodup_append]
    refine ⟨hL.2.1, by simp, fun a ha b hb => ?_⟩
    rw [List.mem_singleton] at hb
    subst hb
    exact fun e => hm (e ▸ ha)
   ·rcases List.mem_append.1 hq with hq | hq
    ·exact hL.2.2 q hq
    ·rw [List.mem_singleton] at hq; subst hq; exact hp
theorem stepR_ok (hU : UnitsOk okN E) {u : Nat} {st st' : St} {x : ByteArray} (h : stepR E u st x = .ok st') (hL : ListOk E st.1) (hu : u < E.units.length) : ListOk E st'.1 /\ st.1 <+: st'.1 /\ ∀ p, aim E u x = .spot p -> p ∈ st'.1 := by
 have ha := aim_ok hU hu (x := x)
 unfold stepR at h
 cases hx : aim E u x with
 | bad e => rw [hx] at h; cases h
 | lib j =>
  rw [hx] at h
  cases h
  exact ⟨hL, List.prefix_refl _, fun p hp => by cases hp⟩
 | spot p =>
  rw [hx] at h ha
  obtain ⟨k1, k2, k3, _⟩ := addS_ok h hL ha
  exact ⟨k1, k2, fun q hq => by cases hq; exact k3⟩
theorem relsF_ok (hU : UnitsOk okN E) {u : Nat} (hu : u < E.units.length) : ∀ {l : List Rel} {st st' : St}, relsF E u l st = .ok st' -> ListOk E st.1 -> ListOk E st'.1 /\ st.1 <+: st'.1 /\ ∀ r ∈ l, ∀ p, aim E u r.2 = .spot p -> p ∈ st'.1
 | [], st, st', h, hL => by cases h; exact ⟨hL, List.prefix_refl _, fun r hr => absurd hr (List.not_mem_nil)⟩
 | r :: l, st, st', h, hL => by
  rw [relsF] at h
  cases hs : stepR E u st r.2 with
  | error e => rw [hs] at h; cases h
  | ok s1 =>
   rw [hs] at h
   obtain ⟨a1, a2, a3⟩ := stepR_ok hU hs hL hu
   obtain ⟨b1, b2, b3⟩ := relsF_ok hU hu h a1
   refine ⟨b1, a2.trans b2, fun q hq p hp => ?_⟩
   rcases List.mem_cons.1 hq with rfl | hq
   ·exact b2.subset (a3 p hp)
   ·exact b3 q hq p hp
def Closed (E : Env) (L : List Spot) (k : Nat) : Prop := ∀ i (_ : i < L.length), i < k -> ∀ r ∈ E.rels L[i], ∀ p, aim E L[i].1 r.2 = .spot p -> p ∈ L
theorem Closed.mono {L M : List Spot} {k : Nat} (h : Closed E L k) (hp : L <+: M) (hk : k <= L.length) : Closed E M k := by
 obtain ⟨t, rfl⟩ := hp
 intro i hi hik r hr p ha
 have e : (L ++ t)[i] = L[i]'(by omega) := List.getElem_append_left (by omega)
 rw [e] at hr ha
 exact List.mem_append_left _ (h i (by omega) hik r hr p ha)
theorem selF_ok (hU : UnitsOk okN E) : ∀ {f k : Nat} {st st' : St}, selF E f k st = .ok st' -> 128 < f + k -> k <= st.1.length -> ListOk E st.1 -> Closed E st.1 k -> ListOk E st'.1 /\ st.1 <+: st'.1 /\ Closed E st'.1 st'.1.length
 | 0, k, st, st', h, hf, hk, hL, hC => by have := hL.1; omega
 | f + 1, k, st, st', h, hf, hk, hL, hC => by
  rw [selF] at h
  by_cases hlt : k < st.1.length
  ·rw [List.getElem?_eq_getElem hlt] at h
   have h : (match relsF E st.1[k].1 (E.rels st.1[k]) st with | .error e => .error e | .ok s' => selF E f (k + 1) s') = (Except.ok st' : Except Int St) := h
   cases hs : relsF E st.1[k].1 (E.rels st.1[k]) st with
   | error e => rw [hs] at h; cases h
   | ok s1 =>
    rw [hs] at h
    obtain ⟨a1, a2, a3⟩ := relsF_ok hU (hL.2.2 _ (List.getElem_mem hlt)).1 hs hL
    have hC1 : Closed E s1.1 (k + 1) := by
     intro i hi hik r hr p ha
     by_cases e : i = k
     ·subst e
      obtain ⟨t, ht⟩ := a2
      have e2 : s1.1[i] = st.1[i] := by
       simp only [<- ht]
       exact List.getElem_append_left hlt
      rw [e2] at hr ha
      exact a3 r hr p ha
     ·exact hC.mono a2 hk i hi (by omega) r hr p ha
    have hle := a2.length_le
    obtain ⟨b1, b2, b3⟩ := selF_ok hU h (by omega) (by omega) a1 hC1
    exact ⟨b1, a2.trans b2, b3⟩
  ·rw [List.getElem?_eq_none (by omega)] at h
   cases h
   have e : k = st.1.length := by omega
   exact ⟨hL, List.prefix_refl _, e ▸ hC⟩
theorem idx_keep {L M : List Spot} {p : Spot} (h : L <+: M) (hp : p ∈ L) : pos M p = pos L p := by
 obtain ⟨t, rfl⟩ := h
 exact pos_append t hp
end
theorem up_le (n : Nat) : n <= up n := by unfold up; omega
theorem ats_len : ∀ (l : List Nat) (e : Nat), (ats l e).length = l.length
 | [], _ => rfl
 | s :: l, e => by rw [ats, List.length_cons, ats_len l, List.length_cons]
theorem fin_le : ∀ (l : List Nat) (e : Nat), e <= fin l e
 | [], e => Nat.le_refl e
 | s :: l, e => by have := fin_le l (up e + s); have := up_le e; rw [fin]; omega
theorem fin_snoc (s : Nat) : ∀ (l : List Nat) (e : Nat), fin (l ++ [s]) e = up (fin l e) + s
 | [], e => rfl
 | a :: l, e => by rw [List.cons_append, fin, fin_snoc s l, fin]
theorem fin_append : ∀ (l m : List Nat) (e : Nat), fin (l ++ m) e = fin m (fin l e)
 | [], m, e => rfl
 | a :: l, m, e => by rw [List.cons_append, fin, fin_append l m, fin]
theorem ats_append : ∀ (l m : List Nat) (e : Nat), ats (l ++ m) e = ats l e ++ ats m (fin l e)
 | [], m, e => rfl
 | a :: l, m, e => by rw [List.cons_append, ats, ats_append l m, ats, fin]; rfl
theorem ats_get {l : List Nat} {k : Nat} (h : k < l.length) : (ats l 0)[k]? = some (up (fin (l.take k) 0)) := by
 have e : l = l.take k ++ (l[k] :: l.drop (k + 1)) := by rw [<- List.drop_eq_getElem_cons h, List.take_append_drop]
 have hl : (ats (l.take k) 0).length = k := by rw [ats_len, List.length_take]; omega
 calc (ats l 0)[k]? = (ats (l.take k ++ (l[k] :: l.drop (k + 1))) 0)[k]? := by rw [<- e]
  _ = some (up (fin (l.take k) 0)) := by rw [ats_append, ats, List.getElem?_append_right (by omega), hl]; simp
theorem putAt_len {l d : Bs} {i : Nat} (h : i + d.length <= l.length) : (putAt l i d).length = l.length := by
 unfold putAt; simp; omega
theorem putAt_mid {X d Y v : Bs} {i o : Nat} (hi : i = X.length + o) (h : o + v.length <= d.length) : putAt (X ++ (d ++ Y)) i v = X ++ (putAt d o v ++ Y) := by
 subst hi
 unfold putAt
 rw [List.take_length_add_append, List.take_append_of_le_length (by omega), Nat.add_assoc, List.drop_length_add_append, List.drop_append_of_le_length h]
 simp only [List.append_assoc]
theorem img_lay {X d : Bs} {e N : Nat} (hX : X.length = e) (hN : up e + d.length <= N) : putAt (X ++ List.replicate (N - e) 0) (up e) d = (X ++ List.replicate (up e - e) 0) ++ (d ++ List.replicate (N - (up e + d.length)) 0) := by
 have hu := up_le e
 have e1 : List.replicate (N - e) (0 : UInt8) = List.replicate (up e - e) 0 ++ (List.replicate d.length 0 ++ List.replicate (N - (up e + d.length)) 0) := by
  rw [List.replicate_append_replicate, List.replicate_append_replicate]
  congr 1
  omega
 rw [e1, <- List.append_assoc, putAt_mid (o := 0) (by simp; omega) (by simp)]
 unfold putAt
 simp
theorem patch_snoc (E : Env) (L : List Spot) (u : Nat) (r : Rel) : ∀ (l : List Rel) (d : Bs), patch E L u (l ++ [r]) d = match aim E u r.2 with | .spot p => putAt (patch E L u l d) r.1.toNat (word (E.at L p)) | _ => patch E L u l d
 | [], d => by
  rw [List.nil_append, patch, patch]
  cases aim E u r.2 <;> rfl
 | a :: l, d => by
  rw [List.cons_append, patch, patch]
  cases aim E u a.2 with
  | spot p => exact patch_snoc E L u r l _
  | bad e => exact patch_snoc E L u r l _
  | lib j => exact patch_snoc E L u r l _
theorem patch_len (E : Env) (L : List Spot) (u : Nat) : ∀ (l : List Rel) (d : Bs), (∀ r ∈ l, 0 <= r.1 /\ r.1 + 4 <= (d.length : Int)) -> (patch E L u l d).length = d.length
 | [], d, _ => rfl
 | a :: l, d, h => by
  have ha := h a (List.mem_cons_self)
  have hl : (putAt d a.1.toNat (word 0)).length = d.length := putAt_len (by simp [word]; omega)
  rw [patch]
  cases aim E u a.2 with
  | spot p =>
   have hp : ∀ v, (putAt d a.1.toNat (word v)).length = d.length := fun v => putAt_len (by simp [word]; omega)
   show (patch E L u l (putAt d a.1.toNat (word (E.at L p)))).length = d.length
   rw [patch_len E L u l _ (by rw [hp]; exact fun r hr => h r (List.mem_cons_of_mem _ hr)), hp]
  | bad e => exact patch_len E L u l d fun r hr => h r (List.mem_cons_of_mem _ hr)
  | lib j => exact patch_len E L u l d fun r hr => h r (List.mem_cons_of_mem _ hr)
theorem imgF_append (f : Spot -> Bs) : ∀ (l m : List Spot) (e : Nat), imgF f (l ++ m) e = imgF f l e ++ imgF f m (fin (l.map fun p => (f p).length) e)
 | [], m, e => rfl
 | a :: l, m, e => by rw [List.cons_append, imgF, imgF_append f l m, imgF, List.map_cons, fin]; simp only [List.append_assoc]
theorem imgF_len (f : Spot -> Bs) : ∀ (l : List Spot) (e : Nat), e + (imgF f l e).length = fin (l.map fun p => (f p).length) e
 | [], e => rfl
 | a :: l, e => by
  have h := imgF_len f l (up e + (f a).length)
  have hu := up_le e
  rw [imgF, List.map_cons, fin, <- h]
  simp
  omega
theorem imgF_snoc (f : Spot -> Bs) (l : List Spot) (p : Spot) (e : Nat) : imgF f (l ++ [p]) e = imgF f l e ++ (List.replicate (up (fin (l.map fun p => (f p).length) e) - fin (l.map fun p => (f p).length) e) 0 ++ f p) := by
 rw [imgF_append, imgF, imgF, List.append_nil]
section
variable {okN : ByteArray -> Bool} {E : Env}
theorem chunk_len (hU : UnitsOk okN E) (L : List Spot) {p : Spot} (h : (E.sec? p).isSome = true) : (E.chunk L p).length = (E.sec p).2.1.size := by
 unfold Env.chunk
 rw [patch_len _ _ _ _ _ fun r hr => (rel_ok hU h hr).2]
 simp [Env.data]
theorem chunk_sizes (hU : UnitsOk okN E) (L : List Spot) {l : List Spot} (h : ∀ p ∈ l, (E.sec? p).isSome = true) : (l.map fun p => (E.chunk L p).length) = E.sizes l := by
 unfold Env.sizes
 exact List.map_congr_left fun p hp => chunk_len hU L (h p hp)
end
end Go.Proofs.YtfbhchpbflaphaaGreatDoor.L

namespace Go.Proofs.YtfbhchpbflaphaaGreatDoor.L
open C
theorem cut_inj {c : UInt8} : ∀ {a a' b b' : Bs}, c ∉ a -> c ∉ a' -> a ++ c :: b = a' ++ c :: b' -> a = a' /\ b = b'
 | [], [], b, b', _, _, e => by simpa using e
 | [], x :: a', b, b', _, h', e => by
  rw [List.nil_append, List.cons_append, List.cons.injEq] at e
  exact absurd (e.1 ▸ List.mem_cons_self) h'
 | x :: a, [], b, b', h, _, e => by
  rw [List.nil_append, List.cons_append, List.cons.injEq] at e
  exact absurd (e.1 ▸ List.mem_cons_self) h
 | x :: a, y :: a', b, b', h, h', e => by
  rw [List.cons_append, List.cons_append, List.cons.injEq] at e
  obtain ⟨h1, h2⟩ := cut_inj (fun k => h (List.mem_cons_of_mem _ k)) (fun k => h' (List.mem_cons_of_mem _ k)) e.2
  exact ⟨by rw [e.1, h1], h2⟩
theorem full_data (p n : ByteArray) : (full p n).data.toList = p.data.toList ++ (33 :: n.data.toList) := by simp [full]
def mname (m : Mem) : Bs := m.1.data.toList
def NamesOk (E : Env) : Prop := (E.units.map mname).Nodup
theorem NamesOk.eq {E : Env} (h : NamesOk E) {i j : Nat} (hi : i < E.units.length) (hj : j < E.units.length) (e : mname E.units[i] = mname E.units[j]) : i = j := by
 unfold NamesOk at h
 rw [List.nodup_iff_pairwise_ne, List.pairwise_map, List.pairwise_iff_getElem] at h
 rcases Nat.lt_trichotomy i j with k | k | k
 ·exact absurd e (h i j hi hj k)
 ·exact k
 ·exact absurd e.symm (h j i hj hi k)
section
variable {okN okP : ByteArray -> Bool}
theorem mems_nodup {l : List Mem} (h : memsB okN okP l = true) : (l.map mname).Nodup := by
 obtain ⟨_, h2⟩ := (memsB_iff okN okP l).1 h
 rw [List.nodup_iff_pairwise_ne, List.pairwise_map, List.pairwise_iff_getElem]
 intro i j hi hj hij
 exact (h2 j hj).2.2 i hi hij
theorem mems_each {l : List Mem} (h : memsB okN okP l = true) {m : Mem} (hm : m ∈ l) : okP m.1 = true /\ checkB okN m.2 = true := by
 obtain ⟨_, h2⟩ := (memsB_iff okN okP l).1 h
 obtain ⟨i, hi, rfl⟩ := List.getElem_of_mem hm
 exact ⟨(h2 i hi).1, (h2 i hi).2.1⟩
theorem distB_iff {l : List ByteArray} : distB okP l = true ↔ (∀ s ∈ l, okP s = true) /\ l.length <= 64 /\ (l.map fun s => s.data.toList).Nodup := by
 unfold distB
 simp only [Bool.and_eq_true, List.all_eq_true, decide_eq_true_eq, and_assoc]
theorem valid_parts {objs : List Mem} {sh : List Shelf} {libs : List Libr} (h : validB okN okP objs sh libs = true) :
 memsB okN okP objs = true /\ (∀ s ∈ sh, memsB okN okP s.2 = true) /\ ((∀ s ∈ sh, okP s.1 = true) /\ sh.length <= 64 /\ (sh.map fun s => s.1.data.toList).Nodup) /\ (∀ l ∈ libs, libB okN l = true) /\ ((∀ s ∈ libs, okP s.1 = true) /\ libs.length <= 64 /\ (libs.map fun s => s.1.data.toList).Nodup) := by
 unfold validB at h
 simp only [Bool.and_eq_true, List.all_eq_true] at h
 obtain ⟨⟨⟨⟨h1, h2⟩, h3⟩, h4⟩, h5⟩ := h
 rw [distB_iff] at h3 h5
 simp only [List.mem_map, forall_exists_index, and_imp, forall_apply_eq_imp_iff₂, List.length_map, List.map_map] at h3 h5
 exact ⟨h1, h2, h3, h4, h5⟩
theorem mem_memsOf {sh : List Shelf} {m : Mem} (h : m ∈ memsOf sh) : ∃ s ∈ sh, ∃ q ∈ s.2, m = (full s.1 q.1, q.2) := by
 unfold memsOf at h
 obtain ⟨s, hs, h⟩ := List.mem_flatMap.1 h
 obtain ⟨q, hq, rfl⟩ := List.mem_map.1 h
 exact ⟨s, hs, q, hq, rfl⟩
theorem valid_units {objs : List Mem} {sh : List Shelf} {libs : List Libr} (h : validB okN okP objs sh libs = true) (libs' : List Libr) : UnitsOk okN (envOf objs sh libs') := by
 obtain ⟨h1, h2, _⟩ := valid_parts h
 intro m hm
 rcases List.mem_append.1 hm with hm | hm
 ·exact (mems_each h1 hm).2
 ·obtain ⟨s, hs, q, hq, rfl⟩ := mem_memsOf hm
  exact (mems_each (h2 s hs) hq).2
theorem valid_names (hP : ∀ s, okP s = true -> (33 : UInt8) ∉ s.data.toList) {objs : List Mem} {sh : List Shelf} {libs : List Libr} (h : validB okN okP objs sh libs = true) (libs' : List Libr) : NamesOk (envOf objs sh libs') := by
 obtain ⟨h1, h2, ⟨h3, hl, h4⟩, _⟩ := valid_parts h
 unfold NamesOk Env.units
 rw [List.map_append, List.nodup_append]
 refine ⟨mems_nodup h1, ?_, ?_⟩
 ·show ((memsOf sh).map mname).Nodup
  clear h h1 hl
  induction sh with
  | nil => simp [memsOf]
  | cons s sh ih =>
   rw [List.map_cons, List.nodup_cons] at h4
   have e : memsOf (s :: sh) = (s.2.map fun m => (full s.1 m.1, m.2)) ++ memsOf sh := by simp [memsOf]
   rw [e, List.map_append, List.nodup_append]
   refine ⟨?_, ih (fun x hx => h2 x (List.mem_cons_of_mem _ hx)) (fun x hx => h3 x (List.mem_cons_of_mem _ hx)) h4.2, ?_⟩
   ·have hn := mems_nodup (h2 s List.mem_cons_self)
    rw [List.nodup_iff_pairwise_ne, List.pairwise_map] at hn ⊢
    rw [List.pairwise_map]
    refine hn.imp fun {a b} hab e => hab ?_
    have e : (full s.1 a.1).data.toList = (full s.1 b.1).data.toList := e
    rw [full_data, full_data, List.append_cancel_left_eq, List.cons.injEq] at e
    exact e.2
   ·intro a ha b hb e
    obtain ⟨x, hx, rfl⟩ := List.mem_map.1 ha
    obtain ⟨q, hq, rfl⟩ := List.mem_map.1 hx
    obtain ⟨y, hy, rfl⟩ := List.mem_map.1 hb
    obtain ⟨t, ht, q', hq', rfl⟩ := mem_memsOf hy
    have e : (full s.1 q.1).data.toList = (full t.1 q'.1).data.toList := e
    rw [full_data, full_data] at e
    have := (cut_inj (hP _ (h3 s List.mem_cons_self)) (hP _ (h3 t (List.mem_cons_of_mem _ ht))) e).1
    exact h4.1 (List.mem_map.2 ⟨t, ht, this.symm⟩)
 ·intro a ha b hb e
  obtain ⟨x, hx, rfl⟩ := List.mem_map.1 ha
  obtain ⟨y, hy, rfl⟩ := List.mem_map.1 hb
  obtain ⟨t, ht, q', hq', rfl⟩ := mem_memsOf hy
  have e : x.1.data.toList = (full t.1 q'.1).data.toList := e
  rw [full_data] at e
  refine hP _ (mems_each h1 hx).1 ?_
  rw [e]
  simp
end
theorem spot_eq {E : Env} (h : NamesOk E) {p q : Spot} (hp : p.1 < E.units.length) (hq : q.1 < E.units.length) : p = q ↔ (E.name p.1).data.toList = (E.name q.1).data.toList /\ p.2 = q.2 := by
 constructor
 ·rintro rfl; exact ⟨rfl, rfl⟩
 ·rintro ⟨h1, h2⟩
  unfold Env.name at h1
  rw [List.getElem?_eq_getElem hp, List.getElem?_eq_getElem hq] at h1
  exact Prod.ext (h.eq hp hq h1) h2
end Go.Proofs.YtfbhchpbflaphaaGreatDoor.L

namespace Go.Proofs.YtfbhchpbflaphaaGreatDoor
open Go.RowKit Go.Maps
def Gl (w : World) : Prop := ∃ m, w.cell? ⟨0, 0, none⟩ = some (.int .i64 m)
theorem Gl.ext {w w' : World} (h : Gl w) (he : Ext w w') : Gl w' := by obtain ⟨m, hm⟩ := h; exact ⟨m, he.keepc hm⟩
def shelfR : Rep L.Shelf := prodR strR (sliceR memR)
def expR : Rep L.Expd := prodR strR (intR .i64)
def plcR : Rep L.Plc := prodR strR (prodR strR (prodR (intR .i64) (prodR (intR .i64) (intR .i64))))
def impR : Rep L.Impt := prodR strR (prodR strR (intR .i64))
def noteR : Rep L.Note := prodR strR strR
def binR : Rep L.Bin := prodR (intR .i64) (prodR (intR .i64) (prodR strR (prodR (sliceR plcR) (prodR (sliceR (intR .i64)) (prodR (sliceR impR) (prodR (sliceR expR) (sliceR noteR)))))))
def librR : Rep L.Libr := prodR strR binR
section
variable {w : World} {B : Nat -> Prop} {A : Option Addr} {c k : Nat}
theorem shelf_get {l : List L.Shelf} (h : SliceAt shelfR w B A c l) (hk : k < l.length) :
 ∃ b off SA sc, A = some ⟨b, off, none⟩ /\ B b /\ l[k].1.size <= 9223372036854775807 /\ SliceAt memR w B SA sc l[k].2 /\
  w.cell? ⟨b, off + k * 2, none⟩ = some (.string l[k].1) /\ w.cell? ⟨b, off + k * 2 + 1, none⟩ = some (.slice SA l[k].2.length sc) := by
 obtain ⟨b, off, rfl, hb, hr⟩ := h.2.2 (by intro h; rw [h] at hk; simp at hk)
 obtain ⟨us, ⟨x, y, rfl, ⟨rfl, hs⟩, SA, sc, rfl, hSA⟩, hc⟩ := hr k hk
 exact ⟨b, off, SA, sc, rfl, hb, hs, hSA, hc 0 _ rfl, hc 1 _ rfl⟩
theorem exp_get {l : List L.Expd} (h : SliceAt expR w B A c l) (hk : k < l.length) :
 ∃ b off, A = some ⟨b, off, none⟩ /\ B b /\ l[k].1.size <= 9223372036854775807 /\ (Lit.int .i64 l[k].2).wf = true /\
  w.cell? ⟨b, off + k * 2, none⟩ = some (.string l[k].1) /\ w.cell? ⟨b, off + k * 2 + 1, none⟩ = some (.int .i64 l[k].2) := by
 obtain ⟨b, off, rfl, hb, hr⟩ := h.2.2 (by intro h; rw [h] at hk; simp at hk)
 obtain ⟨us, ⟨x, y, rfl, ⟨rfl, hs⟩, rfl, hw⟩, hc⟩ := hr k hk
 exact ⟨b, off, rfl, hb, hs, hw, hc 0 _ rfl, hc 1 _ rfl⟩
structure BinV (w : World) (B : Nat -> Prop) (b : L.Bin) (vs : List Value) : Prop where
 form : ∃ A1 c1 A2 c2 A3 c3 A4 c4 A5 c5, vs = [.int .i64 b.1, .int .i64 b.2.1, .string b.2.2.1, .slice A1 b.2.2.2.1.length c1, .slice A2 b.2.2.2.2.1.length c2, .slice A3 b.2.2.2.2.2.1.length c3, .slice A4 b.2.2.2.2.2.2.1.length c4, .slice A5 b.2.2.2.2.2.2.2.length c5] /\
  SliceAt plcR w B A1 c1 b.2.2.2.1 /\ SliceAt (intR .i64) w B A2 c2 b.2.2.2.2.1 /\ SliceAt impR w B A3 c3 b.2.2.2.2.2.1 /\ SliceAt expR w B A4 c4 b.2.2.2.2.2.2.1 /\ SliceAt noteR w B A5 c5 b.2.2.2.2.2.2.2 /\
  (Lit.int .i64 b.1).wf = true /\ (Lit.int .i64 b.2.1).wf = true /\ b.2.2.1.size <= 9223372036854775807
theorem bin_vals {b : L.Bin} {us : List Value} (h : binR.is w B b us) : BinV w B b us := by
 obtain ⟨x1, y1, rfl, ⟨rfl, k1⟩, x2, y2, rfl, ⟨rfl, k2⟩, x3, y3, rfl, ⟨rfl, k3⟩, x4, y4, rfl, ⟨A1, c1, rfl, h1⟩, x5, y5, rfl, ⟨A2, c2, rfl, h2⟩, x6, y6, rfl, ⟨A3, c3, rfl, h3⟩, x7, y7, rfl, ⟨A4, c4, rfl, h4⟩, A5, c5, rfl, h5⟩ := h
 exact ⟨⟨A1, c1, A2, c2, A3, c3, A4, c4, A5, c5, rfl, h1, h2, h3, h4, h5, k1, k2, k3⟩⟩
theorem lib_get {l : List L.Libr} (h : SliceAt librR w B A c l) (hk : k < l.length) :
 ∃ b off, A = some ⟨b, off, none⟩ /\ B b /\ l[k].1.size <= 9223372036854775807 /\ w.cell? ⟨b, off + k * 9, none⟩ = some (.string l[k].1) /\
  ∃ vs, BinV w B l[k].2 vs /\ ∀ j u, vs[j]? = some u -> w.cell? ⟨b, off + k * 9 + 1 + j, none⟩ = some u := by
 obtain ⟨b, off, rfl, hb, hr⟩ := h.2.2 (by intro h; rw [h] at hk; simp at hk)
 obtain ⟨us, ⟨x, y, rfl, ⟨rfl, hs⟩, hy⟩, hc⟩ := hr k hk
 refine ⟨b, off, rfl, hb, hs, hc 0 _ rfl, y, bin_vals hy, fun j u hj => ?_⟩
 have := hc (j + 1) u (by rw [List.getElem?_append_right (by simp)]; simpa using hj)
 rw [show off + k * 9 + 1 + j = off + (k * librR.size + (j + 1)) by show _ = off + (k * 9 + (j + 1)); omega]
 exact this
end
end Go.Proofs.YtfbhchpbflaphaaGreatDoor

namespace Go.Proofs.YtfbhchpbflaphaaGreatDoor
open Go.RowKit Go.Maps Go.ChangeMaps
theorem zero4 (w : World) : (zeroValue 4).run Tryz.prog w = .ok (.bool false) w := by kernel_rfl
theorem str_get {w : World} {B : Nat -> Prop} {A : Option Addr} {c k : Nat} {l : List ByteArray} (h : SliceAt strR w B A c l) (hk : k < l.length) :
 ∃ b off, A = some ⟨b, off, none⟩ /\ B b /\ l[k].size <= 9223372036854775807 /\ w.cell? ⟨b, off + k, none⟩ = some (.string l[k]) := by
 obtain ⟨b, off, rfl, hb, hr⟩ := h.2.2 (by intro h; rw [h] at hk; simp at hk)
 obtain ⟨us, ⟨rfl, hs⟩, hc⟩ := hr k hk
 exact ⟨b, off, rfl, hb, hs, by have := hc 0 _ rfl; simpa [strR] using this⟩
def strC (s : ByteArray) : List Value := [.string s]
theorem strC_one (s : ByteArray) : ∀ u ∈ strC s, u.oneCell' = true := by intro u hu; rw [strC, List.mem_singleton] at hu; subst hu; rfl
abbrev OwnB := OwnL strC 9 1
theorem strC_is {l : List ByteArray} (hs : ∀ s ∈ l, s.size <= 9223372036854775807) : ∀ B w, ∀ a ∈ l, strR.is w B a (strC a) := fun _ _ a ha => ⟨rfl, hs a ha⟩
theorem OwnB.slice {w : World} {base n : Nat} {v : Value} {l : List ByteArray} (h : OwnB w base v n l) (hs : ∀ s ∈ l, s.size <= 9223372036854775807) : ∃ A c, v = .slice A n c /\ SliceAt strR w (Old w) A c l := h.sliceOld fun B => strC_is hs B w
def nmB (s : ByteArray) : C.Bs := s.data.toList
def distTo (l : List ByteArray) (k : Nat) : Prop := ∀ i (h : i < l.length), i < k -> okP l[i] = true /\ ¬ nmB l[i] ∈ (l.take i).map nmB
theorem dist_nodup {l : List ByteArray} : (l.map nmB).Nodup ↔ ∀ i (h : i < l.length), ¬ nmB l[i] ∈ (l.take i).map nmB := by
 rw [List.nodup_iff_pairwise_ne, List.pairwise_map, List.pairwise_iff_getElem]
 constructor
 ·intro h i hi hm
  obtain ⟨s, hs, e⟩ := List.mem_map.1 hm
  obtain ⟨j, hj, rfl⟩ := List.getElem_of_mem hs
  rw [List.length_take] at hj
  rw [List.getElem_take] at e
  exact h j i (by omega) hi (by omega) e
 ·intro h i j hi hj hij e
  refine h j hj (List.mem_map.2 ⟨l[i], ?_, e⟩)
  have : (l.take j)[i]'(by rw [List.length_take]; omega) = l[i] := List.getElem_take
  rw [<- this]
  exact List.getElem_mem _
theorem dist_bad {l : List ByteArray} {k : Nat} (hk : k < l.length) (h : ¬ ((¬ nmB l[k] ∈ (l.take k).map nmB) /\ okP l[k] = true)) : L.distB okP l = false := by
 rw [Bool.eq_false_iff]
 intro h'
 obtain ⟨h1, _, h3⟩ := L.distB_iff.1 h'
 exact h ⟨dist_nodup.1 h3 k hk, h1 _ (List.getElem_mem hk)⟩
theorem dist_end {l : List ByteArray} (h : distTo l l.length) : L.distB okP l = decide (l.length <= 64) := by
 by_cases hl : l.length <= 64
 ·rw [decide_eq_true hl]
  refine L.distB_iff.2 ⟨fun s hs => ?_, hl, dist_nodup.2 fun i hi => (h i hi hi).2⟩
  obtain ⟨i, hi, rfl⟩ := List.getElem_of_mem hs
  exact (h i hi hi).1
 ·rw [decide_eq_false hl, Bool.eq_false_iff]
  intro h'
  exact hl (L.distB_iff.1 h').2.1
theorem dist_on {l : List ByteArray} {k : Nat} (h : distTo l k) (hk : k < l.length) (h1 : (¬ nmB l[k] ∈ (l.take k).map nmB) /\ okP l[k] = true) : distTo l (k + 1) := by
 intro i hi hik
 by_cases e : i = k
 ·subst e; exact ⟨h1.2, h1.1⟩
 ·exact h i hi (by omega)
theorem dist_snoc {l : List ByteArray} {k : Nat} (hk : k < l.length) : (l.take (k + 1)).map nmB = (l.take k).map nmB ++ [nmB l[k]] := by
 rw [List.take_succ_eq_append_getElem hk, List.map_append]
 rfl
set_option maxRecDepth 8000 in
set_option maxHeartbeats 4000000 in
theorem different_any (l : List ByteArray) (A : Option Addr) (c n : Nat) (w : World) (hn : n = l.length) (hA : SliceAt strR w (Old w) A c l) (hz : ∀ s ∈ l, s.size <= 1000000) (hn2 : n <= 100000) (hg : Gl w) :
 Calls Tryz.prog 77 #[.slice A n c] w (Al (.bool (L.distB okP l)) w) := by
 have hmm := @run_makeMap Tryz.prog
 have HN := Lib.hid hn
 have HA := Lib.hid hA
 have HZ := Lib.hid hz
 have HG := Lib.hid hg
 have FB := Lib.hid (fun k hk => @dist_bad l k hk)
 have FE := Lib.hid (@dist_end l)
 generalize L.distB okP l = R at FB FE ⊢
 have HS0 := Lib.hid (SetTo.made Tryz.prog 9 4 w)
 clear hn hA hz hg
 go_enter Tryz.func77, Tryz.ntmps77
 go_wp2_with fail
 go_loopw [9] (fun i wr => ∃ k : Nat, k <= n /\ i = .int .i64 k /\ Hid (distTo l k /\ SetTo Tryz.prog 9 4 wr w.heap.size k ((l.take k).map nmB) /\ Ext w wr)) (fun i _ => n - (intOf i).toNat)
 case atStart => exact ⟨0, Nat.zero_le _, rfl, fun _ _ h => absurd h (Nat.not_lt_zero _), HS0.out, (Ext.refl w).alloc _⟩
 case round =>
  obtain ⟨k, hk, rfl, HK⟩ := hrel
  by_cases hlt : k < n
  ·have hkz : k < l.length := by rw [<- HN.out]; exact hlt
   obtain ⟨b, off, rfl, hB, hs, c0⟩ := str_get (HA.out.ext HK.out.2.2) hkz
   have hfb := FB.out k hkz
   have hon := dist_on HK.out.1 hkz
   have htk := dist_snoc hkz
   have hzz := HZ.out _ (List.getElem_mem hkz)
   obtain ⟨s, hgk⟩ : ∃ s, s = l[k] := ⟨_, rfl⟩
   rw [<- hgk] at hfb hon htk hzz c0 hs
   have hmn : nmB s = s.data.toList := rfl
   rw [hmn] at hfb hon htk
   have hset1 := HK.out.2.1
   have HFB := Lib.hid hfb
   have HON := Lib.hid hon
   have HTK := Lib.hid htk
   have HX1 := Lib.hid HK.out.2.2
   have HS1 := Lib.hid hset1
   obtain ⟨ns, hns⟩ : ∃ x, x = (l.take k).map nmB := ⟨_, rfl⟩
   rw [<- hns] at hset1 HS1 HFB HON HTK
   clear hfb hon htk hmn hgk HK hns
   by_cases hin : s.data.toList ∈ ns
   ·have HR := Lib.hid (HFB.out (fun h => h.1 hin))
    have hdd : decide (s.data.toList ∈ ns) = true := decide_eq_true hin
    clear hin
    go_wp2_with (at_lookup; refine wpList_lookup_set _ rfl _ _ 187 rfl 9 4 Tryz.underlying9 Tryz.underlying187 Tryz.underlying4 zero4 w.heap.size k ns rfl hset1 s rfl (by unfold maxLen; omega) ?_; rw [hdd])
    go_ret
    exact ⟨by rw [HR.out]; rfl, HX1.out⟩
   ·have hdd : decide (s.data.toList ∈ ns) = false := decide_eq_false hin
    obtain ⟨m, hm⟩ := HG.out.ext HX1.out
    have HPM := Lib.hid (path_is s m wr hzz hm)
    have hpe : pathL s.data.toList = okP s := rfl
    rw [hpe] at HPM
    clear hm hpe
    go_wp2_with (at_lookup; refine wpList_lookup_set _ rfl _ _ 187 rfl 9 4 Tryz.underlying9 Tryz.underlying187 Tryz.underlying4 zero4 w.heap.size k ns rfl hset1 s rfl (by unfold maxLen; omega) ?_; rw [hdd])
    refine HPM.out.mono ?_
    rintro e w2 ⟨rfl, d2⟩
    have HX2 := Lib.hid (HX1.out.trans d2)
    have hset2 := HS1.out.ext d2
    clear d2 hset1
    rcases Bool.eq_false_or_eq_true (okP s) with hp | hp
    ·rw [hp, show pathErr true = 0 from rfl]
     have H9 := Lib.hid (HON.out ⟨hin, hp⟩)
     clear hin hp
     go_wp2_with (at_mapUpdate; (refine wpList_put_set _ rfl _ _ _ 187 rfl 9 4 Tryz.underlying9 Tryz.underlying187 Tryz.underlying4 w.heap.size k ns rfl hset2 (by unfold maxLen; omega) s rfl rfl (by unfold maxLen; omega) ?_); intro w4 hs4 hg4)
     go_roundw
     case rel => exact ⟨k + 1, by omega, by go_num, H9.out, by rw [HTK.out]; exact hs4, HX2.out.own (Nat.le_refl _) hg4⟩
     case measure => simp [intOf]; omega
    ·rw [hp, show pathErr false = 2 from rfl]
     have HR := Lib.hid (HFB.out (fun h => by rw [hp] at h; cases h.2))
     clear hin hp
     go_wp2_with fail
     go_ret
     exact ⟨by rw [HR.out]; rfl, HX2.out⟩
  ·have HE := Lib.hid (FE.out (by have := HK.out.1; rwa [show k = l.length by have := HN.out; omega] at this))
   have hnl : n = l.length := HN.out
   have HNL : Hid (R = decide ((n : Int) <= 64)) := by
    unfold Hid
    rw [HE.out, hnl]
    by_cases h : l.length <= 64
    ·rw [decide_eq_true h, decide_eq_true (by omega)]
    ·rw [decide_eq_false h, decide_eq_false (by omega)]
   clear hnl HE
   go_wp2_with fail
   go_ret
   exact ⟨by rw [HNL.out]; rfl, HK.out.2.2⟩
end Go.Proofs.YtfbhchpbflaphaaGreatDoor

namespace Go.Proofs.YtfbhchpbflaphaaGreatDoor
open Go.RowKit Go.Maps Go.ChangeMaps
theorem mems_split (l : List C.Mem) : C.memsB okN okP l = ((l.all fun m => C.checkB okN m.2) && L.distB okP (l.map (·.1))) := by
 rw [Bool.eq_iff_iff, Bool.and_eq_true, List.all_eq_true]
 constructor
 ·intro h
  obtain ⟨h1, h2⟩ := (C.memsB_iff okN okP l).1 h
  refine ⟨fun m hm => (L.mems_each h hm).2, L.distB_iff.2 ⟨fun s hs => ?_, by simpa using h1, ?_⟩⟩
  ·obtain ⟨m, hm, rfl⟩ := List.mem_map.1 hs
   exact (L.mems_each h hm).1
  ·have := L.mems_nodup h
   rw [List.map_map]
   exact this
 ·rintro ⟨h1, h2⟩
  obtain ⟨h3, h4, h5⟩ := L.distB_iff.1 h2
  refine (C.memsB_iff okN okP l).2 ⟨by simpa using h4, fun i hi => ⟨h3 _ (List.mem_map.2 ⟨_, List.getElem_mem hi, rfl⟩), h1 _ (List.getElem_mem hi), fun j hj hji e => ?_⟩⟩
  rw [List.map_map, List.nodup_iff_pairwise_ne, List.pairwise_map, List.pairwise_iff_getElem] at h5
  exact h5 j i hj hi hji e
theorem mems_no {l : List C.Mem} {k : Nat} (hk : k < l.length) (h : C.checkB okN l[k].2 = false) : C.memsB okN okP l = false := by
 rw [mems_split, Bool.and_eq_false_iff]
 refine Or.inl ?_
 rw [List.all_eq_false]
 exact ⟨_, List.getElem_mem hk, by rw [h]; decide⟩
theorem mems_yes {l : List C.Mem} (h : ∀ i (h : i < l.length), C.checkB okN l[i].2 = true) : C.memsB okN okP l = L.distB okP (l.map (·.1)) := by
 rw [mems_split, List.all_eq_true.2 fun m hm => by obtain ⟨i, hi, rfl⟩ := List.getElem_of_mem hm; exact h i hi, Bool.true_and]
theorem name_snoc {l : List C.Mem} {k : Nat} (hk : k < l.length) : (l.take (k + 1)).map (·.1) = (l.take k).map (·.1) ++ [l[k].1] := by
 rw [List.take_succ_eq_append_getElem hk, List.map_append]
 rfl
theorem one_cells (W : World) (s : ByteArray) (t : TypeId) (b : Nat) (hb : b = W.heap.size) : ∀ j u, (strC s)[j]? = some u -> (W.alloc (.cells #[.string s] t)).cell? ⟨b, j, none⟩ = some u := by
 subst hb
 intro j u hj
 rw [cell_new]
 cases j with
 | zero => simpa [strC] using hj
 | succ j => simp [strC] at hj
set_option maxRecDepth 8000 in
set_option maxHeartbeats 4000000 in
theorem members_any (l : List C.Mem) (A : Option Addr) (c n : Nat) (w : World) (hn : n = l.length) (hA : SliceAt memR w (Old w) A c l) (hz : MemSizes l) (hn2 : n <= 100000) (hg : Gl w) :
 Calls Tryz.prog 76 #[.slice A n c] w (Al (.bool (C.memsB okN okP l)) w) := by
 obtain ⟨i0, hi0, hz0, hz1, hz2⟩ := info_parts str_info
 have HN := Lib.hid hn
 have HA := Lib.hid hA
 have HZ := Lib.hid hz
 have HG := Lib.hid hg
 have FB := Lib.hid (fun k hk => @mems_no l k hk)
 have FE := Lib.hid (@mems_yes l)
 generalize C.memsB okN okP l = R at FB FE ⊢
 clear hn hA hz hg
 go_enter Tryz.func76, Tryz.ntmps76
 go_wp2_with fail
 go_loopw [3, 8] (fun v i wr => ∃ k : Nat, k <= n /\ i = .int .i64 k /\ Hid ((∀ i (h : i < l.length), i < k -> C.checkB okN l[i].2 = true) /\ OwnB wr w.heap.size v k ((l.take k).map (·.1)) /\ Ext w wr)) (fun _ i _ => n - (intOf i).toNat)
 case atStart => exact ⟨0, Nat.zero_le _, rfl, fun _ _ h => absurd h (Nat.not_lt_zero _), OwnL.nil _ _, Ext.refl w⟩
 case round =>
  obtain ⟨k, hk, rfl, HK⟩ := hrel
  by_cases hlt : k < n
  ·have hkz : k < l.length := by rw [<- HN.out]; exact hlt
   obtain ⟨b, off, s, SA, sc, SB, sd, rfl, hB, hgk, hs, hSA, hSB, c0, c1, c2⟩ := mem_getB (HA.out.ext HK.out.2.2) hkz
   have hfb := FB.out k hkz
   have hsn := name_snoc hkz
   have hzz := HZ.out _ (List.getElem_mem hkz)
   have hon : C.checkB okN l[k].2 = true -> ∀ i (h : i < l.length), i < k + 1 -> C.checkB okN l[i].2 = true := fun hc i hi hik => by
    by_cases e : i = k
    ·subst e; exact hc
    ·exact HK.out.1 i hi (by omega)
   rw [hgk] at hsn hzz
   generalize l[k].2 = o at hSA hSB c1 c2 hfb hon hzz
   obtain ⟨sn, hsn1⟩ : ∃ x, x = o.1.length := ⟨_, rfl⟩
   obtain ⟨sm, hsm1⟩ : ∃ x, x = o.2.length := ⟨_, rfl⟩
   rw [<- hsn1] at c1
   rw [<- hsm1] at c2
   have HFB := Lib.hid hfb
   have HON := Lib.hid hon
   have HSN := Lib.hid hsn
   have E1 : Ext wr (wr.alloc (.cells #[.string s, .slice SA sn sc, .slice SB sm sd] 69)) := (Ext.refl wr).alloc _
   have HCK := Lib.hid (fun W (h : Ext wr W) => Check_any o SA SB sc sd sn sm W hsn1 (hSA.ext h) hsm1 (hSB.ext h) hzz.2)
   have HX1 := Lib.hid (HK.out.2.2.trans E1)
   have HE1 := Lib.hid E1
   have HO1 := Lib.hid (HK.out.2.1.ext E1)
   clear hfb hon hsn hzz hgk hsn1 hsm1 hSA hSB E1 HK
   go_wp2_with fail
   refine (HCK.out _ HE1.out).mono ?_
   rintro e w2 ⟨rfl, d2⟩
   have x0 := d2.keepc (cell_new wr #[.string s, .slice SA sn sc, .slice SB sm sd] 69 0)
   have HX2 := Lib.hid (HX1.out.trans d2)
   have HO2 := Lib.hid (HO1.out.ext d2)
   clear d2
   rcases Bool.eq_false_or_eq_true (C.checkB okN o) with hc | hc
   ·rw [hc, show chk true = 0 from rfl]
    have H9 := Lib.hid (HON.out hc)
    have hown := HO2.out.ext ((Ext.refl w2).alloc (.cells #[.string s] 9))
    have hbs := HX2.out.size
    clear hc
    go_wp2_with (at_builtin; refine wpList_append_one rfl (.tmp 16) (.tmp 19) 36 rfl Tryz.underlying36 hi0 hz0 hz1 hz2 rfl (by decide) (by decide) rfl hown s rfl rfl (one_cells _ s 9 _ rfl) (strC_one s) (by omega) (by simp; omega) ?_; intro v3 w3 hown3 hg3 _)
    have HX3 := Lib.hid (Ext.grownL (HX2.out.alloc (.cells #[.string s] 9)) hown (Nat.le_refl _) hg3)
    go_roundw
    case rel => exact ⟨k + 1, by omega, by go_num, H9.out, by rw [HSN.out]; exact hown3, HX3.out⟩
    case measure => simp [intOf]; omega
   ·rw [hc, show chk false = 1 from rfl]
    have HR := Lib.hid (HFB.out hc)
    clear hc
    go_wp2_with fail
    go_ret
    exact ⟨by rw [HR.out]; rfl, HX2.out⟩
  ·obtain rfl : k = n := by omega
   have hkl : k = l.length := HN.out
   have hE := FE.out fun i hi => HK.out.1 i hi (by omega)
   have hO := HK.out.2.1
   rw [List.take_of_length_le (by omega)] at hO
   obtain ⟨A2, c2, rfl, hA2⟩ := OwnB.slice hO fun s hs => by
    obtain ⟨m, hm, rfl⟩ := List.mem_map.1 hs
    have := (HZ.out m hm).1
    omega
   have HD := Lib.hid (different_any (l.map (·.1)) A2 c2 k wr (by simp [hkl]) hA2 (fun s hs => by
    obtain ⟨m, hm, rfl⟩ := List.mem_map.1 hs
    exact (HZ.out m hm).1) hn2 (HG.out.ext HK.out.2.2))
   rw [<- hE] at HD
   have HX := Lib.hid HK.out.2.2
   clear hkl hE hO hA2 HK
   go_wp2_with fail
   refine HD.out.mono ?_
   rintro e w2 ⟨rfl, d2⟩
   have HX2 := Lib.hid (HX.out.trans d2)
   clear d2
   go_wp2_with fail
   go_ret
   exact ⟨rfl, HX2.out⟩
end Go.Proofs.YtfbhchpbflaphaaGreatDoor

namespace Go.Proofs.YtfbhchpbflaphaaGreatDoor
open Go.RowKit Go.Maps Go.ChangeMaps
theorem less_dec (x y : ByteArray) : Op.bytesLess x.toList y.toList = decide (x.data.toList < y.data.toList) := by
 rw [bytesLess_dec, ByteArray.toList_eq, ByteArray.toList_eq]
def expGood (l : List L.Expd) (i : Nat) (h : i < l.length) : Prop := okN l[i].1 = true /\ ∀ _ : 0 < i, l[i - 1].1.data.toList < l[i].1.data.toList
theorem strict_iff : ∀ l : List L.Expd, L.strictB okN l = true ↔ ∀ i (h : i < l.length), expGood l i h
 | [] => by simp [L.strictB]
 | x :: l => by
  have ih := strict_iff l
  have e : L.strictB okN (x :: l) = (okN x.1 && (match l with | [] => true | y :: _ => decide (x.1.data.toList < y.1.data.toList)) && L.strictB okN l) := by cases l <;> rfl
  rw [e, Bool.and_eq_true, Bool.and_eq_true, ih]
  constructor
  ·rintro ⟨⟨h1, h2⟩, h3⟩ i hi
   cases i with
   | zero => exact ⟨h1, fun h => absurd h (Nat.lt_irrefl 0)⟩
   | succ i =>
    have hi' : i < l.length := by simpa using hi
    obtain ⟨k1, k2⟩ := h3 i hi'
    refine ⟨k1, fun _ => ?_⟩
    cases i with
    | zero =>
     cases l with
     | nil => simp at hi'
     | cons y l => exact of_decide_eq_true h2
    | succ i => exact k2 (Nat.succ_pos i)
  ·intro h
   refine ⟨⟨(h 0 (by simp)).1, ?_⟩, fun i hi => ?_⟩
   ·cases l with
    | nil => rfl
    | cons y l => exact decide_eq_true ((h 1 (by simp)).2 (by decide))
   ·obtain ⟨k1, k2⟩ := h (i + 1) (by simpa using hi)
    refine ⟨k1, fun h0 => ?_⟩
    have := k2 (Nat.succ_pos i)
    obtain ⟨j, rfl⟩ : ∃ j, i = j + 1 := ⟨i - 1, by omega⟩
    exact this
section
variable {objs : List C.Mem} {sh : List L.Shelf} {libs : List L.Libr}
theorem valid_shelf {k : Nat} (hk : k < sh.length) (h : C.memsB okN okP sh[k].2 = false) : L.validB okN okP objs sh libs = false := by
 rw [Bool.eq_false_iff]
 intro hv
 rw [(L.valid_parts hv).2.1 _ (List.getElem_mem hk)] at h
 cases h
theorem valid_kind {k : Nat} (hk : k < libs.length) (h : libs[k].2.1 ≠ 2) : L.validB okN okP objs sh libs = false := by
 rw [Bool.eq_false_iff]
 intro hv
 have := (L.valid_parts hv).2.2.2.1 _ (List.getElem_mem hk)
 unfold L.libB at this
 rw [Bool.and_eq_true, decide_eq_true_eq] at this
 exact h this.1
theorem valid_exp {k : Nat} (hk : k < libs.length) {i : Nat} (hi : i < (L.exps libs[k]).length) (h : ¬ expGood (L.exps libs[k]) i hi) : L.validB okN okP objs sh libs = false := by
 rw [Bool.eq_false_iff]
 intro hv
 have := (L.valid_parts hv).2.2.2.1 _ (List.getElem_mem hk)
 unfold L.libB at this
 rw [Bool.and_eq_true] at this
 exact h ((strict_iff _).1 this.2 i hi)
def libGood (l : L.Libr) : Prop := l.2.1 = 2 /\ ∀ i (h : i < (L.exps l).length), expGood (L.exps l) i h
theorem libGood_iff (l : L.Libr) : L.libB okN l = true ↔ libGood l := by
 unfold L.libB libGood
 rw [Bool.and_eq_true, decide_eq_true_eq, strict_iff]
theorem valid_rest (h1 : ∀ i (h : i < sh.length), C.memsB okN okP sh[i].2 = true) (h2 : ∀ i (h : i < libs.length), libGood libs[i]) :
 L.validB okN okP objs sh libs = ((C.memsB okN okP objs && L.distB okP (sh.map (·.1))) && L.distB okP (libs.map (·.1))) := by
 unfold L.validB
 rw [List.all_eq_true.2 fun s hs => by obtain ⟨i, hi, rfl⟩ := List.getElem_of_mem hs; exact h1 i hi, List.all_eq_true.2 fun l hl => by obtain ⟨i, hi, rfl⟩ := List.getElem_of_mem hl; exact (libGood_iff _).2 (h2 i hi)]
 simp
end
theorem path_snoc {α : Type} {l : List (ByteArray × α)} {k : Nat} (hk : k < l.length) : (l.take (k + 1)).map (·.1) = (l.take k).map (·.1) ++ [l[k].1] := by
 rw [List.take_succ_eq_append_getElem hk, List.map_append]
 rfl
def LibSize (l : L.Libr) : Prop := l.1.size <= 1000000 /\ (L.exps l).length <= 1000000 /\ ∀ y ∈ L.exps l, y.1.size <= 9000000
def ShelfSize (s : L.Shelf) : Prop := s.1.size <= 1000000 /\ MemSizes s.2 /\ s.2.length <= 100000
theorem lib_cells {w : World} {B : Nat -> Prop} {A : Option Addr} {c k : Nat} {l : List L.Libr} (h : SliceAt librR w B A c l) (hk : k < l.length) :
 ∃ b off kd en im A1 n1 c1 A2 n2 c2 A3 n3 c3 A4 c4 A5 n5 c5, A = some ⟨b, off, none⟩ /\ B b /\ l[k].1.size <= 9223372036854775807 /\ l[k].2.1 = kd /\ SliceAt expR w B A4 c4 (L.exps l[k]) /\
  w.cell? ⟨b, off + k * 9, none⟩ = some (.string l[k].1) /\ w.cell? ⟨b, off + k * 9 + 1, none⟩ = some (.int .i64 kd) /\ w.cell? ⟨b, off + k * 9 + 1 + 1, none⟩ = some (.int .i64 en) /\
  w.cell? ⟨b, off + k * 9 + 1 + 1 + 1, none⟩ = some (.string im) /\ w.cell? ⟨b, off + k * 9 + 1 + 1 + 1 + 1, none⟩ = some (.slice A1 n1 c1) /\ w.cell? ⟨b, off + k * 9 + 1 + 1 + 1 + 1 + 1, none⟩ = some (.slice A2 n2 c2) /\
  w.cell? ⟨b, off + k * 9 + 1 + 1 + 1 + 1 + 1 + 1, none⟩ = some (.slice A3 n3 c3) /\ w.cell? ⟨b, off + k * 9 + 1 + 1 + 1 + 1 + 1 + 1 + 1, none⟩ = some (.slice A4 (L.exps l[k]).length c4) /\
  w.cell? ⟨b, off + k * 9 + 1 + 1 + 1 + 1 + 1 + 1 + 1 + 1, none⟩ = some (.slice A5 n5 c5) := by
 obtain ⟨b, off, rfl, hb, hs, c0, vs, ⟨A1, c1, A2, c2, A3, c3, A4, c4, A5, c5, rfl, h1, h2, h3, h4, h5, _⟩, hc⟩ := lib_get h hk
 exact ⟨b, off, _, _, _, A1, _, c1, A2, _, c2, A3, _, c3, A4, c4, A5, _, c5, rfl, hb, hs, rfl, h4, c0, hc 0 _ rfl, hc 1 _ rfl, hc 2 _ rfl, hc 3 _ rfl, hc 4 _ rfl, hc 5 _ rfl, hc 6 _ rfl, hc 7 _ rfl⟩
end Go.Proofs.YtfbhchpbflaphaaGreatDoor

namespace Go.Proofs.YtfbhchpbflaphaaGreatDoor
open Go.RowKit Go.Maps Go.ChangeMaps
attribute [local irreducible] wpLex
set_option maxRecDepth 8000 in
set_option maxHeartbeats 2000000 in
theorem lvalid_any (objs : List C.Mem) (sh : List L.Shelf) (libs : List L.Libr) (A B D : Option Addr) (a b d n m q : Nat) (w : World) (hn : n = objs.length) (hA : SliceAt memR w (Old w) A a objs) (hm : m = sh.length) (hB : SliceAt shelfR w (Old w) B b sh) (hq : q = libs.length) (hD : SliceAt librR w (Old w) D d libs)
 (hz : MemSizes objs) (hsz : ∀ s ∈ sh, ShelfSize s) (hlz : ∀ l ∈ libs, LibSize l) (hn2 : n <= 100000) (hm2 : m <= 100000) (hq2 : q <= 100000) (hg : Gl w) :
 Calls Tryz.prog 44 #[.slice A n a, .slice B m b, .slice D q d] w (Al (.bool (L.validB okN okP objs sh libs)) w) := by
 obtain ⟨i0, hi0, hz0, hz1, hz2⟩ := info_parts str_info
 have HM := Lib.hid hm
 have HB := Lib.hid hB
 have HQ := Lib.hid hq
 have HD := Lib.hid hD
 have HG := Lib.hid hg
 have HSZ := Lib.hid hsz
 have HLZ := Lib.hid hlz
 have HMB := Lib.hid (fun W (h : Ext w W) => members_any objs A a n W hn (hA.ext h) hz hn2 (hg.ext h))
 have F1 := Lib.hid (fun k hk => @valid_shelf objs sh libs k hk)
 have F2 := Lib.hid (fun k hk => @valid_kind objs sh libs k hk)
 have F3 := Lib.hid (fun k hk i hi => @valid_exp objs sh libs k hk i hi)
 have FE := Lib.hid (@valid_rest objs sh libs)
 generalize L.validB okN okP objs sh libs = R at F1 F2 F3 FE ⊢
 generalize C.memsB okN okP objs = R1 at HMB FE
 clear hn hA hm hB hq hD hz hsz hlz hg
 go_enter Tryz.func44, Tryz.ntmps44
 go_wp2_with fail
 go_loopw [7, 17] (fun v i wr => ∃ k : Nat, k <= m /\ i = .int .i64 k /\ Hid ((∀ i (h : i < sh.length), i < k -> C.memsB okN okP sh[i].2 = true) /\ OwnB wr w.heap.size v k ((sh.take k).map (·.1)) /\ Ext w wr)) (fun _ i _ => m - (intOf i).toNat)
 case atStart => exact ⟨0, Nat.zero_le _, rfl, fun _ _ h => absurd h (Nat.not_lt_zero _), OwnL.nil _ _, Ext.refl w⟩
 case round =>
  obtain ⟨k, hk, rfl, HK⟩ := hrel
  by_cases hlt : k < m
  ·have hkz : k < sh.length := by rw [<- HM.out]; exact hlt
   obtain ⟨b', off, SA, sc, rfl, hb', hs, hSA, c0, c1⟩ := shelf_get (HB.out.ext HK.out.2.2) hkz
   obtain ⟨_, hzz, hzl⟩ := HSZ.out _ (List.getElem_mem hkz)
   have hsn := path_snoc hkz
   have hfb := F1.out k hkz
   have hon : C.memsB okN okP sh[k].2 = true -> ∀ i (h : i < sh.length), i < k + 1 -> C.memsB okN okP sh[i].2 = true := fun hc i hi hik => by
    by_cases e : i = k
    ·subst e; exact hc
    ·exact HK.out.1 i hi (by omega)
   obtain ⟨s, hgs⟩ : ∃ s, s = sh[k].1 := ⟨_, rfl⟩
   rw [<- hgs] at c0 hs hsn
   generalize sh[k].2 = ms at hSA c1 hzz hzl hfb hon
   obtain ⟨mn, hmn⟩ : ∃ x, x = ms.length := ⟨_, rfl⟩
   rw [<- hmn] at c1
   have E1 : Ext wr (wr.alloc (.cells #[.string s, .slice SA mn sc] 83)) := (Ext.refl wr).alloc _
   have HCK := Lib.hid (members_any ms SA sc mn _ hmn (hSA.ext E1) hzz (by omega) ((HG.out.ext HK.out.2.2).ext E1))
   have HFB := Lib.hid hfb
   have HON := Lib.hid hon
   have HSN := Lib.hid hsn
   have HX1 := Lib.hid (HK.out.2.2.trans E1)
   have HO1 := Lib.hid (HK.out.2.1.ext E1)
   clear hfb hon hsn hzz hzl hgs hmn hSA E1 HK
   go_wp2_with fail
   refine (HCK.out).mono ?_
   rintro e w2 ⟨rfl, d2⟩
   have x0 := d2.keepc (cell_new wr #[.string s, .slice SA mn sc] 83 0)
   have HX2 := Lib.hid (HX1.out.trans d2)
   have HO2 := Lib.hid (HO1.out.ext d2)
   clear d2
   rcases Bool.eq_false_or_eq_true (C.memsB okN okP ms) with hc | hc
   ·rw [hc]
    have H9 := Lib.hid (HON.out hc)
    have hown := HO2.out.ext ((Ext.refl w2).alloc (.cells #[.string s] 9))
    have hbs := HX2.out.size
    clear hc
    go_wp2_with (at_builtin; refine wpList_append_one rfl (.tmp 25) (.tmp 28) 36 rfl Tryz.underlying36 hi0 hz0 hz1 hz2 rfl (by decide) (by decide) rfl hown s rfl rfl (one_cells _ s 9 _ rfl) (strC_one s) (by omega) (by simp; omega) ?_; intro v3 w3 hown3 hg3 _)
    have HX3 := Lib.hid (Ext.grownL (HX2.out.alloc (.cells #[.string s] 9)) hown (Nat.le_refl _) hg3)
    go_roundw
    case rel => exact ⟨k + 1, by omega, by go_num, H9.out, by rw [HSN.out]; exact hown3, HX3.out⟩
    case measure => simp [intOf]; omega
   ·rw [hc]
    have HR := Lib.hid (HFB.out hc)
    clear hc
    go_wp2_with fail
    go_ret
    exact ⟨by rw [HR.out]; rfl, HX2.out⟩
  ·obtain rfl : k = m := by omega
   have hkl : k = sh.length := HM.out
   have H1 := Lib.hid (fun i (hi : i < sh.length) => HK.out.1 i hi (by omega))
   have hO := HK.out.2.1
   rw [List.take_of_length_le (by omega)] at hO
   have HO := Lib.hid hO
   have HX := Lib.hid HK.out.2.2
   obtain ⟨W0, hW0⟩ : ∃ W0, W0 = wr := ⟨_, rfl⟩
   rw [<- hW0] at HO HX ⊢
   clear hkl hO HK hW0 hlt
   go_wp2_with fail
   go_loopw [8, 33] (fun v i wr => ∃ k : Nat, k <= q /\ i = .int .i64 k /\ Hid ((∀ i (h : i < libs.length), i < k -> libGood libs[i]) /\ OwnB wr W0.heap.size v k ((libs.take k).map (·.1)) /\ Ext W0 wr)) (fun _ i _ => q - (intOf i).toNat)
   case atStart => exact ⟨0, Nat.zero_le _, rfl, fun _ _ h => absurd h (Nat.not_lt_zero _), OwnL.nil _ _, Ext.refl W0⟩
   case round =>
    obtain ⟨j, hj, rfl, HK⟩ := hrel
    obtain ⟨wo, hwo⟩ : ∃ wo, wo = wr := ⟨_, rfl⟩
    subst hwo
    by_cases hlt : j < q
    ·have hjz : j < libs.length := by rw [<- HQ.out]; exact hlt
     obtain ⟨b', off, kd, en, im, A1, n1, c1, A2, n2, c2, A3, n3, c3, A4, c4, A5, n5, c5, rfl, hb', hs, hkd, hEX, x0, x1, x2, x3, x4, x5, x6, x7, x8⟩ := lib_cells (HD.out.ext (HX.out.trans HK.out.2.2)) hjz
     obtain ⟨hz1', hz2', hz3'⟩ := HLZ.out _ (List.getElem_mem hjz)
     have hsn := path_snoc hjz
     have hf2 := F2.out j hjz
     have hf3 := F3.out j hjz
     have hon : libGood libs[j] -> ∀ i (h : i < libs.length), i < j + 1 -> libGood libs[i] := fun hc i hi hik => by
      by_cases e : i = j
      ·subst e; exact hc
      ·exact HK.out.1 i hi (by omega)
     unfold libGood at hon
     rw [hkd] at hf2 hon
     obtain ⟨s, hgs⟩ : ∃ s, s = libs[j].1 := ⟨_, rfl⟩
     rw [<- hgs] at x0 hs hsn hz1'
     generalize L.exps libs[j] = ex at hEX x7 hz2' hz3' hf3 hon
     obtain ⟨n4, hn4⟩ : ∃ x, x = ex.length := ⟨_, rfl⟩
     rw [<- hn4] at x7 hz2'
     have HF2 := Lib.hid hf2
     have HF3 := Lib.hid hf3
     have HON := Lib.hid hon
     have HSN := Lib.hid hsn
     have HN4 := Lib.hid hn4
     obtain ⟨W1, hW1⟩ : ∃ W1, W1 = wo.alloc (.cells #[.string s, .int .i64 kd, .int .i64 en, .string im, .slice A1 n1 c1, .slice A2 n2 c2, .slice A3 n3 c3, .slice A4 n4 c4, .slice A5 n5 c5] 86) := ⟨_, rfl⟩
     have E1 : Ext wo W1 := by rw [hW1]; exact (Ext.refl wo).alloc _
     have y0 : W1.cell? ⟨wo.heap.size, 0, none⟩ = some (.string s) := by rw [hW1]; exact cell_new wo _ 86 0
     have y1 : W1.cell? ⟨wo.heap.size, 1, none⟩ = some (.int .i64 kd) := by rw [hW1]; exact cell_new wo _ 86 1
     have y7 : W1.cell? ⟨wo.heap.size, 7, none⟩ = some (.slice A4 n4 c4) := by rw [hW1]; exact cell_new wo _ 86 7
     have HEX := Lib.hid (hEX.ext E1)
     have HZ3 := Lib.hid hz3'
     have HO1 := Lib.hid (HK.out.2.1.ext E1)
     have HX1 := Lib.hid (HK.out.2.2.trans E1)
     have HW1 := Lib.hid hW1
     clear hf2 hf3 hon hsn hgs hkd hEX hz3' hn4 E1 HK hW1
     by_cases hk2 : kd = 2
     ·subst hk2
      go_wp2_with fail
      rw [<- HW1.out]
      go_loopw [45] (fun i wx => ∃ e : Nat, e <= n4 /\ i = .int .i64 e /\ Hid ((∀ i (h : i < ex.length), i < e -> expGood ex i h) /\ Ext W1 wx)) (fun i _ => n4 - (intOf i).toNat)
      case atStart => exact ⟨0, Nat.zero_le _, rfl, fun _ _ h => absurd h (Nat.not_lt_zero _), Ext.refl W1⟩
      case round =>
       obtain ⟨e, he, rfl, HE⟩ := hrel
       by_cases hle : e < n4
       ·have hez : e < ex.length := by rw [<- HN4.out]; exact hle
        obtain ⟨b4, off4, rfl, hb4, hs4, hw4, z0, z1⟩ := exp_get (HEX.out.ext HE.out.2) hez
        have hprev : ∀ _ : 0 < e, ∃ h : e - 1 < ex.length, wr.cell? ⟨b4, off4 + (e - 1) * 2, none⟩ = some (.string ex[e - 1].1) := fun h0 => by
         obtain ⟨b5, off5, h5, _, _, _, k0, _⟩ := exp_get (HEX.out.ext HE.out.2) (show e - 1 < ex.length by omega)
         cases h5
         exact ⟨by omega, k0⟩
        have hf := HF3.out e hez
        have hgo : expGood ex e hez -> ∀ i (hi : i < ex.length), i < e + 1 -> expGood ex i hi := fun h i hi hie => by
         by_cases e' : i = e
         ·cases e'; exact h
         ·exact HE.out.1 i hi (by omega)
        have HGO := Lib.hid hgo
        obtain ⟨W2, hW2⟩ : ∃ W2, W2 = wr.alloc (.cells #[.string ex[e].1, .int .i64 ex[e].2] 74) := ⟨_, rfl⟩
        have E2 : Ext wr W2 := by rw [hW2]; exact (Ext.refl wr).alloc _
        have v0 : W2.cell? ⟨wr.heap.size, 0, none⟩ = some (.string ex[e].1) := by rw [hW2]; exact cell_new wr _ 74 0
        have v7 : W2.cell? ⟨wo.heap.size, 7, none⟩ = some (.slice (some ⟨b4, off4, none⟩) n4 c4) := E2.keepc (HE.out.2.keepc y7)
        have HX2 := Lib.hid (HE.out.2.trans E2)
        have HNM := Lib.hid (fun W => Name_any ex[e].1 W hs4)
        have hnm : okN ex[e].1 = K.name ex[e].1.data.toList := rfl
        unfold expGood at hf hgo
        rw [hnm] at hf hgo
        have HW2 := Lib.hid hW2
        have fx0 : ∀ x : Lat (Ext W2), x.w'.cell? ⟨wr.heap.size, 0, none⟩ = _ := fun x => x.h.keepc v0
        have fx1 : ∀ x : Lat (Ext W2), x.w'.cell? ⟨wo.heap.size, 7, none⟩ = _ := fun x => x.h.keepc v7
        have hne := Lat.some (Φ := Ext W2) ((Ext.refl W2).drew)
        rcases Bool.eq_false_or_eq_true (K.name ex[e].1.data.toList) with hn1 | hn1
        ·rcases Nat.eq_zero_or_pos e with h0 | h0
         ·have H9 := Lib.hid (hgo ⟨hn1, fun h => absurd h (by omega)⟩)
          subst h0
          rw [Nat.zero_mul, Nat.add_zero] at z0 z1
          clear hf hgo hprev hnm E2 hW2
          have HE2 := Lib.hid HE.out.2
          clear HE
          generalize ex[0].1 = s' at *
          generalize ex[0].2 = a' at *
          go_wp2_with fail
          rw [<- HW2.out]
          refine wp_region_lat [2] (Ext W2) ((Ext.refl W2).drew) (by kernel_rfl) (by kernel_rfl) (by kernel_rfl) ?_
          iterate 2 (refine lex_pure rfl rfl rfl ?_; intro K hK; go_big_quiet_op; go_big_quiet_on)
          refine lex_eff rfl ?_
          go_wp2_with fail
          refine (HNM.out _).mono ?_
          rintro e w5 ⟨rfl, d5⟩
          have D5 := Lib.hid ((Ext.refl W2).drew.trans d5)
          clear d5
          rw [hn1]
          go_wp2_with fail
          refine ⟨⟨⟨w5, D5.out⟩, rfl⟩, ?_⟩
          iterate 5 (refine lex_pure rfl rfl rfl ?_; intro K hK; go_big_quiet_op; go_big_quiet_on)
          iterate 11 (refine lex_skip rfl ?_; go_frame)
          iterate 2 (refine lex_pure rfl rfl rfl ?_; intro K hK; go_big_quiet_op; go_big_quiet_on)
          refine lex_nil ?_
          clear fx0 fx1 hne
          go_wp2_with fail
          go_roundw
          case rel => exact ⟨1, by omega, by go_num, H9.out, HX2.out.trans D5.out⟩
          case measure => simp [intOf]; omega
         ·obtain ⟨hpl, hpc⟩ := hprev h0
          have hord : Op.bytesLess ex[e - 1].1.toList ex[e].1.toList = decide (ex[e - 1].1.data.toList < ex[e].1.data.toList) := less_dec _ _
          obtain ⟨e1, rfl⟩ : ∃ e1, e = e1 + 1 := ⟨e - 1, by omega⟩
          simp only [Nat.add_sub_cancel] at hpl hpc hord hf hgo
          have v9 := E2.keepc hpc
          have fx2 : ∀ x : Lat (Ext W2), x.w'.cell? ⟨b4, off4 + e1 * 2, none⟩ = _ := fun x => x.h.keepc v9
          have hq0 : decide (0 < e1 + 1) = true := decide_eq_true h0
          by_cases hlt2 : ex[e1].1.data.toList < ex[e1 + 1].1.data.toList
          ·have H9 := Lib.hid (hgo ⟨hn1, fun _ => hlt2⟩)
           rw [decide_eq_true hlt2] at hord
           clear hf hgo hprev hnm E2 hW2 hlt2 hpc h0
           have HE2 := Lib.hid HE.out.2
           clear HE
           generalize ex[e1 + 1].1 = s' at *
           generalize ex[e1 + 1].2 = a' at *
           generalize ex[e1].1 = s'' at *
           go_wp2_with fail
           rw [<- HW2.out]
           refine wp_region_lat [2] (Ext W2) ((Ext.refl W2).drew) (by kernel_rfl) (by kernel_rfl) (by kernel_rfl) ?_
           iterate 2 (refine lex_pure rfl rfl rfl ?_; intro K hK; go_big_quiet_op; go_big_quiet_on)
           refine lex_eff rfl ?_
           go_wp2_with fail
           refine (HNM.out _).mono ?_
           rintro e w5 ⟨rfl, d5⟩
           have D5 := Lib.hid ((Ext.refl W2).drew.trans d5)
           clear d5
           rw [hn1]
           go_wp2_with fail
           refine ⟨⟨⟨w5, D5.out⟩, rfl⟩, ?_⟩
           iterate 18 (refine lex_pure rfl rfl rfl ?_; intro K hK; go_big_quiet_op; go_big_quiet_on)
           refine lex_nil ?_
           clear fx0 fx1 fx2 hne
           go_wp2_with fail
           go_roundw
           case rel => exact ⟨e1 + 1 + 1, by omega, by go_num, H9.out, HX2.out.trans D5.out⟩
           case measure => simp [intOf]; omega
          ·have HR := Lib.hid (hf fun h => hlt2 (h.2 h0))
           rw [decide_eq_false hlt2] at hord
           clear hf hgo hprev hnm E2 hW2 hlt2 hpc h0
           have HE2 := Lib.hid HE.out.2
           clear HE
           generalize ex[e1 + 1].1 = s' at *
           generalize ex[e1 + 1].2 = a' at *
           generalize ex[e1].1 = s'' at *
           go_wp2_with fail
           rw [<- HW2.out]
           refine wp_region_lat [2] (Ext W2) ((Ext.refl W2).drew) (by kernel_rfl) (by kernel_rfl) (by kernel_rfl) ?_
           iterate 2 (refine lex_pure rfl rfl rfl ?_; intro K hK; go_big_quiet_op; go_big_quiet_on)
           refine lex_eff rfl ?_
           go_wp2_with fail
           refine (HNM.out _).mono ?_
           rintro e w5 ⟨rfl, d5⟩
           have D5 := Lib.hid ((Ext.refl W2).drew.trans d5)
           clear d5
           rw [hn1]
           go_wp2_with fail
           refine ⟨⟨⟨w5, D5.out⟩, rfl⟩, ?_⟩
           iterate 18 (refine lex_pure rfl rfl rfl ?_; intro K hK; go_big_quiet_op; go_big_quiet_on)
           refine lex_nil ?_
           clear fx0 fx1 fx2 hne
           go_wp2_with fail
           go_ret
           exact ⟨by rw [HR.out]; rfl, HX.out.trans (HX1.out.trans (HX2.out.trans D5.out))⟩
        ·have HR := Lib.hid (hf (fun h => by rw [hn1] at h; cases h.1))
         clear hf hgo hprev hnm E2 hW2 HE
         generalize ex[e].1 = s' at *
         generalize ex[e].2 = a' at *
         go_wp2_with fail
         rw [<- HW2.out]
         refine wp_region_lat [2] (Ext W2) ((Ext.refl W2).drew) (by kernel_rfl) (by kernel_rfl) (by kernel_rfl) ?_
         iterate 2 (refine lex_pure rfl rfl rfl ?_; intro K hK; go_big_quiet_op; go_big_quiet_on)
         refine lex_eff rfl ?_
         go_wp2_with fail
         refine (HNM.out _).mono ?_
         rintro e w5 ⟨rfl, d5⟩
         have D5 := Lib.hid ((Ext.refl W2).drew.trans d5)
         clear d5
         rw [hn1]
         go_wp2_with fail
         refine ⟨⟨⟨w5, D5.out⟩, rfl⟩, ?_⟩
         iterate 2 (refine lex_pure rfl rfl rfl ?_; intro K hK; go_big_quiet_op; go_big_quiet_on)
         iterate 15 (refine lex_skip rfl ?_; go_frame)
         iterate 1 (refine lex_pure rfl rfl rfl ?_; intro K hK; go_big_quiet_op; go_big_quiet_on)
         refine lex_nil ?_
         clear fx0 fx1 hne
         go_wp2_with fail
         go_ret
         exact ⟨by rw [HR.out]; rfl, HX.out.trans (HX1.out.trans (HX2.out.trans D5.out))⟩
       ·obtain rfl : e = n4 := by omega
        have hel : e = ex.length := HN4.out
        have H9 := Lib.hid (HON.out ⟨trivial, fun i hi => HE.out.1 i hi (by omega)⟩)
        have hX := HE.out.2
        have v0 := hX.keepc y0
        have hown := (HO1.out.ext hX).ext ((Ext.refl wr).alloc (.cells #[.string s] 9))
        have HY := Lib.hid (HX1.out.trans hX)
        have hbs := HY.out.size
        clear hel HE hX
        go_wp2_with (at_builtin; refine wpList_append_one rfl (.tmp 72) (.tmp 75) 36 rfl Tryz.underlying36 hi0 hz0 hz1 hz2 rfl (by decide) (by decide) rfl hown s rfl rfl (one_cells _ s 9 _ rfl) (strC_one s) (by omega) (by simp; omega) ?_; intro v3 w3 hown3 hg3 _)
        have HX3 := Lib.hid (Ext.grownL (HY.out.alloc (.cells #[.string s] 9)) hown (Nat.le_refl _) hg3)
        go_roundw
        case rel => exact ⟨j + 1, by omega, by go_num, H9.out, by rw [HSN.out]; exact hown3, HX3.out⟩
        case measure => simp [intOf]; omega
     ·have HR := Lib.hid (HF2.out hk2)
      have hk3 : (kd == 2) = false := beq_eq_false_iff_ne.2 hk2
      go_wp2_with fail
      rw [<- HW1.out]
      go_ret
      exact ⟨by rw [HR.out]; rfl, HX.out.trans HX1.out⟩
    ·obtain rfl : j = q := by omega
     have hkl : j = libs.length := HQ.out
     have hE := FE.out H1.out fun i hi => HK.out.1 i hi (by omega)
     have hO := HK.out.2.1
     rw [List.take_of_length_le (by omega)] at hO
     obtain ⟨A2, c2, rfl, hA2⟩ := OwnB.slice hO fun s hs => by
      obtain ⟨m, hm, rfl⟩ := List.mem_map.1 hs
      have := (HLZ.out m hm).1
      omega
     obtain ⟨A3, c3, rfl, hA3⟩ := OwnB.slice (HO.out.ext HK.out.2.2) fun s hs => by
      obtain ⟨m, hm, rfl⟩ := List.mem_map.1 hs
      have := (HSZ.out m hm).1
      omega
     have HX2 := Lib.hid (HX.out.trans HK.out.2.2)
     have HD1 := Lib.hid (fun W (h : Ext wo W) => different_any (sh.map (·.1)) A3 c3 k W (by simpa using HM.out) (hA3.ext h) (fun s hs => by
      obtain ⟨m, hm, rfl⟩ := List.mem_map.1 hs
      exact (HSZ.out m hm).1) hm2 (HG.out.ext (HX2.out.trans h)))
     have HD2 := Lib.hid (fun W (h : Ext wo W) => different_any (libs.map (·.1)) A2 c2 j W (by simpa using HQ.out) (hA2.ext h) (fun s hs => by
      obtain ⟨m, hm, rfl⟩ := List.mem_map.1 hs
      exact (HLZ.out m hm).1) hq2 (HG.out.ext (HX2.out.trans h)))
     generalize L.distB okP (sh.map (·.1)) = R2 at HD1 hE
     generalize L.distB okP (libs.map (·.1)) = R3 at HD2 hE
     have HE := Lib.hid hE
     have HMB2 := Lib.hid (HMB.out wo HX2.out)
     clear hkl hE hO hA2 hA3 HK
     cases R1
     ·go_wp2_with fail
      refine HMB2.out.mono ?_
      rintro e w2 ⟨rfl, d2⟩
      have HY := Lib.hid (HX2.out.trans d2)
      clear d2
      go_wp2_with fail
      go_ret
      exact ⟨by rw [HE.out]; rfl, HY.out⟩
     ·cases R2
      ·go_wp2_with fail
       refine HMB2.out.mono ?_
       rintro e w2 ⟨rfl, d2⟩
       have HY := Lib.hid d2
       clear d2
       go_wp2_with fail
       refine (HD1.out _ HY.out).mono ?_
       rintro e w3 ⟨rfl, d3⟩
       have HY3 := Lib.hid (HX2.out.trans (HY.out.trans d3))
       clear d3
       go_wp2_with fail
       go_ret
       exact ⟨by rw [HE.out]; rfl, HY3.out⟩
      ·go_wp2_with fail
       refine HMB2.out.mono ?_
       rintro e w2 ⟨rfl, d2⟩
       have HY := Lib.hid d2
       clear d2
       go_wp2_with fail
       refine (HD1.out _ HY.out).mono ?_
       rintro e w3 ⟨rfl, d3⟩
       have HY3 := Lib.hid (HY.out.trans d3)
       clear d3
       go_wp2_with fail
       refine (HD2.out _ HY3.out).mono ?_
       rintro e w4 ⟨rfl, d4⟩
       have HY4 := Lib.hid (HX2.out.trans (HY3.out.trans d4))
       clear d4
       go_wp2_with fail
       go_ret
       exact ⟨by rw [HE.out]; simp, HY4.out⟩
end Go.Proofs.YtfbhchpbflaphaaGreatDoor

namespace Go.Proofs.YtfbhchpbflaphaaGreatDoor
open Go.RowKit Go.Maps Go.ChangeMaps
def spotC (p : L.Spot) : List Value := [.int .i64 (p.1 : Int), .string p.2]
theorem spotC_one (p : L.Spot) : ∀ u ∈ spotC p, u.oneCell' = true := by
 intro u hu
 simp only [spotC, List.mem_cons, List.not_mem_nil, or_false] at hu
 rcases hu with rfl | rfl <;> rfl
def meanC (q : Int × Int) : List Value := [.int .i64 q.1, .int .i64 q.2]
def meanR : Rep (Int × Int) where
 size := 2
 is := fun _ _ q us => us = meanC q
 len := by rintro _ _ _ _ rfl; rfl
 keep := by rintro _ _ _ _ _ _ h _ _; exact h
def placeV (u l : Int) : Value := .agg #[.int .i64 u, .int .i64 l]
def lnkRow (vu vl vL vM : Value) (no m r : Int) (bk bi : Nat) : Array Value := #[vu, .int .i64 no, vl, .int .i64 m, .int .i64 r, .map (some bk), vL, .map (some bi), vM]
structure LRow (w : World) (g : Nat) (vu vl vL vM : Value) (no m r : Int) (bk bi : Nat) : Prop where
 heap : w.heap[g]? = some (.cells (lnkRow vu vl vL vM no m r bk bi) 140 (0, 0))
section
variable {w w' : World} {g : Nat} {vu vl vL vM : Value} {no m r : Int} {bk bi : Nat}
theorem LRow.lt (h : LRow w g vu vl vL vM no m r bk bi) : g < w.heap.size := (hltA h.heap)
theorem LRow.cell (h : LRow w g vu vl vL vM no m r bk bi) (i : Nat) : w.cell? ⟨g, i, none⟩ = (lnkRow vu vl vL vM no m r bk bi)[i]? := cell_of_row w g i _ _ _ h.heap
theorem LRow.c0 (h : LRow w g vu vl vL vM no m r bk bi) : w.cell? ⟨g, 0, none⟩ = some vu := h.cell 0
theorem LRow.c1 (h : LRow w g vu vl vL vM no m r bk bi) : w.cell? ⟨g, 1, none⟩ = some (.int .i64 no) := h.cell 1
theorem LRow.c2 (h : LRow w g vu vl vL vM no m r bk bi) : w.cell? ⟨g, 2, none⟩ = some vl := h.cell 2
theorem LRow.c3 (h : LRow w g vu vl vL vM no m r bk bi) : w.cell? ⟨g, 3, none⟩ = some (.int .i64 m) := h.cell 3
theorem LRow.c4 (h : LRow w g vu vl vL vM no m r bk bi) : w.cell? ⟨g, 4, none⟩ = some (.int .i64 r) := h.cell 4
theorem LRow.c5 (h : LRow w g vu vl vL vM no m r bk bi) : w.cell? ⟨g, 5, none⟩ = some (.map (some bk)) := h.cell 5
theorem LRow.c6 (h : LRow w g vu vl vL vM no m r bk bi) : w.cell? ⟨g, 6, none⟩ = some vL := h.cell 6
theorem LRow.c7 (h : LRow w g vu vl vL vM no m r bk bi) : w.cell? ⟨g, 7, none⟩ = some (.map (some bi)) := h.cell 7
theorem LRow.c8 (h : LRow w g vu vl vL vM no m r bk bi) : w.cell? ⟨g, 8, none⟩ = some vM := h.cell 8
theorem LRow.frozen (h : LRow w g vu vl vL vM no m r bk bi) (i : Nat) : w.frozen? ⟨g, i, none⟩ = false := Lib.frozen_of_heap h.heap i
theorem LRow.tch {X : Nat -> Prop} (h : LRow w g vu vl vL vM no m r bk bi) (hg : Tch X w w') (hx : ¬ X g) : LRow w' g vu vl vL vM no m r bk bi := ⟨(hg.block g h.lt hx).trans h.heap⟩
theorem LRow.set0 (h : LRow w g vu vl vL vM no m r bk bi) (x : Value) : LRow (w.setCell ⟨g, 0, none⟩ x) g x vl vL vM no m r bk bi := ⟨heap_setCell_cells h.heap 0 _⟩
theorem LRow.set3 (h : LRow w g vu vl vL vM no m r bk bi) (x : Int) : LRow (w.setCell ⟨g, 3, none⟩ (.int .i64 x)) g vu vl vL vM no x r bk bi := ⟨heap_setCell_cells h.heap 3 _⟩
theorem LRow.set4 (h : LRow w g vu vl vL vM no m r bk bi) (x : Int) : LRow (w.setCell ⟨g, 4, none⟩ (.int .i64 x)) g vu vl vL vM no m x bk bi := ⟨heap_setCell_cells h.heap 4 _⟩
theorem LRow.set6 (h : LRow w g vu vl vL vM no m r bk bi) (x : Value) : LRow (w.setCell ⟨g, 6, none⟩ x) g vu vl x vM no m r bk bi := ⟨heap_setCell_cells h.heap 6 _⟩
theorem LRow.set8 (h : LRow w g vu vl vL vM no m r bk bi) (x : Value) : LRow (w.setCell ⟨g, 8, none⟩ x) g vu vl vL x no m r bk bi := ⟨heap_setCell_cells h.heap 8 _⟩
end
def Known (E : L.Env) (m : Nat × Nat) (f : FnV) : Prop := ∀ x v, f x = some v -> match L.hit E x with
 | .unit u k => v = placeV u (-1) /\ k <= m.1
 | .lib j => v = placeV (-1) j /\ E.mems.length <= m.1 /\ j + 1 <= m.2
 | _ => False
theorem Known.mono {E : L.Env} {m m' : Nat × Nat} {f : FnV} (h : Known E m f) (h1 : m.1 <= m'.1) (h2 : m.2 <= m'.2) : Known E m' f := by
 intro x v hv
 have := h x v hv
 cases hh : L.hit E x with
 | twice => rw [hh] at this; exact this
 | unknown => rw [hh] at this; exact this
 | unit u k => rw [hh] at this; exact ⟨this.1, by have := this.2; omega⟩
 | lib j => rw [hh] at this; exact ⟨this.1, by have := this.2.1; omega, by have := this.2.2; omega⟩
def asked (E : L.Env) : List ByteArray := E.units.flatMap (fun m => m.2.1.map (·.1)) ++ E.libs.flatMap (fun l => (L.exps l).map (·.1))
theorem def_asked {E : L.Env} {x : ByteArray} {q : C.Mem} (hq : q ∈ E.units) (h : L.modeP q.2 x = 1 ∨ L.modeP q.2 x = 2) : x ∈ asked E := by
 unfold L.modeP at h
 cases hs : L.symP q.2 x with
 | none => rw [hs] at h; simp at h
 | some s =>
  obtain ⟨h1, h2⟩ := L.symP_mem hs
  have : s.1 = x := bytes_inj h2
  exact List.mem_append_left _ (List.mem_flatMap.2 ⟨q, hq, List.mem_map.2 ⟨s, h1, this⟩⟩)
theorem Known.asked {E : L.Env} {m : Nat × Nat} {f : FnV} (h : Known E m f) : ∀ x, f x ≠ none -> x ∈ asked E := by
 intro x hx
 obtain ⟨v, hv⟩ := Option.ne_none_iff_exists'.1 hx
 have hk := h x v hv
 have hi := L.hit_is E x
 cases hh : L.hit E x with
 | twice => rw [hh] at hk; exact hk.elim
 | unknown => rw [hh] at hk; exact hk.elim
 | unit u k =>
  obtain ⟨q, hq, hm, _⟩ := L.hit_unit hh
  obtain ⟨hu, rfl⟩ := List.getElem?_eq_some_iff.1 hq
  exact def_asked (List.getElem_mem hu) hm
 | lib j =>
  rw [hh] at hi
  obtain ⟨_, _, hj, hin, _⟩ := hi
  unfold L.isIn at hin
  obtain ⟨y, hy, e⟩ := List.any_eq_true.1 hin
  have : y.1 = x := bytes_inj (by simpa using e)
  exact List.mem_append_right _ (List.mem_flatMap.2 ⟨_, List.getElem_mem hj, List.mem_map.2 ⟨y, hy, this⟩⟩)
def idxG (l : List L.Spot) : L.Spot -> Option Value := fun p => if L.has l p then some (.int .i64 (L.pos l p : Int)) else none
structure LC where
 A : Option Addr
 c : Nat
 B : Option Addr
 d : Nat
 bk : Nat
 bi : Nat
 vL : Value
 vM : Value
structure LinkAt (w : World) (S X : Nat -> Prop) (base g : Nat) (E : L.Env) (st : L.St) (M : List (List (Int × Int))) (k : LC) : Prop where
 row : LRow w g (.slice k.A E.units.length k.c) (.slice k.B E.libs.length k.d) k.vL k.vM E.objs.length st.2.1 st.2.2 k.bk k.bi
 units : SliceAt memR w S k.A k.c E.units
 libs : SliceAt librR w S k.B k.d E.libs
 known : ∃ f, MapF Tryz.prog w k.bk f /\ Known E st.2 f
 list : OwnL spotC 162 2 w base k.vL st.1.length st.1
 index : MapG Tryz.prog 162 litP DomP w k.bi st.1.length (idxG st.1)
 means : ∃ xs, OwnAt w base 193 1 k.vM M.length xs /\ Flat (sliceR meanR) w S M xs
 inX : X g /\ X k.bk /\ X k.bi /\ (∀ b, k.vL.ownBlock = some b -> X b) /\ (∀ b, k.vM.ownBlock = some b -> X b)
 apart : (g ≠ k.bk /\ g ≠ k.bi /\ k.bk ≠ k.bi) /\ (∀ b, k.vL.ownBlock = some b -> b ≠ g /\ b ≠ k.bk /\ b ≠ k.bi /\ k.vM.ownBlock ≠ some b) /\ (∀ b, k.vM.ownBlock = some b -> b ≠ g /\ b ≠ k.bk /\ b ≠ k.bi)
 out : ∀ b, S b -> b < w.heap.size /\ ¬ X b
 lt : ∀ b, X b -> base <= b /\ b < w.heap.size
section
variable {w w' : World} {S X : Nat -> Prop} {base g : Nat} {E : L.Env} {st : L.St} {M : List (List (Int × Int))} {k : LC}
theorem LinkAt.tch {Y : Nat -> Prop} (h : LinkAt w S X base g E st M k) (hg : Tch Y w w') (hY : ∀ b, Y b -> ¬ X b /\ ¬ S b) : LinkAt w' S X base g E st M k where
 row := h.row.tch hg fun hy => (hY _ hy).1 h.inX.1
 units := h.units.tch hg fun b hb => ⟨(h.out b hb).1, fun hy => (hY _ hy).2 hb⟩
 libs := h.libs.tch hg fun b hb => ⟨(h.out b hb).1, fun hy => (hY _ hy).2 hb⟩
 known := by obtain ⟨f, h1, h2⟩ := h.known; exact ⟨f, h1.tch hg fun hy => (hY _ hy).1 h.inX.2.1, h2⟩
 list := h.list.tch hg fun b hb hy => (hY _ hy).1 (h.inX.2.2.2.1 b hb)
 index := h.index.tch hg fun hy => (hY _ hy).1 h.inX.2.2.1
 means := by obtain ⟨xs, h1, h2⟩ := h.means; exact ⟨xs, h1.tch hg fun b hb hy => (hY _ hy).1 (h.inX.2.2.2.2 b hb), h2.tch hg fun b hb => ⟨(h.out b hb).1, fun hy => (hY _ hy).2 hb⟩⟩
 inX := h.inX
 apart := h.apart
 out := fun b hb => ⟨Nat.lt_of_lt_of_le (h.out b hb).1 hg.size, (h.out b hb).2⟩
 lt := fun b hb => ⟨(h.lt b hb).1, Nat.lt_of_lt_of_le (h.lt b hb).2 hg.size⟩
theorem LinkAt.ext (h : LinkAt w S X base g E st M k) (hg : Ext w w') : LinkAt w' S X base g E st M k := h.tch (hg.tch fun _ => False) fun _ h => h.elim
theorem LinkAt.unitsOld (h : LinkAt w S X base g E st M k) : SliceAt memR w (Old w) k.A k.c E.units := h.units.keep (fun b hb => (h.out b hb).1) fun _ _ => rfl
theorem LinkAt.libsOld (h : LinkAt w S X base g E st M k) : SliceAt librR w (Old w) k.B k.d E.libs := h.libs.keep (fun b hb => (h.out b hb).1) fun _ _ => rfl
theorem LinkAt.set3 (h : LinkAt w S X base g E st M k) {m : Nat} (hm : st.2.1 <= m) : LinkAt (w.setCell ⟨g, 3, none⟩ (.int .i64 (m : Int))) S X base g E (st.1, m, st.2.2) M k := by
 have hg : Tch (fun b => b = g) w (w.setCell ⟨g, 3, none⟩ (.int .i64 (m : Int))) := grown_tch (grownBy_setCell w ⟨g, 3, none⟩ _)
 exact {
  row := h.row.set3 m
  units := h.units.tch hg fun b hb => ⟨(h.out b hb).1, fun e => (h.out b hb).2 (e ▸ h.inX.1)⟩
  libs := h.libs.tch hg fun b hb => ⟨(h.out b hb).1, fun e => (h.out b hb).2 (e ▸ h.inX.1)⟩
  known := by obtain ⟨f, h1, h2⟩ := h.known; exact ⟨f, h1.tch hg fun e => h.apart.1.1 e.symm, h2.mono hm (Nat.le_refl _)⟩
  list := h.list.tch hg fun b hb e => (h.apart.2.1 b hb).1 e
  index := h.index.tch hg fun e => h.apart.1.2.1 e.symm
  means := by obtain ⟨xs, h1, h2⟩ := h.means; exact ⟨xs, h1.tch hg fun b hb e => (h.apart.2.2 b hb).1 e, h2.tch hg fun b hb => ⟨(h.out b hb).1, fun e => (h.out b hb).2 (e ▸ h.inX.1)⟩⟩
  inX := h.inX
  apart := h.apart
  out := fun b hb => ⟨Nat.lt_of_lt_of_le (h.out b hb).1 hg.size, (h.out b hb).2⟩
  lt := fun b hb => ⟨(h.lt b hb).1, Nat.lt_of_lt_of_le (h.lt b hb).2 hg.size⟩ }
theorem LinkAt.set4 (h : LinkAt w S X base g E st M k) {m : Nat} (hm : st.2.2 <= m) : LinkAt (w.setCell ⟨g, 4, none⟩ (.int .i64 (m : Int))) S X base g E (st.1, st.2.1, m) M k := by
 have hg : Tch (fun b => b = g) w (w.setCell ⟨g, 4, none⟩ (.int .i64 (m : Int))) := grown_tch (grownBy_setCell w ⟨g, 4, none⟩ _)
 exact {
  row := h.row.set4 m
  units := h.units.tch hg fun b hb => ⟨(h.out b hb).1, fun e => (h.out b hb).2 (e ▸ h.inX.1)⟩
  libs := h.libs.tch hg fun b hb => ⟨(h.out b hb).1, fun e => (h.out b hb).2 (e ▸ h.inX.1)⟩
  known := by obtain ⟨f, h1, h2⟩ := h.known; exact ⟨f, h1.tch hg fun e => h.apart.1.1 e.symm, h2.mono (Nat.le_refl _) hm⟩
  list := h.list.tch hg fun b hb e => (h.apart.2.1 b hb).1 e
  index := h.index.tch hg fun e => h.apart.1.2.1 e.symm
  means := by obtain ⟨xs, h1, h2⟩ := h.means; exact ⟨xs, h1.tch hg fun b hb e => (h.apart.2.2 b hb).1 e, h2.tch hg fun b hb => ⟨(h.out b hb).1, fun e => (h.out b hb).2 (e ▸ h.inX.1)⟩⟩
  inX := h.inX
  apart := h.apart
  out := fun b hb => ⟨Nat.lt_of_lt_of_le (h.out b hb).1 hg.size, (h.out b hb).2⟩
  lt := fun b hb => ⟨(h.lt b hb).1, Nat.lt_of_lt_of_le (h.lt b hb).2 hg.size⟩ }
theorem LinkAt.learn (h : LinkAt w S X base g E st M k) (hg : w.mapTurned w' k.bk) {f : FnV} (hf : MapF Tryz.prog w' k.bk f) (hk : Known E st.2 f) : LinkAt w' S X base g E st M k := by
 have hg : Tch (fun b => b = k.bk) w w' := grown_tch hg.grown
 exact {
  row := h.row.tch hg h.apart.1.1
  units := h.units.tch hg fun b hb => ⟨(h.out b hb).1, fun e => (h.out b hb).2 (e ▸ h.inX.2.1)⟩
  libs := h.libs.tch hg fun b hb => ⟨(h.out b hb).1, fun e => (h.out b hb).2 (e ▸ h.inX.2.1)⟩
  known := ⟨f, hf, hk⟩
  list := h.list.tch hg fun b hb e => (h.apart.2.1 b hb).2.1 e
  index := h.index.tch hg fun e => h.apart.1.2.2 e.symm
  means := by obtain ⟨xs, h1, h2⟩ := h.means; exact ⟨xs, h1.tch hg fun b hb e => (h.apart.2.2 b hb).2.1 e, h2.tch hg fun b hb => ⟨(h.out b hb).1, fun e => (h.out b hb).2 (e ▸ h.inX.2.1)⟩⟩
  inX := h.inX
  apart := h.apart
  out := fun b hb => ⟨Nat.lt_of_lt_of_le (h.out b hb).1 hg.size, (h.out b hb).2⟩
  lt := fun b hb => ⟨(h.lt b hb).1, Nat.lt_of_lt_of_le (h.lt b hb).2 hg.size⟩ }
end
end Go.Proofs.YtfbhchpbflaphaaGreatDoor
