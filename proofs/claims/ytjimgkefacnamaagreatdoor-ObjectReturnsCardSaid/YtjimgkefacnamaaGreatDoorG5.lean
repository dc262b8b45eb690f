/- The texts Oe Of Og Oh Oi Oj of the seat, joined. -/
import Derived.Test.YtjimgkefacnamaaGreatDoorG4
import Derived.Maps.OwnOps
import Derived.Maps.OwnSet
import Derived.Maps.Views
import Derived.StringKeys
import Derived.ChangeKeysEq
import Derived.OwnWalk
import Derived.Laws.OwnMore
/- Objects in memory; the map of names: object.index. -/
namespace Go.Proofs.YtjimgkefacnamaaGreatDoor
open Go.RowKit Go.Maps Go.ChangeMaps

def symR : Rep C.Sym := prodR strR (prodR (intR .i64) (intR .i64))
def relR : Rep C.Rel := prodR (intR .i64) strR
def secR : Rep C.Sec := prodR (intR .i64) (prodR strR (sliceR relR))
def objR : Rep C.Obj := prodR (sliceR symR) (sliceR secR)
def memR : Rep C.Mem := prodR strR objR
/-- The cells of symbol k. -/
theorem sym_get {w : World} {A : Option Addr} {c k : Nat} {l : List C.Sym} (h : SliceAt symR w (Old w) A c l) (hk : k < l.length) :
    ∃ b off s m q, A = some ⟨b, off, none⟩ ∧ l[k]? = some (s, m, q) ∧ s.size ≤ 9223372036854775807 ∧ (Lit.int .i64 m).wf = true ∧ (Lit.int .i64 q).wf = true ∧
      ∀ w', Ext w w' → w'.cell? ⟨b, off + k * 3, none⟩ = some (.string s) ∧ w'.cell? ⟨b, off + k * 3 + 1, none⟩ = some (.int .i64 m) ∧ w'.cell? ⟨b, off + k * 3 + 1 + 1, none⟩ = some (.int .i64 q) := by
  obtain ⟨b, off, rfl, _, hr⟩ := h.2.2 (by intro h; rw [h] at hk; simp at hk)
  obtain ⟨us, ⟨x, y, rfl, ⟨rfl, hs⟩, x2, y2, rfl, ⟨rfl, hm⟩, rfl, hq⟩, hc⟩ := hr k hk
  refine ⟨b, off, l[k].1, l[k].2.1, l[k].2.2, rfl, by simp [List.getElem?_eq_getElem hk], hs, hm, hq, fun w' h' => ⟨h'.keepc (hc 0 _ rfl), h'.keepc (hc 1 _ rfl), h'.keepc (hc 2 _ rfl)⟩⟩

/-! ### The map of names -/
theorem idx_snoc (s : C.Sym) (x : List UInt8) : ∀ l : List C.Sym, C.idx (l ++ [s]) x = match C.idx l x with | some i => some i | none => if C.nm s = x then some l.length else none
  | [] => by simp [C.idx]
  | a :: l => by
    rw [List.cons_append, C.idx, C.idx]
    by_cases h : C.nm a = x
    · rw [if_pos h, if_pos h]
    · rw [if_neg h, if_neg h, idx_snoc s x l]
      cases C.idx l x with
      | some i => rfl
      | none =>
        by_cases h2 : C.nm s = x
        · simp [h2]
        · simp [h2]
def mapD (l : List C.Sym) : Nat → DataW Unit
  | 0 => .map []
  | k + 1 => match l[k]? with | some s => (mapD l k).put (.string (C.nm s)) (.lit (.int .i64 (k : Int))) | none => mapD l k
theorem mapD_map (l : List C.Sym) : ∀ k, IsMap (mapD l k)
  | 0 => isMap_empty
  | k + 1 => by
    rw [mapD]
    split
    · exact (mapD_map l k).put _ _
    · exact mapD_map l k
theorem mapD_succ (l : List C.Sym) (k : Nat) (s : C.Sym) (h : l[k]? = some s) : mapD l (k + 1) = (mapD l k).put (.string (C.nm s)) (.lit (.int .i64 (k : Int))) := by rw [mapD, h]
theorem has_mapD (l : List C.Sym) (x : List UInt8) : ∀ k, k ≤ l.length → Maps.has (mapD l k) (.string x) = (C.idx (l.take k) x).isSome
  | 0, _ => rfl
  | k + 1, h => by
    have hk : l[k]? = some l[k] := List.getElem?_eq_getElem (by omega)
    have ih := has_mapD l x k (by omega)
    rw [mapD_succ l k _ hk, List.take_succ_eq_append_getElem (by omega), idx_snoc]
    by_cases e : C.nm l[k] = x
    · subst e
      rw [Maps.has_put_same (mapD_map l k) (show Go.WideAt.IsKeyLit (Lit.string _) from trivial)]
      cases C.idx (l.take k) (C.nm l[k]) <;> simp
    · rw [Maps.has_put_other (by intro h'; cases h'; exact e rfl), ih]
      cases C.idx (l.take k) x <;> simp [e]
def okN (s : ByteArray) : Bool := K.name s.data.toList
/-- The first k names are different identifiers. -/
def okTo2 (l : List C.Sym) (k : Nat) : Prop := ∀ i (h : i < l.length), i < k → okN l[i].1 = true ∧ C.idx l (C.nm l[i]) = some i
theorem idx_take {l : List C.Sym} {x : List UInt8} {k i : Nat} (h : C.idx (l.take k) x = some i) : C.idx l x = some i ∧ i < k := by
  obtain ⟨h1, h2⟩ := C.idx_lt h
  have hl : i < l.length := by simp at h1; omega
  have hk : i < k := by simp at h1; omega
  refine ⟨C.idx_is hl (by simpa using h2) fun j hj hji => ?_, hk⟩
  have := C.idx_first h j (by simp; omega) hji
  simpa using this
theorem idx_at {l : List C.Sym} {k : Nat} (hk : k < l.length) (h : C.idx (l.take k) (C.nm l[k]) = none) : C.idx l (C.nm l[k]) = some k := by
  refine C.idx_is hk rfl fun j hj hji => ?_
  have := C.idx_none h j (by simp; omega)
  simpa using this
theorem names_twice {l : List C.Sym} {k : Nat} (hk : k < l.length) (h : (C.idx (l.take k) (C.nm l[k])).isSome = true) : C.namesB okN l = false := by
  obtain ⟨i, hi⟩ := Option.isSome_iff_exists.1 h
  obtain ⟨h1, h2⟩ := idx_take hi
  rw [Bool.eq_false_iff]
  intro hn
  have := ((C.namesB_iff okN l).1 hn k hk).2
  rw [h1] at this
  cases this
  omega
theorem names_bad {l : List C.Sym} {k : Nat} (hk : k < l.length) (h : okN l[k].1 = false) : C.namesB okN l = false := by
  rw [Bool.eq_false_iff]
  intro hn
  have := ((C.namesB_iff okN l).1 hn k hk).1
  rw [h] at this
  cases this
theorem names_end {l : List C.Sym} (h : okTo2 l l.length) : C.namesB okN l = true := (C.namesB_iff okN l).2 fun i hi => h i hi hi
theorem names_on {l : List C.Sym} {k : Nat} (h : okTo2 l k) (hk : k < l.length) (h1 : okN l[k].1 = true) (h2 : (C.idx (l.take k) (C.nm l[k])).isSome = false) : okTo2 l (k + 1) := by
  intro i hi hik
  by_cases e : i = k
  · subst e
    exact ⟨h1, idx_at hk (by simpa using h2)⟩
  · exact h i hi (by omega)
/-- The map at b leads from each name to its place. -/
def MapTo (w : World) (b : Nat) (l : List C.Sym) (k : Nat) : Prop := w.ownsMap (H := Unit) Tryz.prog 9 (plainElem Tryz.prog 3) b k (mapD l k)
theorem MapTo.ext {w w' : World} {b k : Nat} {l : List C.Sym} (h : MapTo w b l k) (he : Ext w w') : MapTo w' b l k := by
  obtain ⟨es, clock, hb, r⟩ := h
  refine ⟨es, clock, (he.block b ?_).trans hb, r⟩
  rcases Nat.lt_or_ge b w.heap.size with h' | h'
  · exact h'
  · rw [Array.getElem?_eq_none h'] at hb; cases hb
/-- What index gives. -/
def RetIdx (w : World) (l : List C.Sym) (B : Bool) (e : Ending) (w' : World) : Prop :=
  Ext w w' ∧ ((B = false ∧ e = .returned (.tuple #[.map none, .bool false])) ∨ (B = true ∧ ∃ b, w.heap.size ≤ b ∧ e = .returned (.tuple #[.map (some b), .bool true]) ∧ MapTo w' b l l.length))
theorem zero3 (w : World) : (zeroValue 3).run Tryz.prog w = .ok (.int .i64 0) w := by kernel_rfl
theorem Ext.mapBlock {a b c : World} {m : Nat} (h : Ext a b) (hm : a.heap.size ≤ m) (hg : b.grownBy c (some m)) : Ext a c :=
  Below.grown h hg h.size fun k hk => by cases hk; exact hm

set_option maxRecDepth 8000 in
set_option maxHeartbeats 2000000 in
theorem index_any (l : List C.Sym) (A B : Option Addr) (c d n m : Nat) (w : World) (hn : n = l.length) (hA : SliceAt symR w (Old w) A c l) (hs : ∀ s ∈ l, s.1.size ≤ 9000000) (hn2 : n ≤ 100000) :
    Calls Tryz.prog 41 #[.agg #[.slice A n c, .slice B m d]] w (RetIdx w l (C.namesB okN l)) := by
  have hmm := @run_makeMap Tryz.prog
  have h0 : okTo2 l 0 := fun _ _ h => absurd h (Nat.not_lt_zero _)
  have HN := Lib.hid hn
  have HA := Lib.hid hA
  have HS := Lib.hid hs
  have FT := Lib.hid (fun k hk => @names_twice l k hk)
  have FB := Lib.hid (fun k hk => @names_bad l k hk)
  have FE := Lib.hid (@names_end l)
  generalize C.namesB okN l = R at FT FB FE ⊢
  have hm0 : MapTo ((w.alloc (.cells #[.slice A n c, .slice B m d] 25)).alloc (.map #[] 0)) (w.heap.size + 1) l 0 := by
    have := World.ownsMap_made (H := Unit) (w.alloc (.cells #[.slice A n c, .slice B m d] 25)) Tryz.prog 9 (plainElem Tryz.prog 3)
    have e : (w.alloc (.cells #[.slice A n c, .slice B m d] 25)).heap.size = w.heap.size + 1 := by simp
    rw [e] at this
    exact this
  have HM0 := Lib.hid hm0
  have b0 : (w.alloc (.cells #[.slice A n c, .slice B m d] 25)).cell? ⟨w.heap.size, 0, none⟩ = some (.slice A n c) := cell_new w #[.slice A n c, .slice B m d] 25 0
  clear hn hA hs hm0
  go_enter Tryz.func41, Tryz.ntmps41
  go_wp2_with fail
  go_loopw [13] (fun i wr => ∃ k : Nat, k ≤ n ∧ i = .int .i64 k ∧ Hid (okTo2 l k ∧ MapTo wr (w.heap.size + 1) l k ∧ Ext w wr)) (fun i _ => n - (intOf i).toNat)
  case atStart => exact ⟨0, Nat.zero_le _, rfl, h0, HM0.out, ((Ext.refl w).alloc _).alloc _⟩
  case round =>
    obtain ⟨k, hk, rfl, HK⟩ := hrel
    by_cases hlt : k < n
    · have hkz : k < l.length := by rw [← HN.out]; exact hlt
      obtain ⟨b, off, s, md, sc, rfl, hg, hs, hwm, hws, hc⟩ := sym_get HA.out hkz
      have hs9 := HS.out _ (List.mem_of_getElem? hg)
      have hgk : l[k] = (s, md, sc) := by rw [List.getElem?_eq_getElem hkz] at hg; simpa using hg
      have HC := Lib.hid hc
      have HG := Lib.hid hg
      have HGK := Lib.hid hgk
      obtain ⟨c1, c2, c3⟩ := hc wr HK.out.2.2
      clear hc hg hgk
      have hkey : keyOf Tryz.prog 9 (.string s) = some (.string (C.nm (s, md, sc))) := WideMaps.keyOf_string_mk Tryz.underlying9 (by unfold maxLen; omega)
      have hh : Maps.has (mapD l k) (.string (C.nm (s, md, sc))) = (C.idx (l.take k) (C.nm (s, md, sc))).isSome := has_mapD l _ k (by have := HN.out; omega)
      have hft := FT.out k hkz
      have hfb := FB.out k hkz
      rw [HGK.out] at hft hfb
      rw [← hh] at hft
      have hon := names_on HK.out.1 hkz
      rw [HGK.out, ← hh] at hon
      have HFT := Lib.hid hft
      have HFB := Lib.hid hfb
      have HON := Lib.hid hon
      have hms := mapD_succ l k _ HG.out
      clear hft hfb hon hh
      generalize C.nm (s, md, sc) = key at hkey HFT HFB HON hms
      have HT := Lib.hid (fun w1 => Name_any s w1 (show s.size ≤ _ by have : s.size ≤ 9000000 := hs9; omega))
      have hown0 : World.ownsMap (wr.alloc (.cells #[.string s, .int .i64 md, .int .i64 sc] 29)) Tryz.prog 9 (plainElem Tryz.prog 3) (w.heap.size + 1) k (mapD l k) := HK.out.2.1.ext ((Ext.refl _).alloc _)
      rcases Bool.eq_false_or_eq_true (Maps.has (mapD l k) (.string key)) with htw | htw
      · go_wp2_with (at_lookup; refine wpList_lookup_own_ok_int _ rfl _ _ 91 rfl 9 3 .i64 (string_keyed Tryz.underlying9) Tryz.underlying91 Tryz.underlying3 (zero3 _) (w.heap.size + 1) k (mapD l k) rfl hown0 _ _ rfl hkey ?_; intro cz hat hwc; rw [htw])
        go_ret2
        exact ⟨HK.out.2.2.alloc _, Or.inl ⟨HFT.out htw, rfl⟩⟩
      · have HN1 : Hid (∃ x, x = K.name s.data.toList) := ⟨_, rfl⟩
        go_wp2_with (at_lookup; refine wpList_lookup_own_ok_int _ rfl _ _ 91 rfl 9 3 .i64 (string_keyed Tryz.underlying9) Tryz.underlying91 Tryz.underlying3 (zero3 _) (w.heap.size + 1) k (mapD l k) rfl hown0 _ _ rfl hkey ?_; intro cz hat hwc; rw [htw])
        refine (HT.out _).mono ?_
        rintro e w1 ⟨rfl, d1⟩
        have hown1 : World.ownsMap w1 Tryz.prog 9 (plainElem Tryz.prog 3) (w.heap.size + 1) k (mapD l k) := MapTo.ext hown0 d1
        have hwk : (Lit.int .i64 (k : Int)).wf = true := by simp [Lit.wf, IntKind.min, IntKind.max, IntKind.bits, IntKind.signed]; omega
        have cb : w1.cell? ⟨wr.heap.size, 0, none⟩ = some (.string s) := d1.keepc (cell_new wr #[.string s, .int .i64 md, .int .i64 sc] 29 0)
        rcases Bool.eq_false_or_eq_true (K.name s.data.toList) with hn1 | hn1
        · rw [hn1]
          have h1 := HON.out hn1 htw
          have H1 := Lib.hid h1
          clear h1
          go_wp2_with (at_mapUpdate; (refine wpList_mapUpdate_own _ rfl _ _ _ 91 rfl 9 3 (string_keyed Tryz.underlying9) Tryz.underlying91 _ (w.heap.size + 1) k _ rfl hown1 (by unfold maxLen; omega) _ _ _ rfl rfl hkey _ [] (plainElem_int Tryz.underlying3 hwk) ?_); intro w2 hown2 hgrow2)
          go_roundw
          case rel => exact ⟨k + 1, by omega, by go_num, H1.out, by rw [← hms] at hown2; exact hown2, ((HK.out.2.2.alloc _).trans d1).mapBlock (Nat.le_succ _) hgrow2⟩
          case measure => simp [intOf]; omega
        · rw [hn1]
          have hr := HFB.out hn1
          go_wp2_with fail
          go_ret2
          exact ⟨(HK.out.2.2.alloc _).trans d1, Or.inl ⟨hr, rfl⟩⟩
    · go_wp2_with fail
      go_ret2
      refine ⟨HK.out.2.2, Or.inr ⟨FE.out ?_, w.heap.size + 1, Nat.le_succ _, rfl, ?_⟩⟩
      · have := HK.out.1
        rwa [show k = l.length by have := HN.out; omega] at this
      · have := HK.out.2.1
        rwa [show k = l.length by have := HN.out; omega] at this

end Go.Proofs.YtjimgkefacnamaaGreatDoor

/- The reference's index of a name; sections. -/
namespace Go.Proofs.YtjimgkefacnamaaGreatDoor
open Go.RowKit Go.Maps Go.ChangeMaps
set_option linter.unusedVariables false

def idxI : Option Nat → Int
  | some i => (i : Int)
  | none => -1
/-- None of the first k names is x. -/
def notTo (l : List C.Sym) (x : List UInt8) (k : Nat) : Prop := ∀ i (h : i < l.length), i < k → C.nm l[i] ≠ x
theorem idx_yes {l : List C.Sym} {x : List UInt8} {k : Nat} (h : notTo l x k) (hk : k < l.length) (h1 : C.nm l[k] = x) : idxI (C.idx l x) = (k : Int) := by
  rw [C.idx_is hk h1 fun j hj hjk => h j hj hjk]
  rfl
theorem idx_no {l : List C.Sym} {x : List UInt8} (h : notTo l x l.length) : idxI (C.idx l x) = -1 := by
  cases e : C.idx l x with
  | none => rfl
  | some i =>
    obtain ⟨h1, h2⟩ := C.idx_lt e
    exact absurd h2 (h i h1 h1)
theorem notTo_succ {l : List C.Sym} {x : List UInt8} {k : Nat} (h : notTo l x k) (hk : k < l.length) (h1 : C.nm l[k] ≠ x) : notTo l x (k + 1) := by
  intro i hi hik
  by_cases e : i = k
  · subst e; exact h1
  · exact h i hi (by omega)

set_option maxRecDepth 8000 in
set_option maxHeartbeats 2000000 in
theorem Index_any (l : List C.Sym) (A B : Option Addr) (c d n m : Nat) (x : ByteArray) (w : World) (hn : n = l.length) (hA : SliceAt symR w (Old w) A c l) (hn2 : n ≤ 100000) (hx : x.size ≤ 9223372036854775807) :
    Calls Tryz.prog 40 #[.agg #[.slice A n c, .slice B m d], .string x] w (Al (.int .i64 (idxI (C.idx l x.data.toList))) w) := by
  have h0 : notTo l x.data.toList 0 := fun _ _ h => absurd h (Nat.not_lt_zero _)
  have HN := Lib.hid hn
  have HA := Lib.hid hA
  have FY := Lib.hid (fun k => @idx_yes l x.data.toList k)
  have FE := Lib.hid (@idx_no l x.data.toList)
  generalize idxI (C.idx l x.data.toList) = R at FY FE ⊢
  have b0 : (w.alloc (.cells #[.slice A n c, .slice B m d] 25)).cell? ⟨w.heap.size, 0, none⟩ = some (.slice A n c) := cell_new w #[.slice A n c, .slice B m d] 25 0
  clear hn hA
  go_enter Tryz.func40, Tryz.ntmps40
  go_wp2_with fail
  go_loopw [10] (fun i wr => ∃ k : Nat, k ≤ n ∧ i = .int .i64 k ∧ Hid (notTo l x.data.toList k ∧ Ext w wr)) (fun i _ => n - (intOf i).toNat)
  case atStart => exact ⟨0, Nat.zero_le _, rfl, h0, (Ext.refl w).alloc _⟩
  case round =>
    obtain ⟨k, hk, rfl, HK⟩ := hrel
    by_cases hlt : k < n
    · have hkz : k < l.length := by rw [← HN.out]; exact hlt
      obtain ⟨b, off, s, md, sc, rfl, hg, hs, hwm, hws, hc⟩ := sym_get HA.out hkz
      have hgk : l[k] = (s, md, sc) := by rw [List.getElem?_eq_getElem hkz] at hg; simpa using hg
      have HC := Lib.hid hc
      obtain ⟨c1, c2, c3⟩ := hc wr HK.out.2
      have hfy := FY.out k HK.out.1 hkz
      have hon := @notTo_succ l x.data.toList k HK.out.1 hkz
      rw [hgk] at hfy hon
      have HFY := Lib.hid hfy
      have HON := Lib.hid hon
      clear hc hg hgk hfy hon
      rcases Bool.eq_false_or_eq_true (s.toList == x.toList) with he | he
      · have hr := HFY.out (by have := eq_of_beq he; rwa [ByteArray.toList_eq, ByteArray.toList_eq] at this)
        go_wp2_with fail
        go_ret
        exact ⟨by rw [hr]; rfl, HK.out.2.alloc _⟩
      · have hr := HON.out (by intro h'; have : C.nm (s, md, sc) = s.data.toList := rfl; rw [this] at h'; rw [ByteArray.toList_eq, ByteArray.toList_eq, h'] at he; simp at he)
        have HR := Lib.hid hr
        clear hr
        go_wp2_with fail
        go_roundw
        case rel => exact ⟨k + 1, by omega, by go_num, HR.out, HK.out.2.alloc _⟩
        case measure => simp [intOf]; omega
    · have hr := FE.out (by have := HK.out.1; rwa [show k = l.length by have := HN.out; omega] at this)
      go_wp2_with fail
      go_ret
      exact ⟨by rw [hr]; rfl, HK.out.2⟩

end Go.Proofs.YtjimgkefacnamaaGreatDoor

/- Sections: object.section and the reference's. -/
namespace Go.Proofs.YtjimgkefacnamaaGreatDoor
open Go.RowKit Go.Maps Go.ChangeMaps
set_option linter.unusedVariables false

/-- One relocation behind the place e. -/
def relG (syms : List C.Sym) (d : List UInt8) (r : C.Rel) (e : Int) : Bool :=
  decide (e ≤ r.1) && decide (r.1 ≤ (d.length : Int) - 4) && decide ((d.drop r.1.toNat).take 4 = [0, 0, 0, 0]) && (C.idx syms r.2.data.toList).isSome
def endR : List C.Rel → Int → Int
  | [], e => e
  | r :: l, _ => endR l (r.1 + 4)
theorem relsB_cons (syms : List C.Sym) (d : List UInt8) (r : C.Rel) (l : List C.Rel) (e : Int) : C.relsB syms d (r :: l) e = (relG syms d r e && C.relsB syms d l (r.1 + 4)) := rfl
theorem relsB_append (syms : List C.Sym) (d : List UInt8) : ∀ (l1 l2 : List C.Rel) (e : Int), C.relsB syms d (l1 ++ l2) e = (C.relsB syms d l1 e && C.relsB syms d l2 (endR l1 e))
  | [], l2, e => by simp [C.relsB, endR]
  | r :: l1, l2, e => by rw [List.cons_append, relsB_cons, relsB_cons, relsB_append syms d l1 l2, endR, Bool.and_assoc]
theorem endR_append : ∀ (l : List C.Rel) (r : C.Rel) (e : Int), endR (l ++ [r]) e = r.1 + 4
  | [], _, _ => rfl
  | _ :: l, r, e => by rw [List.cons_append, endR, endR_append l r]
theorem rel_split {rs : List C.Rel} {k : Nat} (hk : k < rs.length) (syms : List C.Sym) (d : List UInt8) (h : C.relsB syms d (rs.take k) 0 = true) :
    C.relsB syms d rs 0 = (relG syms d rs[k] (endR (rs.take k) 0) && C.relsB syms d (rs.drop (k + 1)) (rs[k].1 + 4)) ∧
      C.relsB syms d (rs.take (k + 1)) 0 = relG syms d rs[k] (endR (rs.take k) 0) ∧ endR (rs.take (k + 1)) 0 = rs[k].1 + 4 := by
  refine ⟨?_, ?_, ?_⟩
  · conv => lhs; rw [← List.take_append_drop k rs, List.drop_eq_getElem_cons hk]
    rw [relsB_append, h, relsB_cons, Bool.true_and]
  · rw [List.take_succ_eq_append_getElem hk, relsB_append, h, relsB_cons]
    simp [C.relsB]
  · rw [List.take_succ_eq_append_getElem hk, endR_append]
/-- Up to relocation k all is right; the place behind. -/
def relTo (syms : List C.Sym) (d : List UInt8) (rs : List C.Rel) (k : Nat) (e : Int) : Prop := C.relsB syms d (rs.take k) 0 = true ∧ endR (rs.take k) 0 = e ∧ 0 ≤ e ∧ e ≤ 9223372036854775807
theorem relTo_zero (syms : List C.Sym) (d : List UInt8) (rs : List C.Rel) : relTo syms d rs 0 0 := ⟨rfl, rfl, by decide, by decide⟩
theorem relTo_bad {syms : List C.Sym} {d : List UInt8} {rs : List C.Rel} {k : Nat} {e : Int} (h : relTo syms d rs k e) (hk : k < rs.length) (hb : relG syms d rs[k] e = false) : C.relsB syms d rs 0 = false := by
  have := (rel_split hk syms d h.1).1
  rw [h.2.1, hb] at this
  exact this
theorem relTo_on {syms : List C.Sym} {d : List UInt8} {rs : List C.Rel} {k : Nat} {e : Int} (h : relTo syms d rs k e) (hk : k < rs.length) (hd : d.length ≤ 9223372036854775807) (hb : relG syms d rs[k] e = true) : relTo syms d rs (k + 1) (rs[k].1 + 4) := by
  obtain ⟨h1, h2, h3⟩ := rel_split hk syms d h.1
  rw [h.2.1, hb] at h2
  have : e ≤ rs[k].1 ∧ rs[k].1 ≤ (d.length : Int) - 4 := by
    unfold relG at hb
    simp only [Bool.and_eq_true, decide_eq_true_eq] at hb
    exact ⟨hb.1.1.1, hb.1.1.2⟩
  have := h.2.2.1
  exact ⟨h2, h3, by omega, by omega⟩
theorem relTo_end {syms : List C.Sym} {d : List UInt8} {rs : List C.Rel} {e : Int} (h : relTo syms d rs rs.length e) : C.relsB syms d rs 0 = true := by
  have := h.1
  rwa [List.take_length] at this
/-- The cells of relocation k. -/
theorem rel_get {w : World} {A : Option Addr} {c k : Nat} {l : List C.Rel} (h : SliceAt relR w (Old w) A c l) (hk : k < l.length) :
    ∃ b off a s, A = some ⟨b, off, none⟩ ∧ l[k] = (a, s) ∧ (Lit.int .i64 a).wf = true ∧ s.size ≤ 9223372036854775807 ∧
      ∀ w', Ext w w' → w'.cell? ⟨b, off + k * 2, none⟩ = some (.int .i64 a) ∧ w'.cell? ⟨b, off + k * 2 + 1, none⟩ = some (.string s) := by
  obtain ⟨b, off, rfl, _, hr⟩ := h.2.2 (by intro h; rw [h] at hk; simp at hk)
  obtain ⟨us, ⟨x, y, rfl, ⟨rfl, hm⟩, rfl, hs⟩, hc⟩ := hr k hk
  exact ⟨b, off, l[k].1, l[k].2, rfl, rfl, hm, hs, fun w' h' => ⟨h'.keepc (hc 0 _ rfl), h'.keepc (hc 1 _ rfl)⟩⟩

set_option maxRecDepth 8000 in
set_option maxHeartbeats 2000000 in
theorem section_any (syms : List C.Sym) (kd : Int) (d : ByteArray) (rs : List C.Rel) (A : Option Addr) (c n b : Nat) (w : World) (hn : n = rs.length) (hA : SliceAt relR w (Old w) A c rs) (hm : MapTo w b syms syms.length)
    (hd : d.size ≤ 9223372036854775807) (hkd : (Lit.int .i64 kd).wf = true) :
    Calls Tryz.prog 42 #[.agg #[.int .i64 kd, .string d, .slice A n c], .map (some b)] w (Al (.bool (C.secB syms (kd, d, rs))) w) := by
  have hdl : d.data.toList.length = d.size := by simp
  have hn2 : n ≤ 9223372036854775807 := by have := hA.1; have := hA.2.1; omega
  have hw4 : ∀ i : Int, 0 ≤ i → i ≤ 9223372036854775807 → IntKind.i64.wrap i = i := fun i _ _ => by unfold IntKind.wrap; simp [IntKind.bits, IntKind.signed]; omega
  rcases Bool.eq_false_or_eq_true (C.kindB kd d.size) with hk | hk
  · have hR : C.secB syms (kd, d, rs) = (C.relsB syms d.data.toList rs 0 && decide (d.size ≤ 8192)) := by
      unfold C.secB
      rw [hk]
      rfl
    have FT := Lib.hid (fun k e (hk : k < rs.length) (h : relTo syms d.data.toList rs k e) (hb : relG syms d.data.toList rs[k] e = false) => show C.secB syms (kd, d, rs) = false by rw [hR, relTo_bad h hk hb]; rfl)
    have FE := Lib.hid (fun e (h : relTo syms d.data.toList rs rs.length e) => show C.secB syms (kd, d, rs) = decide (d.size ≤ 8192) by rw [hR, relTo_end h]; rfl)
    generalize C.secB syms (kd, d, rs) = R at FT FE ⊢
    have HN := Lib.hid hn
    have HA := Lib.hid hA
    have HM := Lib.hid hm
    have hcs : (kd = 1 ∧ 2 ≤ (d.size : Int)) ∨ (kd = 2 ∧ (d.size : Int).tmod 4 = 0) := by
      rw [Int.tmod_eq_emod_of_nonneg (by omega)]
      simp [C.kindB] at hk
      omega
    clear hn hA hm hR hk
    rcases hcs with ⟨rfl, h4⟩ | ⟨rfl, h4⟩
    all_goals
      go_enter Tryz.func42, Tryz.ntmps42
      go_wp2_with fail
      go_loopw [33, 5] (fun i ee wr => ∃ (k : Nat) (e : Int), k ≤ n ∧ i = .int .i64 k ∧ ee = .int .i64 e ∧ Hid (relTo syms d.data.toList rs k e ∧ Ext w wr ∧ wr.cell? ⟨w.heap.size, 1, none⟩ = some (.string d))) (fun i _ _ => n - (intOf i).toNat)
      case atStart => exact ⟨0, 0, Nat.zero_le _, rfl, rfl, relTo_zero _ _ _, (Ext.refl w).alloc _, cell_new w _ 85 1⟩
      case round =>
        obtain ⟨k, e, hk, rfl, rfl, HK⟩ := hrel
        by_cases hlt : k < n
        · have hkz : k < rs.length := by rw [← HN.out]; exact hlt
          obtain ⟨bb, off, a, s, rfl, hgk, hwa, hs, hc⟩ := rel_get HA.out hkz
          have HC := Lib.hid hc
          obtain ⟨c1, c2⟩ := hc wr HK.out.2.1
          have hft := FT.out k e hkz HK.out.1
          have hon := relTo_on HK.out.1 hkz (by rw [hdl]; exact hd)
          rw [hgk] at hft hon
          have HFT := Lib.hid hft
          have HON := Lib.hid hon
          clear hc hgk hft hon
          have hq := HK.out.1.2.2
          have cd : (wr.alloc (.cells #[.int .i64 a, .string s] 87)).cell? ⟨w.heap.size, 1, none⟩ = some (.string d) := ((Ext.refl wr).alloc _).keepc HK.out.2.2
          by_cases ha1 : a < e
          · have hr := HFT.out (by unfold relG; rw [show decide (e ≤ a) = false by simp; omega]; rfl)
            go_wp2_with fail
            go_ret
            exact ⟨by first | rfl | (rw [hr]; rfl), HK.out.2.1.alloc _⟩
          · by_cases ha2 : a > (d.size : Int) - 4
            · have hr := HFT.out (by unfold relG; rw [show decide (a ≤ (d.data.toList.length : Int) - 4) = false by rw [hdl]; simp; omega]; simp)
              go_wp2_with fail
              go_ret
              exact ⟨by first | rfl | (rw [hr]; rfl), HK.out.2.1.alloc _⟩
            · have hex : (d.extract a.toNat (a + 4).toNat).toList = (d.data.toList.drop a.toNat).take 4 := by
                rw [ByteArray.toList_eq, Lib.extract_data, show (a + 4).toNat - a.toNat = 4 by omega]
              have hown : World.ownsMap (wr.alloc (.cells #[.int .i64 a, .string s] 87)) Tryz.prog 9 (plainElem Tryz.prog 3) b syms.length (mapD syms syms.length) := HM.out.ext (HK.out.2.1.alloc _)
              have hkey : keyOf Tryz.prog 9 (.string s) = some (.string s.data.toList) := WideMaps.keyOf_string_mk Tryz.underlying9 (by unfold maxLen; omega)
              have hh : Maps.has (mapD syms syms.length) (.string s.data.toList) = (C.idx syms s.data.toList).isSome := by
                rw [has_mapD syms _ _ (Nat.le_refl _), List.take_length]
              have hrel : relG syms d.data.toList (a, s) e = (decide ((d.data.toList.drop a.toNat).take 4 = [0, 0, 0, 0]) && (C.idx syms s.data.toList).isSome) := by
                unfold relG
                rw [show decide (e ≤ a) = true by simp; omega, show decide (a ≤ (d.data.toList.length : Int) - 4) = true by rw [hdl]; simp; omega]
                rfl
              have HR := Lib.hid hrel
              clear hrel
              rcases Bool.eq_false_or_eq_true ((d.data.toList.drop a.toNat).take 4 == [0, 0, 0, 0]) with hz | hz
              · have hz2 : (!((d.data.toList.drop a.toNat).take 4 == [0, 0, 0, 0])) = false := by rw [hz]; rfl
                rcases Bool.eq_false_or_eq_true ((C.idx syms s.data.toList).isSome) with hi | hi
                · have h9 := HON.out (by rw [HR.out, hi]; simpa using hz)
                  have H9 := Lib.hid h9
                  rw [hi] at hh
                  clear h9
                  go_wp2_with (at_lookup; refine wpList_lookup_own_ok_int _ rfl _ _ 91 rfl 9 3 .i64 (string_keyed Tryz.underlying9) Tryz.underlying91 Tryz.underlying3 (zero3 _) b syms.length (mapD syms syms.length) rfl hown _ _ rfl hkey ?_; intro cz hat hwc; rw [hh])
                  exact ⟨⟨k + 1, a + 4, by omega, by go_num, rfl, H9.out, HK.out.2.1.alloc _, cd⟩, by simp [intOf]; omega⟩
                · have hr := HFT.out (by rw [HR.out, hi]; simp)
                  rw [hi] at hh
                  go_wp2_with (at_lookup; refine wpList_lookup_own_ok_int _ rfl _ _ 91 rfl 9 3 .i64 (string_keyed Tryz.underlying9) Tryz.underlying91 Tryz.underlying3 (zero3 _) b syms.length (mapD syms syms.length) rfl hown _ _ rfl hkey ?_; intro cz hat hwc; rw [hh])
                  go_ret
                  exact ⟨by first | rfl | (rw [hr]; rfl), HK.out.2.1.alloc _⟩
              · have hz2 : (!((d.data.toList.drop a.toNat).take 4 == [0, 0, 0, 0])) = true := by rw [hz]; rfl
                have hr := HFT.out (by rw [HR.out]; simp at hz; simp [hz])
                go_wp2_with fail
                go_ret
                exact ⟨by first | rfl | (rw [hr]; rfl), HK.out.2.1.alloc _⟩
        · have hr := FE.out e (by have := HK.out.1; rwa [show k = rs.length by have := HN.out; omega] at this)
          have cd := HK.out.2.2
          go_wp2_with fail
          go_ret
          exact ⟨by rw [hr]; simp; omega, HK.out.2.1⟩
  · have hr : C.secB syms (kd, d, rs) = false := by
      unfold C.secB
      rw [hk]
      rfl
    rw [hr]
    have h1 : kd = 1 → ¬ 2 ≤ (d.size : Int) := by
      rintro rfl h
      simp [C.kindB] at hk
      omega
    have h2 : kd = 2 → ¬ (d.size : Int) % 4 = 0 := by
      rintro rfl h
      simp [C.kindB] at hk
      omega
    have h3 : kd = 2 → ¬ (d.size : Int).tmod 4 = 0 := by
      rw [Int.tmod_eq_emod_of_nonneg (by omega)]
      exact h2
    clear hr hk
    by_cases e1 : kd = 1
    · subst e1
      have h1 := h1 rfl
      go_enter Tryz.func42, Tryz.ntmps42
      go_wp2_with fail
      go_ret
      exact ⟨rfl, (Ext.refl w).alloc _⟩
    · by_cases e2 : kd = 2
      · subst e2
        have h2 := h2 rfl
        have h3 := h3 rfl
        go_enter Tryz.func42, Tryz.ntmps42
        go_wp2_with fail
        go_ret
        exact ⟨rfl, (Ext.refl w).alloc _⟩
      · clear h1 h2 h3
        go_enter Tryz.func42, Tryz.ntmps42
        go_wp2_with fail
        go_ret
        exact ⟨rfl, (Ext.refl w).alloc _⟩

end Go.Proofs.YtjimgkefacnamaaGreatDoor

/- The reference's section. -/
namespace Go.Proofs.YtjimgkefacnamaaGreatDoor
open Go.RowKit Go.Maps Go.ChangeMaps
set_option linter.unusedVariables false

theorem idxI_neg (o : Option Nat) : decide (idxI o < 0) = !o.isSome := by
  cases o with
  | none => rfl
  | some i => exact decide_eq_false (by simp [idxI])
theorem kind_no {k : Int} {n : Nat} (h : C.kindB k n = false) : (k = 1 ∧ (n : Int) < 2 ∧ decide ((n : Int) < 2) = true) ∨ (k = 2 ∧ (n : Int).tmod 4 ≠ 0 ∧ (n : Int) % 4 ≠ 0) ∨ (k ≠ 1 ∧ k ≠ 2 ∧ True) := by
  have : (k = 1 ∧ (n : Int) < 2) ∨ (k = 2 ∧ (n : Int).tmod 4 ≠ 0) ∨ (k ≠ 1 ∧ k ≠ 2) := by
    rw [Int.tmod_eq_emod_of_nonneg (by omega)]
    simp [C.kindB] at h
    omega
  rcases this with ⟨h1, h2⟩ | ⟨h1, h2⟩ | ⟨h1, h2⟩
  · exact Or.inl ⟨h1, h2, by simpa using h2⟩
  · exact Or.inr (Or.inl ⟨h1, h2, by rwa [Int.tmod_eq_emod_of_nonneg (by omega)] at h2⟩)
  · exact Or.inr (Or.inr ⟨h1, h2, trivial⟩)
theorem kind_yes {k : Int} {n : Nat} (h : C.kindB k n = true) : (k = 1 ∧ 2 ≤ (n : Int) ∧ decide ((n : Int) < 2) = false) ∨ (k = 2 ∧ (n : Int).tmod 4 = 0 ∧ decide ((n : Int).tmod 4 = 0) = true) := by
  have : (k = 1 ∧ 2 ≤ (n : Int)) ∨ (k = 2 ∧ (n : Int).tmod 4 = 0) := by
    rw [Int.tmod_eq_emod_of_nonneg (by omega)]
    simp [C.kindB] at h
    omega
  rcases this with ⟨h1, h2⟩ | ⟨h1, h2⟩
  · exact Or.inl ⟨h1, h2, by simp; omega⟩
  · exact Or.inr ⟨h1, h2, by simpa using h2⟩

set_option maxRecDepth 8000 in
set_option maxHeartbeats 4000000 in
theorem rsection_any (syms : List C.Sym) (SA SB : Option Addr) (sc sd sn sm : Nat) (kd : Int) (d : ByteArray) (rs : List C.Rel) (A : Option Addr) (c n : Nat) (w : World) (hsn : sn = syms.length) (hS : SliceAt symR w (Old w) SA sc syms) (hs2 : sn ≤ 100000) (hn : n = rs.length) (hA : SliceAt relR w (Old w) A c rs)
    (hd : d.size ≤ 9223372036854775807) (hkd : (Lit.int .i64 kd).wf = true) :
    Calls Tryz.prog 44 #[.agg #[.slice SA sn sc, .slice SB sm sd], .agg #[.int .i64 kd, .string d, .slice A n c]] w (Al (.bool (C.secB syms (kd, d, rs))) w) := by
  have hdl : d.data.toList.length = d.size := by simp
  have hn2 : n ≤ 9223372036854775807 := by have := hA.1; have := hA.2.1; omega
  have hR : C.secB syms (kd, d, rs) = (C.kindB kd d.size && C.relsB syms d.data.toList rs 0 && decide (d.size ≤ 8192)) := rfl
  by_cases hbig : (d.size : Int) > 8192
  · have hr : C.secB syms (kd, d, rs) = false := by rw [hR, show decide (d.size ≤ 8192) = false by simp; omega, Bool.and_false]
    rw [hr]
    clear hR hr
    go_enter Tryz.func44, Tryz.ntmps44
    go_wp2_with fail
    go_ret
    exact ⟨rfl, ((Ext.refl w).alloc _).alloc _⟩
  rcases Bool.eq_false_or_eq_true (C.kindB kd d.size) with hk | hk
  · have FT := Lib.hid (fun k e (hk : k < rs.length) (h : relTo syms d.data.toList rs k e) (hb : relG syms d.data.toList rs[k] e = false) => show C.secB syms (kd, d, rs) = false by rw [hR, relTo_bad h hk hb]; simp)
    have FE := Lib.hid (fun e (h : relTo syms d.data.toList rs rs.length e) => show C.secB syms (kd, d, rs) = true by rw [hR, relTo_end h, hk]; simp; omega)
    generalize C.secB syms (kd, d, rs) = R at FT FE ⊢
    have HN := Lib.hid hn
    have HA := Lib.hid hA
    have HS := Lib.hid (fun (w' : World) (h : Ext w w') (x : ByteArray) (hx : x.size ≤ 9223372036854775807) => Index_any syms SA SB sc sd sn sm x w' hsn (hS.ext h) hs2 hx)
    have hcs := kind_yes hk
    clear hn hA hR hk hS
    have HST : Hid (relTo syms d.data.toList rs 0 (-4 + 4) ∧ Ext w ((w.alloc (.cells #[.slice SA sn sc, .slice SB sm sd] 25)).alloc (.cells #[.int .i64 kd, .string d, .slice A n c] 85)) ∧ ((w.alloc (.cells #[.slice SA sn sc, .slice SB sm sd] 25)).alloc (.cells #[.int .i64 kd, .string d, .slice A n c] 85)).cell? ⟨w.heap.size + 1, 1, none⟩ = some (.string d) ∧ ((w.alloc (.cells #[.slice SA sn sc, .slice SB sm sd] 25)).alloc (.cells #[.int .i64 kd, .string d, .slice A n c] 85)).cell? ⟨w.heap.size, 0, none⟩ = some (.slice SA sn sc) ∧ ((w.alloc (.cells #[.slice SA sn sc, .slice SB sm sd] 25)).alloc (.cells #[.int .i64 kd, .string d, .slice A n c] 85)).cell? ⟨w.heap.size, 1, none⟩ = some (.slice SB sm sd)) := by
      refine ⟨relTo_zero _ _ _, ((Ext.refl w).alloc _).alloc _, ?_, ((Ext.refl _).alloc _).keepc (cell_new w #[.slice SA sn sc, .slice SB sm sd] 25 0), ((Ext.refl _).alloc _).keepc (cell_new w #[.slice SA sn sc, .slice SB sm sd] 25 1)⟩
      have := cell_new (w.alloc (.cells #[.slice SA sn sc, .slice SB sm sd] 25)) #[.int .i64 kd, .string d, .slice A n c] 85 1
      rw [show (w.alloc (.cells #[.slice SA sn sc, .slice SB sm sd] 25)).heap.size = w.heap.size + 1 by simp] at this
      exact this
    clear hsn
    rcases hcs with ⟨rfl, h4, h5⟩ | ⟨rfl, h4, h5⟩
    all_goals
      go_enter Tryz.func44, Tryz.ntmps44
      go_wp2_with fail
      go_loopw [44, 5] (fun i ee wr => ∃ (k : Nat) (e : Int), k ≤ n ∧ i = .int .i64 k ∧ ee = .int .i64 e ∧ Hid (relTo syms d.data.toList rs k (e + 4) ∧ Ext w wr ∧ wr.cell? ⟨w.heap.size + 1, 1, none⟩ = some (.string d) ∧ wr.cell? ⟨w.heap.size, 0, none⟩ = some (.slice SA sn sc) ∧ wr.cell? ⟨w.heap.size, 1, none⟩ = some (.slice SB sm sd))) (fun i _ _ => n - (intOf i).toNat)
      case atStart => exact ⟨0, -4, Nat.zero_le _, rfl, rfl, HST.out⟩
      case round =>
        obtain ⟨k, e, hk, rfl, rfl, HK⟩ := hrel
        by_cases hlt : k < n
        · have hkz : k < rs.length := by rw [← HN.out]; exact hlt
          obtain ⟨bb, off, a, s, rfl, hgk, hwa, hs, hc⟩ := rel_get HA.out hkz
          have HC := Lib.hid hc
          obtain ⟨c1, c2⟩ := hc wr HK.out.2.1
          have hft := FT.out k (e + 4) hkz HK.out.1
          have hon := relTo_on HK.out.1 hkz (by rw [hdl]; exact hd)
          rw [hgk] at hft hon
          have HFT := Lib.hid hft
          have HON := Lib.hid hon
          clear hc hgk hft hon
          have hq := HK.out.1.2.2
          have K1 : Ext wr (wr.alloc (.cells #[.int .i64 a, .string s] 87)) := (Ext.refl wr).alloc _
          have cd := K1.keepc HK.out.2.2.1
          have cs1 := K1.keepc HK.out.2.2.2.1
          have cs2 := K1.keepc HK.out.2.2.2.2
          by_cases ha1 : a < e + 4
          · have hr := HFT.out (by unfold relG; rw [show decide (e + 4 ≤ a) = false by simp; omega]; rfl)
            go_wp2_with fail
            go_ret
            exact ⟨by first | rfl | (rw [hr]; rfl), HK.out.2.1.alloc _⟩
          · by_cases ha2 : a > (d.size : Int) - 4
            · have hr := HFT.out (by unfold relG; rw [show decide (a ≤ (d.data.toList.length : Int) - 4) = false by rw [hdl]; simp; omega]; simp)
              go_wp2_with fail
              go_ret
              exact ⟨by first | rfl | (rw [hr]; rfl), HK.out.2.1.alloc _⟩
            · have hex : (d.extract a.toNat (a + 4).toNat).toList = (d.data.toList.drop a.toNat).take 4 := by
                rw [ByteArray.toList_eq, Lib.extract_data, show (a + 4).toNat - a.toNat = 4 by omega]
              have hrel : relG syms d.data.toList (a, s) (e + 4) = (decide ((d.data.toList.drop a.toNat).take 4 = [0, 0, 0, 0]) && (C.idx syms s.data.toList).isSome) := by
                unfold relG
                rw [show decide (e + 4 ≤ a) = true by simp; omega, show decide (a ≤ (d.data.toList.length : Int) - 4) = true by rw [hdl]; simp; omega]
                rfl
              have HR := Lib.hid hrel
              clear hrel
              rcases Bool.eq_false_or_eq_true ((d.data.toList.drop a.toNat).take 4 == [0, 0, 0, 0]) with hz | hz
              · have hz2 : (!((d.data.toList.drop a.toNat).take 4 == [0, 0, 0, 0])) = false := by rw [hz]; rfl
                have HI := Lib.hid (fun w' (h : Ext w w') => HS.out w' h s hs)
                rcases Bool.eq_false_or_eq_true ((C.idx syms s.data.toList).isSome) with hi | hi
                · have h9 := HON.out (by rw [HR.out, hi]; simpa using hz)
                  have H9 := Lib.hid h9
                  have hneg := idxI_neg (C.idx syms s.data.toList)
                  rw [hi, Bool.not_true] at hneg
                  clear h9
                  generalize idxI (C.idx syms s.data.toList) = z at HI hneg
                  go_wp2_with fail
                  refine (HI.out _ (HK.out.2.1.alloc _)).mono ?_
                  rintro e1 w1 ⟨rfl, d1⟩
                  have hw1 : Hid (Ext w w1) := (HK.out.2.1.alloc _).trans d1
                  have D1 := K1.trans d1
                  have HL := Lib.hid (show relTo syms d.data.toList rs (k + 1) (a + 4) ∧ Ext w w1 ∧ w1.cell? ⟨w.heap.size + 1, 1, none⟩ = some (.string d) ∧ w1.cell? ⟨w.heap.size, 0, none⟩ = some (.slice SA sn sc) ∧ w1.cell? ⟨w.heap.size, 1, none⟩ = some (.slice SB sm sd) from ⟨H9.out, hw1.out, D1.keepc HK.out.2.2.1, D1.keepc HK.out.2.2.2.1, D1.keepc HK.out.2.2.2.2⟩)
                  have cb : w1.cell? ⟨wr.heap.size, 0, none⟩ = some (.int .i64 a) := d1.keepc (cell_new wr _ 87 0)
                  go_wp2_with fail
                  exact ⟨⟨k + 1, a, by omega, by go_num, rfl, HL.out⟩, by simp [intOf]; omega⟩
                · have hr := HFT.out (by rw [HR.out, hi]; simp)
                  have HRR := Lib.hid hr
                  have hneg := idxI_neg (C.idx syms s.data.toList)
                  rw [hi, Bool.not_false] at hneg
                  clear hr
                  generalize idxI (C.idx syms s.data.toList) = z at HI hneg
                  go_wp2_with fail
                  refine (HI.out _ (HK.out.2.1.alloc _)).mono ?_
                  rintro e1 w1 ⟨rfl, d1⟩
                  have hw1 : Hid (Ext w w1) := (HK.out.2.1.alloc _).trans d1
                  go_wp2_with fail
                  go_ret
                  exact ⟨by rw [HRR.out]; rfl, hw1.out⟩
              · have hz2 : (!((d.data.toList.drop a.toNat).take 4 == [0, 0, 0, 0])) = true := by rw [hz]; rfl
                have hr := HFT.out (by rw [HR.out]; simp at hz; simp [hz])
                go_wp2_with fail
                go_ret
                exact ⟨by first | rfl | (rw [hr]; rfl), HK.out.2.1.alloc _⟩
        · have hr := FE.out (e + 4) (by have := HK.out.1; rwa [show k = rs.length by have := HN.out; omega] at this)
          go_wp2_with fail
          go_ret
          exact ⟨by first | rfl | (rw [hr]; rfl), HK.out.2.1⟩
  · have hr : C.secB syms (kd, d, rs) = false := by rw [hR, hk]; rfl
    rw [hr]
    have hcs := kind_no hk
    clear hr hR hk
    rcases hcs with ⟨rfl, h4, h5⟩ | ⟨rfl, h4, h5⟩ | ⟨h3, h4, h5⟩
    · go_enter Tryz.func44, Tryz.ntmps44
      go_wp2_with fail
      go_ret
      exact ⟨rfl, ((Ext.refl w).alloc _).alloc _⟩
    · go_enter Tryz.func44, Tryz.ntmps44
      go_wp2_with fail
      go_ret
      exact ⟨rfl, ((Ext.refl w).alloc _).alloc _⟩
    · go_enter Tryz.func44, Tryz.ntmps44
      go_wp2_with fail
      all_goals first
        | (go_ret; exact ⟨rfl, ((Ext.refl w).alloc _).alloc _⟩)
        | (exfalso; rcases ‹(kd != 1) = false ∨ (kd != 2) = false› with h | h <;> simp at h <;> omega)

end Go.Proofs.YtjimgkefacnamaaGreatDoor

/- When an object is valid: by phases. The row of owners. -/
namespace Go.Proofs.YtjimgkefacnamaaGreatDoor
open Go.RowKit Go.Maps Go.ChangeMaps
set_option linter.unusedVariables false

def chk (b : Bool) : Int := if b then 0 else 1
theorem chk_len {o : C.Obj} (h : ¬ (o.1.length ≤ 128 ∧ o.2.length ≤ 128)) : chk (C.checkB okN o) = 1 := by
  unfold C.checkB
  rw [decide_eq_false h]
  rfl
theorem chk_names {o : C.Obj} (h : C.namesB okN o.1 = false) : chk (C.checkB okN o) = 1 := by
  unfold C.checkB
  rw [h, Bool.and_false]
  rfl
theorem chk_sym {o : C.Obj} {k : Nat} (hk : k < o.1.length) (h : C.symB o.2.length o.1[k] = false) : chk (C.checkB okN o) = 1 := by
  have : o.1.all (C.symB o.2.length) = false := by
    rw [Bool.eq_false_iff]
    intro h'
    rw [List.all_eq_true] at h'
    rw [h' _ (List.getElem_mem hk)] at h
    cases h
  unfold C.checkB
  rw [this, Bool.and_false]
  rfl
theorem chk_own {o : C.Obj} {i : Nat} (hi : i < o.2.length) (h : ¬ (C.own o.1 i = 1 ∧ C.secB o.1 o.2[i] = true)) : chk (C.checkB okN o) = 1 := by
  have : C.ownedB o = false := by
    rw [Bool.eq_false_iff]
    intro h'
    exact h ((C.ownedB_iff o).1 h' i hi)
  unfold C.checkB
  rw [this, Bool.and_false]
  rfl
/-- The first k symbols fit n sections; the first k sections are right. -/
def symTo (l : List C.Sym) (n k : Nat) : Prop := ∀ i (h : i < l.length), i < k → C.symB n l[i] = true
def secTo (o : C.Obj) (k : Nat) : Prop := ∀ i (h : i < o.2.length), i < k → C.own o.1 i = 1 ∧ C.secB o.1 o.2[i] = true
theorem symTo_succ {l : List C.Sym} {n k : Nat} (h : symTo l n k) (hk : k < l.length) (h1 : C.symB n l[k] = true) : symTo l n (k + 1) := by
  intro i hi hik
  by_cases e : i = k
  · subst e; exact h1
  · exact h i hi (by omega)
theorem secTo_succ {o : C.Obj} {k : Nat} (h : secTo o k) (hk : k < o.2.length) (h1 : C.own o.1 k = 1) (h2 : C.secB o.1 o.2[k] = true) : secTo o (k + 1) := by
  intro i hi hik
  by_cases e : i = k
  · subst e; exact ⟨h1, h2⟩
  · exact h i hi (by omega)
theorem chk_end {o : C.Obj} (h1 : o.1.length ≤ 128) (h2 : o.2.length ≤ 128) (h3 : C.namesB okN o.1 = true) (h4 : symTo o.1 o.2.length o.1.length) (h5 : secTo o o.2.length) : chk (C.checkB okN o) = 0 := by
  unfold C.checkB
  rw [decide_eq_true (show _ ∧ _ from ⟨h1, h2⟩), h3, List.all_eq_true.2 fun s hs => by obtain ⟨i, hi, rfl⟩ := List.getElem_of_mem hs; exact h4 i hi hi, (C.ownedB_iff o).2 fun i hi => h5 i hi hi]
  rfl

/-! ### The row of owners -/
theorem own_snoc (l : List C.Sym) (s : C.Sym) (i : Nat) : C.own (l ++ [s]) i = C.own l i + if s.2.2 = (i : Int) then 1 else 0 := by
  unfold C.own
  rw [List.filter_append, List.length_append]
  by_cases h : s.2.2 = (i : Int)
  · simp [h]
  · simp [h]
theorem own_le (l : List C.Sym) (i : Nat) : C.own l i ≤ l.length := List.length_filter_le _ _
def ownV (l : List C.Sym) (n : Nat) : List Value := (List.range n).map fun i => .int .i64 (C.own l i : Int)
theorem ownV_len (l : List C.Sym) (n : Nat) : (ownV l n).length = n := by simp [ownV]
theorem ownV_get (l : List C.Sym) {n i : Nat} (h : i < n) : (ownV l n)[i]? = some (.int .i64 (C.own l i : Int)) := by simp [ownV, h]
theorem ownV_zero (n : Nat) : ownV [] n = List.replicate n (.int .i64 0) := by
  refine List.ext_getElem? fun i => ?_
  by_cases h : i < n
  · rw [ownV_get [] h, List.getElem?_replicate, if_pos h]
    rfl
  · rw [List.getElem?_eq_none (by rw [ownV_len]; omega), List.getElem?_eq_none (by simp; omega)]
theorem ownV_other (l : List C.Sym) (s : C.Sym) (n : Nat) (h : s.2.2 < 0) : ownV (l ++ [s]) n = ownV l n := by
  unfold ownV
  refine List.map_congr_left fun i _ => ?_
  rw [own_snoc, if_neg (by omega), Nat.add_zero]
theorem ownV_set (l : List C.Sym) (s : C.Sym) (n : Nat) (h : 0 ≤ s.2.2) : ownV (l ++ [s]) n = (ownV l n).set s.2.2.toNat (.int .i64 ((C.own l s.2.2.toNat : Int) + 1)) := by
  refine List.ext_getElem? fun i => ?_
  by_cases hi : i < n
  · rw [ownV_get _ hi, List.getElem?_set, own_snoc]
    by_cases e : s.2.2.toNat = i
    · rw [if_pos e, if_pos (show s.2.2 = (i : Int) by omega), if_pos (by rw [ownV_len]; omega), e]
      simp
    · rw [if_neg e, if_neg (by omega), ownV_get _ hi, Nat.add_zero]
  · rw [List.getElem?_eq_none (by rw [ownV_len]; omega), List.getElem?_eq_none (by rw [List.length_set, ownV_len]; omega)]

end Go.Proofs.YtjimgkefacnamaaGreatDoor

/- object.Check. -/
namespace Go.Proofs.YtjimgkefacnamaaGreatDoor
open Go.RowKit Go.Maps Go.ChangeMaps
set_option linter.unusedVariables false

theorem symB_no {n : Nat} {x : ByteArray} {m q : Int} (h : C.symB n (x, m, q) = false) : m < 0 ∨ m > 3 ∨ (0 ≤ m ∧ m ≤ 3 ∧ q < -1) ∨ (0 ≤ m ∧ m ≤ 3 ∧ q ≥ (n : Int)) ∨ (m = 3 ∧ 0 ≤ q ∧ q < n) ∨ (m = 1 ∧ q = -1) ∨ (m = 2 ∧ q = -1) := by
  unfold C.symB at h
  simp at h
  by_cases h1 : 0 ≤ m ∧ m ≤ 3
  · by_cases h2 : -1 ≤ q ∧ q < (n : Int)
    · have := h h1.1 h1.2 h2.1 h2.2
      by_cases h3 : m = 3 ∧ 0 ≤ q
      · exact Or.inr (Or.inr (Or.inr (Or.inr (Or.inl ⟨h3.1, h3.2, h2.2⟩))))
      · have h4 := this (by omega)
        omega
    · omega
  · omega
theorem symB_yes {n : Nat} {x : ByteArray} {m q : Int} (h : C.symB n (x, m, q) = true) : (0 ≤ m ∧ m < 3 ∧ 0 ≤ q ∧ q < (n : Int)) ∨ (m = 0 ∧ q = -1) ∨ (m = 3 ∧ q = -1) := by
  unfold C.symB at h
  simp at h
  omega

theorem ownsRow_ext {w w' : World} {base size n : Nat} {e : TypeId} {v : Value} {xs : List Value} (h : w.ownsRow base e size v n xs) (he : Ext w w') : w'.ownsRow base e size v n xs := by
  obtain ⟨h1, h2 | ⟨g, cap, cur, rfl, hb, hg, r⟩⟩ := h
  · exact ⟨h1, .inl h2⟩
  · refine ⟨h1, .inr ⟨g, cap, cur, rfl, hb, (he.block g ?_).trans hg, r⟩⟩
    rcases Nat.lt_or_ge g w.heap.size with h' | h'
    · exact h'
    · rw [Array.getElem?_eq_none h'] at hg; cases hg
/-- The cells of section k. -/
theorem sec_get {w : World} {A : Option Addr} {c k : Nat} {l : List C.Sec} (h : SliceAt secR w (Old w) A c l) (hk : k < l.length) :
    ∃ b off kd d rs A2 c2, A = some ⟨b, off, none⟩ ∧ l[k] = (kd, d, rs) ∧ (Lit.int .i64 kd).wf = true ∧ d.size ≤ 9223372036854775807 ∧ SliceAt relR w (Old w) A2 c2 rs ∧
      ∀ w', Ext w w' → w'.cell? ⟨b, off + k * 3, none⟩ = some (.int .i64 kd) ∧ w'.cell? ⟨b, off + k * 3 + 1, none⟩ = some (.string d) ∧ w'.cell? ⟨b, off + k * 3 + 1 + 1, none⟩ = some (.slice A2 rs.length c2) := by
  obtain ⟨b, off, rfl, _, hr⟩ := h.2.2 (by intro h; rw [h] at hk; simp at hk)
  obtain ⟨us, ⟨x, y, rfl, ⟨rfl, hm⟩, x2, y2, rfl, ⟨rfl, hd⟩, A2, c2, rfl, hs⟩, hc⟩ := hr k hk
  exact ⟨b, off, l[k].1, l[k].2.1, l[k].2.2, A2, c2, rfl, rfl, hm, hd, hs, fun w' h' => ⟨h'.keepc (hc 0 _ rfl), h'.keepc (hc 1 _ rfl), h'.keepc (hc 2 _ rfl)⟩⟩

set_option maxRecDepth 8000 in
set_option maxHeartbeats 4000000 in
theorem Check_any (o : C.Obj) (SA SB : Option Addr) (sc sd sn sm : Nat) (w : World) (hsn : sn = o.1.length) (hS : SliceAt symR w (Old w) SA sc o.1) (hsm : sm = o.2.length) (hT : SliceAt secR w (Old w) SB sd o.2) (hs : ∀ s ∈ o.1, s.1.size ≤ 9000000) :
    Calls Tryz.prog 14 #[.agg #[.slice SA sn sc, .slice SB sm sd]] w (Al (.int .i64 (chk (C.checkB okN o))) w) := by
  have hsm2 : sm ≤ 9223372036854775807 := by have := hT.1; have := hT.2.1; omega
  have hsn2 : sn ≤ 9223372036854775807 := by have := hS.1; have := hS.2.1; omega
  have FL := Lib.hid (@chk_len o)
  have FN := Lib.hid (@chk_names o)
  have FS := Lib.hid (fun k => @chk_sym o k)
  have FO := Lib.hid (fun k => @chk_own o k)
  have FE := Lib.hid (@chk_end o)
  generalize chk (C.checkB okN o) = R at FL FN FS FO FE ⊢
  by_cases h1 : sn ≤ 128
  · by_cases h2 : sm ≤ 128
    · have HI := Lib.hid (fun w' (h : Ext w w') => index_any o.1 SA SB sc sd sn sm w' hsn (hS.ext h) hs (by omega))
      have HSN := Lib.hid hsn
      have HSM := Lib.hid hsm
      have HS := Lib.hid hS
      have HT := Lib.hid hT
      have h1' : (sn : Int) ≤ 128 := by omega
      have h2' : (sm : Int) ≤ 128 := by omega
      clear hsn hsm hS hT h1 h2
      go_enter Tryz.func14, Tryz.ntmps14
      go_wp2_with fail
      refine (HI.out _ ((Ext.refl w).alloc _)).mono ?_
      rintro e w1 ⟨d1, hh⟩
      have HW1 : Hid (Ext w w1) := ((Ext.refl w).alloc _).trans d1
      rcases hh with ⟨hb, rfl⟩ | ⟨hb, b, hbs, rfl, hmt⟩
      · have HR := Lib.hid (FN.out hb)
        clear hb
        go_wp2_with fail
        go_ret
        exact ⟨by rw [HR.out]; rfl, HW1.out⟩
      · have b0 : w1.cell? ⟨w.heap.size, 0, none⟩ = some (.slice SA sn sc) := d1.keepc (cell_new w #[.slice SA sn sc, .slice SB sm sd] 25 0)
        have b1 : w1.cell? ⟨w.heap.size, 1, none⟩ = some (.slice SB sm sd) := d1.keepc (cell_new w #[.slice SA sn sc, .slice SB sm sd] 25 1)
        go_wp2_with (at_make; (refine wpList_make_full _ rfl _ _ 94 rfl w1.heap.size 3 _ _ 1 rfl rfl rfl rfl .i64 .i64 _ _ sm rfl rfl rfl rfl (by show 8 * sm ≤ 281474976710656; omega) (by unfold maxLen; omega) (Nat.le_refl _) ?_); intro w2 hown hgrow; have e12 : Ext w1 w2 := Below.grown (Ext.refl w1) hgrow (Nat.le_refl _) (fun k hk => by cases hk); have b0' := e12.keepc b0; have b1' := e12.keepc b1)
        have hz0 : (madeCells (Value.int IntKind.i64 0).cells (sm * 1)).toList = ownV (o.1.take 0) sm := by
          rw [List.take_zero, ownV_zero, Nat.mul_one]
          exact toList_madeCells_one _ _
        rw [hz0] at hown
        have HST := Lib.hid (show symTo o.1 o.2.length 0 ∧ w2.ownsRow w1.heap.size 3 1 (.slice (some ⟨w1.heap.size, 0, none⟩) sm sm) sm (ownV (o.1.take 0) sm) ∧ Ext w1 w2 from ⟨fun _ _ h => absurd h (Nat.not_lt_zero _), hown, e12⟩)
        clear hz0 hown hgrow b0' b1'
        go_loopw [34] (fun i wr => ∃ k : Nat, k ≤ sn ∧ i = .int .i64 k ∧ Hid (symTo o.1 o.2.length k ∧ wr.ownsRow w1.heap.size 3 1 (.slice (some ⟨w1.heap.size, 0, none⟩) sm sm) sm (ownV (o.1.take k) sm) ∧ Ext w1 wr)) (fun i _ => sn - (intOf i).toNat)
        case atStart => exact ⟨0, Nat.zero_le _, rfl, HST.out⟩
        case round =>
          obtain ⟨k, hk, rfl, HK⟩ := hrel
          by_cases hlt : k < sn
          · have hkz : k < o.1.length := by rw [← HSN.out]; exact hlt
            obtain ⟨bb, off, s, md, q, rfl, hg, hs1, hwm, hwq, hc⟩ := sym_get HS.out hkz
            have hgk : o.1[k] = (s, md, q) := by rw [List.getElem?_eq_getElem hkz] at hg; simpa using hg
            obtain ⟨c1, c2, c3⟩ := hc wr (HW1.out.trans HK.out.2.2)
            have E1 : Ext wr (wr.alloc (.cells #[.string s, .int .i64 md, .int .i64 q] 29)) := (Ext.refl wr).alloc _
            have b0' := E1.keepc (HK.out.2.2.keepc b0)
            have b1' := E1.keepc (HK.out.2.2.keepc b1)
            have hfs := FS.out k hkz
            have hon := @symTo_succ o.1 o.2.length k HK.out.1 hkz
            rw [hgk, ← HSM.out] at hfs
            rw [hgk] at hon
            have HFS := Lib.hid hfs
            have HON := Lib.hid hon
            have HGK := Lib.hid hgk
            clear hc hg hgk hfs hon
            rcases Bool.eq_false_or_eq_true (C.symB sm (s, md, q)) with hy | hy
            · have H9 := Lib.hid (HON.out (by rw [← HSM.out]; exact hy))
              have hcs := symB_yes hy
              clear hy
              have htk : o.1.take (k + 1) = o.1.take k ++ [(s, md, q)] := by rw [List.take_succ_eq_append_getElem hkz, HGK.out]
              have HTK := Lib.hid htk
              have hown1 := HK.out.2.1.alloc (.cells #[.string s, .int .i64 md, .int .i64 q] 29)
              have HO1 := Lib.hid hown1
              clear htk
              rcases hcs with ⟨h3, h4, h5, h6⟩ | hcs
              · have hq : q.toNat < sm := by omega
                have hcell := (hown1.cellAt q.toNat (by omega)).trans (ownV_get _ hq)
                have hfz := hown1.frozenAt q.toNat
                have hst := fun u => hown1.stored q.toNat u
                have HS2 := Lib.hid hst
                have hle : C.own (o.1.take k) q.toNat ≤ 128 := by
                  have := own_le (o.1.take k) q.toNat
                  rw [List.length_take] at this
                  have := HSN.out
                  omega
                have hvs := ownV_set (o.1.take k) (s, md, q) sm h5
                have HVS := Lib.hid hvs
                clear hst hvs hown1
                go_wp2_with fail
                refine ⟨⟨k + 1, by omega, by go_num, H9.out, ?_, Ext.mapBlock (HK.out.2.2.alloc _) (Nat.le_refl _) (HS2.out _).2⟩, by simp [intOf]; omega⟩
                rw [HTK.out, HVS.out]
                exact (HS2.out _).1
              · have hvo := ownV_other (o.1.take k) (s, md, q) sm (show q < 0 by omega)
                have HVO := Lib.hid hvo
                clear hvo hown1
                rcases hcs with ⟨rfl, rfl⟩ | ⟨rfl, rfl⟩
                all_goals
                  go_wp2_with fail
                  refine ⟨⟨k + 1, by omega, by go_num, H9.out, ?_, HK.out.2.2.alloc _⟩, by simp [intOf]; omega⟩
                  rw [HTK.out, HVO.out]
                  exact HO1.out
            · have HR := Lib.hid (HFS.out hy)
              have hcs := symB_no hy
              clear hy
              rcases hcs with h3 | h3 | ⟨h3, h4, h5⟩ | ⟨h3, h4, h5⟩ | ⟨rfl, h4, h5⟩ | ⟨rfl, rfl⟩ | ⟨rfl, rfl⟩
              all_goals
                go_wp2_with fail
                go_ret
                exact ⟨by rw [HR.out]; rfl, (HW1.out.trans HK.out.2.2).alloc _⟩
          · have hkn : k = sn := by omega
            subst hkn
            have HST2 := Lib.hid (show secTo o 0 ∧ wr.ownsRow w1.heap.size 3 1 (.slice (some ⟨w1.heap.size, 0, none⟩) sm sm) sm (ownV o.1 sm) ∧ Ext w1 wr from ⟨fun _ _ h => absurd h (Nat.not_lt_zero _), by have := HK.out.2.1; rwa [List.take_of_length_le (by have := HSN.out; omega)] at this, HK.out.2.2⟩)
            have HY := Lib.hid (show symTo o.1 o.2.length o.1.length by have := HK.out.1; rwa [HSN.out] at this)
            have HMT := Lib.hid hmt
            have HNB := Lib.hid hb
            have b0' := HK.out.2.2.keepc b0
            have b1' := HK.out.2.2.keepc b1
            clear hmt hb
            go_wp2_with fail
            go_loopw [96] (fun i wr => ∃ j : Nat, j ≤ sm ∧ i = .int .i64 j ∧ Hid (secTo o j ∧ wr.ownsRow w1.heap.size 3 1 (.slice (some ⟨w1.heap.size, 0, none⟩) sm sm) sm (ownV o.1 sm) ∧ Ext w1 wr)) (fun i _ => sm - (intOf i).toNat)
            case atStart => exact ⟨0, Nat.zero_le _, rfl, HST2.out⟩
            case round =>
              obtain ⟨j, hj, rfl, HJ⟩ := hrel
              by_cases hjt : j < sm
              · have hjz : j < o.2.length := by rw [← HSM.out]; exact hjt
                obtain ⟨bb, off, kd, d, rs, A2, c2, rfl, hgk, hwk, hds, hrs, hc⟩ := sec_get HT.out hjz
                obtain ⟨nr, hnr⟩ : ∃ nr, nr = rs.length := ⟨_, rfl⟩
                rw [← hnr] at hc
                obtain ⟨c1, c2', c3⟩ := hc wr (HW1.out.trans HJ.out.2.2)
                have hSEC := fun w' (h : Ext w w') (h1 : Ext w1 w') => section_any o.1 kd d rs A2 c2 nr b w' hnr (hrs.ext h) (HMT.out.ext h1) hds hwk
                have hfo := FO.out j hjz
                have hon := @secTo_succ o j HJ.out.1 hjz
                rw [hgk] at hfo hon
                have HFO := Lib.hid hfo
                have HON := Lib.hid hon
                have HSEC := Lib.hid hSEC
                have hown1 := HJ.out.2.1.alloc (.cells #[.int .i64 kd, .string d, .slice A2 nr c2] 85)
                have hcell := (hown1.cellAt j (by omega)).trans (ownV_get _ hjt)
                have HO1 := Lib.hid hown1
                clear hfo hon hSEC hown1 hc hgk hrs hnr
                by_cases ho : C.own o.1 j = 1
                · rw [ho] at hcell
                  generalize C.secB o.1 (kd, d, rs) = sb at HFO HON HSEC
                  go_wp2_with fail
                  refine (HSEC.out _ ((HW1.out.trans HJ.out.2.2).alloc _) (HJ.out.2.2.alloc _)).mono ?_
                  rintro e w3 ⟨rfl, d3⟩
                  have HE3 := Lib.hid (show Ext w1 w3 from (HJ.out.2.2.alloc _).trans d3)
                  have HO3 := Lib.hid (ownsRow_ext HO1.out d3)
                  cases sb with
                  | false =>
                    have HR := Lib.hid (HFO.out (fun h => Bool.noConfusion h.2))
                    go_wp2_with fail
                    go_ret
                    exact ⟨by rw [HR.out]; rfl, HW1.out.trans HE3.out⟩
                  | true =>
                    have H9 := Lib.hid (HON.out ho rfl)
                    go_wp2_with fail
                    exact ⟨⟨j + 1, by omega, by go_num, H9.out, HO3.out, HE3.out⟩, by simp [intOf]; omega⟩
                · have HR := Lib.hid (HFO.out (fun h => ho h.1))
                  have ho' : (C.own o.1 j : Int) ≠ 1 := by omega
                  generalize (C.own o.1 j : Int) = ow at hcell ho'
                  clear ho
                  go_wp2_with fail
                  go_ret
                  exact ⟨by rw [HR.out]; rfl, (HW1.out.trans HJ.out.2.2).alloc _⟩
              · have hkn : j = sm := by omega
                have HR := Lib.hid (FE.out (by have := HSN.out; omega) (by have := HSM.out; omega) HNB.out HY.out (by have := HJ.out.1; rw [hkn, HSM.out] at this; exact this))
                go_wp2_with fail
                go_ret
                exact ⟨by rw [HR.out]; rfl, HW1.out.trans HJ.out.2.2⟩
    · have HR := Lib.hid (FL.out (fun h => h2 (by omega)))
      have h1' : (sn : Int) ≤ 128 := by omega
      have h2' : (sm : Int) > 128 := by omega
      clear hsn hsm hS hT h1 h2
      go_enter Tryz.func14, Tryz.ntmps14
      go_wp2_with fail
      go_ret
      exact ⟨by rw [HR.out]; rfl, (Ext.refl w).alloc _⟩
  · have HR := Lib.hid (FL.out (fun h => h1 (by omega)))
    have h1' : (sn : Int) > 128 := by omega
    clear hsn hsm hS hT h1
    go_enter Tryz.func14, Tryz.ntmps14
    go_wp2_with fail
    go_ret
    exact ⟨by rw [HR.out]; rfl, (Ext.refl w).alloc _⟩

end Go.Proofs.YtjimgkefacnamaaGreatDoor
