/- The texts Fi Kj Kk Ki Fl Kb Xa Ke Kf of the seat, joined. -/
import Derived.Test.YtkeaoejgboefbaaGreatDoorG13
import Derived.Deep.Upon
import Derived.Lib.SliceRun
import Derived.BigQuiet
/- Lists of files. -/
namespace Go.Proofs.YtkeaoejgboefbaaGreatDoor
open Go.RowKit


/-- A file: path, data. -/
def fileR : Rep T.File := prodR strR strR
theorem fileR_size : fileR.size = 2 := rfl
theorem fileR_is {w : World} {B : Nat → Prop} {f : T.File} {us : List Value} (h : fileR.is w B f us) : us = [.string f.1, .string f.2] ∧ f.1.size ≤ 9223372036854775807 ∧ f.2.size ≤ 9223372036854775807 := by
  obtain ⟨x, y, rfl, ⟨rfl, h1⟩, ⟨rfl, h2⟩⟩ := h
  exact ⟨rfl, h1, h2⟩
/-- File k's cells. -/
theorem file_get {w : World} {B : Nat → Prop} {A : Option Addr} {c : Nat} {t : T.Tr} (h : SliceAt fileR w B A c t) {k : Nat} (hk : k < t.length) :
    ∃ b off, A = some ⟨b, off, none⟩ ∧ B b ∧ w.cell? ⟨b, off + k * 2, none⟩ = some (.string t[k].1) ∧ w.cell? ⟨b, off + (k * 2 + 1), none⟩ = some (.string t[k].2) ∧ t[k].1.size ≤ 9223372036854775807 ∧ t[k].2.size ≤ 9223372036854775807 := by
  obtain ⟨_, _, h3⟩ := h
  obtain ⟨b, off, hA, hb, hr⟩ := h3 (by intro e; rw [e] at hk; exact absurd hk (Nat.not_lt_zero _))
  obtain ⟨us, hu, hc⟩ := hr k hk
  obtain ⟨rfl, h1, h2⟩ := fileR_is hu
  exact ⟨b, off, hA, hb, hc 0 _ rfl, hc 1 _ rfl, h1, h2⟩

def fcells (l : T.Tr) : List Value := l.flatMap fun p => [.string p.1, .string p.2]
theorem fcells_len : ∀ l : T.Tr, (fcells l).length = l.length * 2
  | [] => rfl
  | p :: l => by
    have := fcells_len l
    unfold fcells at *
    rw [List.flatMap_cons, List.length_append, this, List.length_cons]
    simp
    omega
theorem fcells_append (l m : T.Tr) : fcells (l ++ m) = fcells l ++ fcells m := by unfold fcells; exact List.flatMap_append
theorem fcells_one (l : T.Tr) : ∀ u ∈ fcells l, u.oneCell' = true := by
  intro u hu
  obtain ⟨p, _, hp⟩ := List.mem_flatMap.1 hu
  simp at hp
  rcases hp with rfl | rfl <;> rfl
theorem fcells_get : ∀ (l : T.Tr) (j : Nat) (h : j < l.length), (fcells l)[j * 2]? = some (.string l[j].1) ∧ (fcells l)[j * 2 + 1]? = some (.string l[j].2)
  | p :: l, 0, _ => by simp [fcells]
  | p :: l, j + 1, h => by
    have := fcells_get l j (by simpa using h)
    rw [show (p :: l)[j + 1] = l[j]'(by simpa using h) from rfl]
    have e : fcells (p :: l) = [.string p.1, .string p.2] ++ fcells l := rfl
    rw [e, List.getElem?_append_right (by simp; omega), List.getElem?_append_right (by simp; omega)]
    simp only [List.length_cons, List.length_nil]
    rw [show (j + 1) * 2 - (0 + 1 + 1) = j * 2 by omega, show (j + 1) * 2 + 1 - (0 + 1 + 1) = j * 2 + 1 by omega]
    exact this
def OwnFiles (w : World) (base : Nat) (v : Value) (l : T.Tr) : Prop := OwnAt w base 57 2 v l.length (fcells l)
theorem file_info : (Tryz.prog.info? 57).map (fun i => (i.zero, i.size, i.bytes)) = some (some (.agg #[.string ⟨#[]⟩, .string ⟨#[]⟩]), 2, 32) := by kernel_rfl
theorem cells_new_file (w : World) (x y : ByteArray) : ∀ j u, (fcells [(x, y)])[j]? = some u → (w.alloc (.cells #[.string x, .string y] 57)).cell? ((⟨w.heap.size, 0, none⟩ : Addr).add j) = some u := by
  intro j u hj
  rw [Addr.add_lit, Nat.zero_add, cell_new, ← hj]
  simp [fcells]
theorem cells_file_at (w : World) (g : Nat) (x y : ByteArray) (hg : g = w.heap.size) : ∀ j u, (fcells [(x, y)])[j]? = some u → (w.alloc (.cells #[.string x, .string y] 57)).cell? ((⟨g, 0, none⟩ : Addr).add j) = some u := by
  subst hg
  exact cells_new_file w x y
theorem own_files_nil (w : World) (b : Nat) : OwnFiles w b (.slice none 0 0) [] := OwnAt.nil _ _ _ _
theorem own_files_snoc {w : World} {base : Nat} {v : Value} {l : T.Tr} {x y : ByteArray} {n : Nat} (hn : n = l.length) (h : OwnAt w base 57 2 v (n + 1) (fcells l ++ fcells [(x, y)])) : OwnFiles w base v (l ++ [(x, y)]) := by
  subst hn
  unfold OwnFiles
  rw [List.length_append, fcells_append]
  exact h
/-- Strings that a machine can hold. -/
def SzF (l : T.Tr) : Prop := ∀ f ∈ l, f.1.size ≤ 9223372036854775807 ∧ f.2.size ≤ 9223372036854775807
theorem SzF.of_slice {w : World} {B : Nat → Prop} {A : Option Addr} {c : Nat} {t : T.Tr} (h : SliceAt fileR w B A c t) : SzF t := by
  intro f hf
  obtain ⟨k, hk, rfl⟩ := List.getElem_of_mem hf
  obtain ⟨_, _, _, _, _, _, h1, h2⟩ := file_get h hk
  exact ⟨h1, h2⟩
theorem own_files_form {w : World} {base n : Nat} {v : Value} {xs : List Value} (h : OwnAt w base 57 2 v n xs) : ∃ A c, v = .slice A n c ∧ n ≤ c ∧ c ≤ 9223372036854775807 := by
  obtain ⟨_, ⟨rfl, rfl⟩ | ⟨g, off, cap, cur, rfl, _, _, h1, h2, _⟩⟩ := h
  · exact ⟨none, 0, rfl, Nat.le_refl _, by decide⟩
  · exact ⟨_, cap, rfl, h1, h2⟩
theorem own_files_slice {w : World} {base : Nat} {v : Value} {l : T.Tr} (h : OwnFiles w base v l) (hz : SzF l) : ∃ A c, v = .slice A l.length c ∧ SliceAt fileR w (Old w) A c l := by
  rcases Nat.eq_zero_or_pos l.length with h0 | h0
  · have hl : l = [] := List.eq_nil_of_length_eq_zero h0
    subst hl
    obtain ⟨A, c, rfl, h1, h2⟩ := own_files_form h
    exact ⟨A, c, rfl, SliceAt.nil _ _ _ _ _ h2⟩
  · obtain ⟨g, off, cap, rfl, hb, hlt, hnc, hcap, hc⟩ := OwnAt.cells h h0
    refine ⟨_, cap, rfl, hnc, hcap, fun _ => ⟨g, off, rfl, hlt, fun i hi => ⟨[.string l[i].1, .string l[i].2], ⟨[.string l[i].1], [.string l[i].2], rfl, ⟨rfl, (hz _ (List.getElem_mem hi)).1⟩, ⟨rfl, (hz _ (List.getElem_mem hi)).2⟩⟩, fun j u hj => ?_⟩⟩⟩
    have hg := fcells_get l i hi
    match j with
    | 0 => simp at hj; subst hj; exact hc _ _ hg.1
    | 1 => simp at hj; subst hj; exact hc _ _ hg.2
    | j + 2 => simp at hj
theorem own_files_q {w : World} {base : Nat} {v : Value} {l : T.Tr} (h : OwnFiles w base v l) : ∃ q A c, q = l.length ∧ v = .slice A q c ∧ OwnAt w base 57 2 (.slice A q c) q (fcells l) := by
  obtain ⟨A, c, rfl, _, _⟩ := own_files_form h
  exact ⟨l.length, A, c, rfl, rfl, h⟩
/-- A tree and an error come back. -/
def RetTr (w : World) (r : T.Tr × Int) (e : Ending) (w' : World) : Prop := ∃ v, e = .returned (.tuple #[v, .int .i64 r.2]) ∧ OwnFiles w' w.heap.size v r.1 ∧ Ext w w'
/-- A tree comes back. -/
def RetT (w : World) (r : T.Tr) (e : Ending) (w' : World) : Prop := ∃ v, e = .returned v ∧ OwnFiles w' w.heap.size v r ∧ Ext w w'
theorem wpList_wanted {P : Program} {ops : Array Oper} {rest : List Oper} {o : Oper} {a : Act} {w : World} {Q : Exit → Act → World → Prop} (hw : Region.wanted o (yielded ops a.tmps) = true) (h : o.wp P a w (wpList P ops Q rest) Q) : wpList P ops Q (o :: rest) a w := by
  unfold wpList
  rw [if_pos hw]
  exact .inl h
theorem files_cells {w : World} {B : Nat → Prop} {A : Option Addr} {c : Nat} {y : T.Tr} (hy : SliceAt fileR w B A c y) (hn : y ≠ []) : ∃ b off, A = some ⟨b, off, none⟩ ∧ B b ∧ ∀ j u, (fcells y)[j]? = some u → w.cell? ((⟨b, off, none⟩ : Addr).add j) = some u := by
  obtain ⟨b, off, hA, hb, hr⟩ := hy.2.2 hn
  refine ⟨b, off, hA, hb, fun j u hj => ?_⟩
  rw [Addr.add_lit]
  have hjl : j < y.length * 2 := by
    rcases Nat.lt_or_ge j (fcells y).length with h | h
    · rwa [fcells_len] at h
    · rw [List.getElem?_eq_none h] at hj; cases hj
  obtain ⟨b', off', hA', _, h1, h2, _, _⟩ := file_get hy (k := j / 2) (by omega)
  have hA'' := hA.symm.trans hA'
  simp only [Option.some.injEq, Addr.mk.injEq] at hA''
  obtain ⟨rfl, rfl, _⟩ := hA''
  have h3 := fcells_get y (j / 2) (by omega)
  rcases Nat.mod_two_eq_zero_or_one j with e | e
  · have e2 : j / 2 * 2 = j := by omega
    rw [e2] at h1 h3
    rw [h3.1] at hj
    cases hj
    exact h1
  · have e2 : j / 2 * 2 + 1 = j := by omega
    rw [e2] at h2 h3
    rw [h3.2] at hj
    cases hj
    exact h2
/-- append(v, y...) of files, none too. -/
theorem wpList_append_files {ops : Array Oper} {rest : List Oper} {o : Oper} {a : Act} {w : World} {Q : Exit → Act → World → Prop} (hw : Region.wanted o (yielded ops a.tmps) = true) (s x : Operand)
    (ho : o.op = .call { callee := .builtin .append, args := #[s, x], argTypes := #[34, 34] })
    (base : Nat) (v : Value) (l y : T.Tr) (hs : a.eval s = v) (hown : OwnFiles w base v l) (A : Option Addr) (m c : Nat) (hx : a.eval x = .slice A m c) (hm1 : m = y.length) (B : Nat → Prop) (hy : SliceAt fileR w B A c y)
    (h63 : l.length + y.length ≤ 1000) (hbase : base ≤ w.heap.size)
    (h : ∀ v' w', OwnFiles w' base v' (l ++ y) → Below base w w' → wpList Tryz.prog ops Q rest (a.put o.dst v') w') : wpList Tryz.prog ops Q (o :: rest) a w := by
  obtain ⟨i0, hi, hz0, hz1, hz2⟩ := info_parts file_info
  refine wpList_wanted hw ?_
  by_cases hm : y = []
  · subst hm
    have hm0 : m = 0 := hm1
    subst hm0
    have hsrc : Src Tryz.prog i0.size 34 (.slice A 0 c) 0 [] w := by
      cases A with
      | none => exact Src.ofNil w Tryz.underlying34 c
      | some ad => exact Src.ofSlice w Tryz.underlying34 ad 0 c [] (by simp) (fun j u hj => by simp at hj) (fun u hu => by simp at hu)
    have hrun : ∃ (b : Option Addr) (n cp : Nat), v = .slice b n cp ∧ n ≤ cp := by
      obtain ⟨A', c', rfl, h1, _⟩ := own_files_form hown
      exact ⟨_, _, _, rfl, h1⟩
    obtain ⟨b, n, cp, rfl, hle⟩ := hrun
    have hr := run_append_nothing (P := Tryz.prog) w 34 34 o.type 57 i0 Tryz.underlying34 hi b n cp hle _ hsrc
    unfold Oper.wp execOp
    simp only [ho, resolve, invoke, builtin, Sem.run_bind, Sem.run_pure, Result.andThen_ok, List.map_toArray, List.map_cons, List.map_nil, hs, hx, hr]
    exact h _ _ (by rw [List.append_nil]; exact hown) (Below.refl _ _)
  · have hpos : 0 < y.length := List.length_pos_iff.2 hm
    obtain ⟨b, off, rfl, _, hcc⟩ := files_cells hy hm
    subst hm1
    refine wp_append_ownAt w s x 34 ho base 57 i0 (.agg #[.string ⟨#[]⟩, .string ⟨#[]⟩]) 2 32 Tryz.underlying34 hi hz0 hz1 hz2 rfl (by decide) v l.length (fcells l) hs hown ⟨b, off, none⟩ y.length c (fcells y) hx (fcells_len y) hcc (fcells_one y) (by unfold maxLen; omega) (by omega) hbase hpos ?_
    intro v' w' h2 h3 _ _
    refine h v' w' ?_ ?_
    · unfold OwnFiles
      rw [fcells_append, List.length_append]
      exact h2
    · refine Below.grown (Below.refl _ _) h3 hbase fun k hk => ?_
      exact own_apart hown hk
theorem own_files_empty (w : World) (g : Nat) (hg : g = w.heap.size) : OwnFiles (w.alloc (.cells #[] 57)) w.heap.size (.slice (some ⟨g, 0, none⟩) 0 0) [] := by
  subst hg
  exact ⟨by simp [fcells], .inr ⟨w.heap.size, 0, 0, #[], rfl, Nat.le_refl _, heap_alloc_new _ _, Nat.le_refl _, by omega, by simp, fun j hj => by simp at hj⟩⟩
set_option maxRecDepth 8000 in
theorem CloneF_any (t : T.Tr) (A : Option Addr) (c n : Nat) (w : World) (hn : n = t.length) (hA : SliceAt fileR w (Old w) A c t) (hl : n ≤ 1000) : Calls Tryz.prog 19 #[.slice A n c] w (RetT w t) := by
  have HN := Lib.hid hn
  have HA := Lib.hid hA
  have HL := Lib.hid hl
  clear hl
  cases A with
  | none =>
    have ht : t = [] := by
      by_cases h : t = []
      · exact h
      · obtain ⟨b, off, e, _⟩ := hA.2.2 h; cases e
    subst ht
    obtain rfl : n = 0 := hn
    clear hA
    have q23 : ∀ W : World, (binOp .eql 34 (.slice none 0 c) (.slice none 0 0)).run Tryz.prog W = .ok (.bool true) W := fun W => Lib.run_eql_slice_nil W _ _ none 0 c 0 0 Tryz.underlying34
    go_enter Tryz.func19, Tryz.ntmps19
    go_wp2_with fail
    go_ret
    exact ⟨_, rfl, own_files_nil _ _, Ext.refl _⟩
  | some ad =>
    obtain ⟨b, off, sp⟩ := ad
    clear hA hn
    have q23 : ∀ W : World, (binOp .eql 34 (.slice (some ⟨b, off, sp⟩) n c) (.slice none 0 0)).run Tryz.prog W = .ok (.bool false) W := fun W => Lib.run_eql_slice_nil W _ _ (some ⟨b, off, sp⟩) n c 0 0 Tryz.underlying34
    go_enter Tryz.func19, Tryz.ntmps19
    go_wp2_with (at_builtin; refine wpList_append_files rfl (.tmp 5) (.tmp 6) rfl w.heap.size _ [] t rfl (own_files_empty w _ rfl) _ n c rfl HN.out _ (HA.out.ext ((Ext.refl w).alloc _)) (by have := HL.out; have := HN.out; simp; omega) (by simp) ?_; intro v' w' hown hb)
    go_ret
    exact ⟨_, rfl, hown, Below.trans ((Ext.refl w).alloc (.cells #[] 57)) hb⟩

def idxI (o : Option Nat) : Int := match o with | some i => i | none => -1
def noQ (q : T.File → Bool) (t : T.Tr) (k : Nat) : Prop := ∀ i (h : i < t.length), i < k → q t[i] = false
theorem noQ_succ {q : T.File → Bool} {t : T.Tr} {k : Nat} (h : noQ q t k) (hk : k < t.length) (h1 : q t[k] = false) : noQ q t (k + 1) := by
  intro i hi hik
  by_cases e : i = k
  · subst e; exact h1
  · exact h i hi (by omega)
theorem noQ_at {q : T.File → Bool} {t : T.Tr} {k : Nat} (h : noQ q t k) (hk : k < t.length) (h1 : q t[k] = true) : t.findIdx? q = some k := by
  rw [List.findIdx?_eq_some_iff_getElem]
  exact ⟨hk, h1, fun j hj => by rw [h j (by omega) hj]; exact Bool.false_ne_true⟩
theorem noQ_end {q : T.File → Bool} {t : T.Tr} (h : noQ q t t.length) : t.findIdx? q = none := by
  rw [List.findIdx?_eq_none_iff]
  intro x hx
  obtain ⟨i, hi, rfl⟩ := List.getElem_of_mem hx
  exact h i hi hi
set_option maxRecDepth 8000 in
set_option maxHeartbeats 2000000 in
theorem IndexFunc_gen (q : T.File → Bool) (g bp : Nat) (eg : ∀ (args : Array Value) (w : World), (callFunc g args).run Tryz.prog w = .ok (.enter g args) w) (t : T.Tr) (A : Option Addr) (c n : Nat) (w : World) (hn : n = t.length) (hA : SliceAt fileR w (Old w) A c t)
    (hc : ∀ f ∈ t, ∀ W, Ext w W → Calls Tryz.prog g #[.agg #[.string f.1, .string f.2], .pointer (some ⟨bp, 0, none⟩)] W (Al (.bool (q f)) W)) :
    Calls Tryz.prog 22 #[.slice A n c, .func (.func g) #[] #[.pointer (some ⟨bp, 0, none⟩)]] w (Al (.int .i64 (idxI (t.findIdx? q))) w) := by
  have hn2 : n ≤ 9223372036854775807 := by have := hA.1; have := hA.2.1; omega
  have HN := Lib.hid hn
  have HA := Lib.hid hA
  obtain ⟨R, hR⟩ : ∃ R, R = idxI (t.findIdx? q) := ⟨_, rfl⟩
  rw [← hR]
  have HR := Lib.hid hR
  have HC1 := Lib.hid hc
  clear hn hA hc hR
  go_enter Tryz.func22, Tryz.ntmps22
  go_wp2_with fail
  go_loopw [5, 8] (fun _ i wr => ∃ k : Nat, k ≤ n ∧ i = .int .i64 k ∧ Hid (noQ q t k ∧ Ext w wr)) (fun _ i _ => n - (intOf i).toNat)
  case atStart => exact ⟨0, Nat.zero_le _, rfl, fun _ _ h => absurd h (Nat.not_lt_zero _), Ext.refl w⟩
  case round =>
    obtain ⟨k, hk, rfl, HK⟩ := hrel
    by_cases hlt : k < n
    · have hkl : k < t.length := by rw [← HN.out]; exact hlt
      obtain ⟨b, off, hAe, hb, c0, c1, h1, h2⟩ := file_get (HA.out.ext HK.out.2) hkl
      subst hAe
      rw [← Nat.add_assoc] at c1
      have HY : Hid (q t[k] = true → R = (k : Int)) := fun he => by rw [HR.out, noQ_at HK.out.1 hkl he]; rfl
      have HNO : Hid (q t[k] = false → noQ q t (k + 1)) := fun he => noQ_succ HK.out.1 hkl he
      have HX := Lib.hid HK.out.2
      have HCALL := Lib.hid (HC1.out t[k] (List.getElem_mem hkl) wr HK.out.2)
      clear HK
      generalize t[k] = f at *
      obtain ⟨fp, fd⟩ := f
      simp only at c0 c1 h1 h2
      generalize q (fp, fd) = bb at HY HNO HCALL
      cases bb
      · have HQ := Lib.hid (HNO.out rfl)
        have HC : Hid (Calls Tryz.prog g #[.agg #[.string fp, .string fd], .pointer (some ⟨bp, 0, none⟩)] wr (Al (.bool false) wr)) := HCALL
        clear HCALL HY HNO
        go_wp2_with (go_at_fn g; refine HC.out.mono ?_; rintro e w1 ⟨rfl, d1⟩)
        go_roundw
        case rel => exact ⟨k + 1, by omega, by go_num, HQ.out, HX.out.trans d1⟩
        case measure => simp [intOf]; omega
      · have HQ := Lib.hid (HY.out rfl)
        have HC : Hid (Calls Tryz.prog g #[.agg #[.string fp, .string fd], .pointer (some ⟨bp, 0, none⟩)] wr (Al (.bool true) wr)) := HCALL
        clear HCALL HY HNO
        go_wp2_with (go_at_fn g; refine HC.out.mono ?_; rintro e w1 ⟨rfl, d1⟩)
        go_ret
        exact ⟨by rw [HQ.out]; rfl, HX.out.trans d1⟩
    · have HQ : Hid (R = -1) := by
        unfold Hid
        have h1 : noQ q t t.length := by
          have := HK.out.1
          rwa [show k = t.length by have := HN.out; omega] at this
        rw [HR.out, noQ_end h1]
        rfl
      have HX := Lib.hid HK.out.2
      have hdk : decide (k < n) = false := decide_eq_false hlt
      clear HK hk
      go_wp2_with fail
      go_ret
      exact ⟨by rw [HQ.out]; rfl, HX.out⟩
theorem idxI_any (q : T.File → Bool) (t : T.Tr) : decide (0 ≤ idxI (t.findIdx? q)) = t.any q := by
  cases h : t.findIdx? q with
  | none =>
    rw [List.findIdx?_eq_none_iff] at h
    have : t.any q = false := by rw [List.any_eq_false]; intro x hx; rw [h x hx]; exact Bool.false_ne_true
    rw [this]
    rfl
  | some i =>
    rw [List.findIdx?_eq_some_iff_getElem] at h
    obtain ⟨hi, h1, _⟩ := h
    have : t.any q = true := by rw [List.any_eq_true]; exact ⟨_, List.getElem_mem hi, h1⟩
    rw [this]
    simp [idxI]
set_option maxRecDepth 8000 in
theorem ContainsFunc_gen (q : T.File → Bool) (g bp : Nat) (eg : ∀ (args : Array Value) (w : World), (callFunc g args).run Tryz.prog w = .ok (.enter g args) w) (t : T.Tr) (A : Option Addr) (c n : Nat) (w : World) (hn : n = t.length) (hA : SliceAt fileR w (Old w) A c t)
    (hc : ∀ f ∈ t, ∀ W, Ext w W → Calls Tryz.prog g #[.agg #[.string f.1, .string f.2], .pointer (some ⟨bp, 0, none⟩)] W (Al (.bool (q f)) W)) :
    Calls Tryz.prog 37 #[.slice A n c, .func (.func g) #[] #[.pointer (some ⟨bp, 0, none⟩)]] w (Al (.bool (t.any q)) w) := by
  have HI := Lib.hid (IndexFunc_gen q g bp eg t A c n w hn hA hc)
  have he := idxI_any q t
  generalize idxI (t.findIdx? q) = R at HI he
  generalize t.any q = bb at he
  clear hn hA hc eg
  go_enter Tryz.func37, Tryz.ntmps37
  go_wp2_with fail
  refine HI.out.mono ?_
  rintro e w1 ⟨rfl, d1⟩
  have X1 := Lib.hid d1
  clear d1
  go_wp2_with fail
  go_ret
  exact ⟨by simp, X1.out⟩
set_option maxRecDepth 8000 in
set_option maxHeartbeats 2000000 in
theorem IndexFunc_gen0 (q : T.File → Bool) (g : Nat) (eg : ∀ (args : Array Value) (w : World), (callFunc g args).run Tryz.prog w = .ok (.enter g args) w) (t : T.Tr) (A : Option Addr) (c n : Nat) (w : World) (hn : n = t.length) (hA : SliceAt fileR w (Old w) A c t)
    (hc : ∀ f ∈ t, ∀ W, Ext w W → Calls Tryz.prog g #[.agg #[.string f.1, .string f.2]] W (Al (.bool (q f)) W)) :
    Calls Tryz.prog 22 #[.slice A n c, .func (.func g) #[] #[]] w (Al (.int .i64 (idxI (t.findIdx? q))) w) := by
  have hn2 : n ≤ 9223372036854775807 := by have := hA.1; have := hA.2.1; omega
  have HN := Lib.hid hn
  have HA := Lib.hid hA
  obtain ⟨R, hR⟩ : ∃ R, R = idxI (t.findIdx? q) := ⟨_, rfl⟩
  rw [← hR]
  have HR := Lib.hid hR
  have HC1 := Lib.hid hc
  clear hn hA hc hR
  go_enter Tryz.func22, Tryz.ntmps22
  go_wp2_with fail
  go_loopw [5, 8] (fun _ i wr => ∃ k : Nat, k ≤ n ∧ i = .int .i64 k ∧ Hid (noQ q t k ∧ Ext w wr)) (fun _ i _ => n - (intOf i).toNat)
  case atStart => exact ⟨0, Nat.zero_le _, rfl, fun _ _ h => absurd h (Nat.not_lt_zero _), Ext.refl w⟩
  case round =>
    obtain ⟨k, hk, rfl, HK⟩ := hrel
    by_cases hlt : k < n
    · have hkl : k < t.length := by rw [← HN.out]; exact hlt
      obtain ⟨b, off, hAe, hb, c0, c1, h1, h2⟩ := file_get (HA.out.ext HK.out.2) hkl
      subst hAe
      rw [← Nat.add_assoc] at c1
      have HY : Hid (q t[k] = true → R = (k : Int)) := fun he => by rw [HR.out, noQ_at HK.out.1 hkl he]; rfl
      have HNO : Hid (q t[k] = false → noQ q t (k + 1)) := fun he => noQ_succ HK.out.1 hkl he
      have HX := Lib.hid HK.out.2
      have HCALL := Lib.hid (HC1.out t[k] (List.getElem_mem hkl) wr HK.out.2)
      clear HK
      generalize t[k] = f at *
      obtain ⟨fp, fd⟩ := f
      simp only at c0 c1 h1 h2
      generalize q (fp, fd) = bb at HY HNO HCALL
      cases bb
      · have HQ := Lib.hid (HNO.out rfl)
        have HC : Hid (Calls Tryz.prog g #[.agg #[.string fp, .string fd]] wr (Al (.bool false) wr)) := HCALL
        clear HCALL HY HNO
        go_wp2_with (go_at_fn g; refine HC.out.mono ?_; rintro e w1 ⟨rfl, d1⟩)
        go_roundw
        case rel => exact ⟨k + 1, by omega, by go_num, HQ.out, HX.out.trans d1⟩
        case measure => simp [intOf]; omega
      · have HQ := Lib.hid (HY.out rfl)
        have HC : Hid (Calls Tryz.prog g #[.agg #[.string fp, .string fd]] wr (Al (.bool true) wr)) := HCALL
        clear HCALL HY HNO
        go_wp2_with (go_at_fn g; refine HC.out.mono ?_; rintro e w1 ⟨rfl, d1⟩)
        go_ret
        exact ⟨by rw [HQ.out]; rfl, HX.out.trans d1⟩
    · have HQ : Hid (R = -1) := by
        unfold Hid
        have h1 : noQ q t t.length := by
          have := HK.out.1
          rwa [show k = t.length by have := HN.out; omega] at this
        rw [HR.out, noQ_end h1]
        rfl
      have HX := Lib.hid HK.out.2
      have hdk : decide (k < n) = false := decide_eq_false hlt
      clear HK hk
      go_wp2_with fail
      go_ret
      exact ⟨by rw [HQ.out]; rfl, HX.out⟩
set_option maxRecDepth 8000 in
theorem ContainsFunc_gen0 (q : T.File → Bool) (g : Nat) (eg : ∀ (args : Array Value) (w : World), (callFunc g args).run Tryz.prog w = .ok (.enter g args) w) (t : T.Tr) (A : Option Addr) (c n : Nat) (w : World) (hn : n = t.length) (hA : SliceAt fileR w (Old w) A c t)
    (hc : ∀ f ∈ t, ∀ W, Ext w W → Calls Tryz.prog g #[.agg #[.string f.1, .string f.2]] W (Al (.bool (q f)) W)) :
    Calls Tryz.prog 37 #[.slice A n c, .func (.func g) #[] #[]] w (Al (.bool (t.any q)) w) := by
  have HI := Lib.hid (IndexFunc_gen0 q g eg t A c n w hn hA hc)
  have he := idxI_any q t
  generalize idxI (t.findIdx? q) = R at HI he
  generalize t.any q = bb at he
  clear hn hA hc eg
  go_enter Tryz.func37, Tryz.ntmps37
  go_wp2_with fail
  refine HI.out.mono ?_
  rintro e w1 ⟨rfl, d1⟩
  have X1 := Lib.hid d1
  clear d1
  go_wp2_with fail
  go_ret
  exact ⟨by simp, X1.out⟩
end Go.Proofs.YtkeaoejgboefbaaGreatDoor

/- engine.Value. -/
namespace Go.Proofs.YtkeaoejgboefbaaGreatDoor
open Go.RowKit Go.Maps

theorem eg34 : ∀ (args : Array Value) (w : World), (callFunc 38 args).run Tryz.prog w = .ok (.enter 38 args) w := enters_of Tryz.func38 (by kernel_rfl) rfl
def bigF (f : T.File) : Bool := decide (65536 < f.2.size)
theorem big_any (s d : ByteArray) (w : World) (hd : d.size ≤ 9223372036854775807) : Calls Tryz.prog 38 #[.agg #[.string s, .string d]] w (Al (.bool (bigF (s, d))) w) := by
  obtain ⟨b, hb⟩ : ∃ b, b = bigF (s, d) := ⟨_, rfl⟩
  have hb2 : decide (65536 < d.size) = b := by rw [hb]; rfl
  rw [← hb]
  clear hb
  go_enter Tryz.func38, Tryz.ntmps38
  go_wp2_with fail
  go_ret
  exact ⟨by rw [← hb2]; simp; omega, (Ext.refl w).alloc _⟩
/-- What Value answers. -/
def RetVal (w : World) (r : E.V × Int) (ed : Ending) (w' : World) : Prop := ed = .returned (.tuple #[.string (r.1.getD ⟨#[]⟩), .bool r.1.isSome, .int .i64 r.2]) ∧ (r.1.getD ⟨#[]⟩).size ≤ 65536 ∧ Ext w w'
theorem setAll_succ (e : E.En) (l : T.Tr) {j : Nat} (hj : j < l.length) : E.setAll e (l.take (j + 1)) = (E.setE (E.setAll e (l.take j)) l[j].1 l[j].2).2 := by
  unfold E.setAll
  rw [List.take_succ_eq_append_getElem hj, List.foldl_append]
  rfl
set_option maxRecDepth 100000 in
set_option maxHeartbeats 4000000 in
theorem Value_any {w : World} {A B : Option Addr} {k n kb m : Nat} {cs : List E.Cell} {l : T.Tr} {nm : ByteArray} (hg : Gl w) (hA : SliceAt cellR w (Old w) A k cs) (hn : n = cs.length) (harg : ∀ c ∈ cs, c.2.2.1.length ≤ 1000) (hB : SliceAt fileR w (Old w) B kb l) (hm : m = l.length) (hml : m ≤ 100000) (hnm : nm.size ≤ 9223372036854775807) :
    Calls Tryz.prog 17 #[.slice A n k, .slice B m kb, .string nm] w (RetVal w (E.valueE cs l nm)) := by
  obtain ⟨R, hR⟩ : ∃ R, R = E.valueE cs l nm := ⟨_, rfl⟩
  rw [← hR]
  have HR : Hid (R = if E.newErr cs ≠ 0 then (none, E.newErr cs) else if l.any (fun x => decide (65536 < x.2.size)) then (none, 10) else ((E.getE (E.setAll (E.fresh cs) l) nm).1, (E.getE (E.setAll (E.fresh cs) l) nm).2.1)) := Lib.hid hR
  have HNW := Lib.hid (New_any hA hn harg)
  have HSZ := Lib.hid (SzF.of_slice hB)
  have HC := Lib.hid (fun W (hx : Ext w W) => ContainsFunc_gen0 bigF 38 eg34 l B kb m W hm (hB.ext hx) fun f hf W' _ => big_any f.1 f.2 W' (HSZ.out f hf).2)
  have HB := Lib.hid hB
  have HM := Lib.hid hm
  have HG := Lib.hid hg
  clear hR hg hA hn harg hB hm
  go_enter Tryz.func17, Tryz.ntmps17
  go_wp2_with fail
  refine HNW.out.mono ?_
  rintro ed w1 ⟨x1, hr⟩
  have HX1 := Lib.hid x1
  clear x1
  rcases hr with ⟨h0, rfl⟩ | ⟨h0, rfl, S, hf⟩
  · have HX : Hid (R = (none, E.newErr cs)) := Lib.hid (by rw [HR.out, if_pos h0])
    have hx1 : (E.newErr cs == 0) = false := by rw [beq_eq_false_iff_ne]; exact h0
    have hx2 : (E.newErr cs != 0) = true := by rw [bne, hx1]; rfl
    generalize E.newErr cs = x at *
    clear h0 HR
    go_wp2_with fail
    go_ret3
    exact ⟨by rw [HX.out]; rfl, by rw [HX.out]; exact Nat.zero_le _, HX1.out⟩
  · have HE1 := Lib.hid (Eng1.made HG.out (Ext.refl w) h0 hf)
    have HR2 : Hid (R = if l.any bigF then (none, 10) else ((E.getE (E.setAll (E.fresh cs) l) nm).1, (E.getE (E.setAll (E.fresh cs) l) nm).2.1)) := Lib.hid (by rw [HR.out, if_neg (by simpa using h0)]; rfl)
    have HC1 := Lib.hid (HC.out w1 HX1.out)
    obtain ⟨g, hg⟩ : ∃ g, g = w.heap.size + 3 := ⟨_, rfl⟩
    rw [← hg] at HE1 ⊢
    clear HR h0 hf HC hg
    go_wp2_with fail
    refine HC1.out.mono ?_
    rintro ed w2 ⟨rfl, x2⟩
    have HX2 := Lib.hid (HX1.out.trans x2)
    have HE2 := Lib.hid (HE1.out.ext x2)
    clear x2 HC1
    cases hany : l.any bigF with
    | true =>
      have HX : Hid (R = (none, 10)) := Lib.hid (by rw [HR2.out, if_pos hany])
      clear hany
      go_wp2_with fail
      go_ret3
      exact ⟨by rw [HX.out]; rfl, by rw [HX.out]; exact Nat.zero_le _, HX2.out⟩
    | false =>
      have HX : Hid (R = ((E.getE (E.setAll (E.fresh cs) l) nm).1, (E.getE (E.setAll (E.fresh cs) l) nm).2.1)) := Lib.hid (by rw [HR2.out, if_neg (by rw [hany]; decide)])
      clear hany HR2
      go_wp2_with fail
      go_loopw [12, 25] (fun _ i wr => ∃ (j : Nat), i = .int .i64 j ∧ j ≤ m ∧ Hid (Eng1 w wr g cs j (E.setAll (E.fresh cs) (l.take j)))) (fun _ i _ => m - (intOf i).toNat)
      case atStart => exact ⟨0, rfl, Nat.zero_le _, HE2⟩
      case round =>
        obtain ⟨j, rfl, hj, HE⟩ := hrel
        by_cases hlt : j < m
        · have hjl : j < l.length := by have := HM.out; omega
          obtain ⟨b, off, hAe, hbb, d0, d1, z0, z1⟩ := file_get (HB.out.ext HE.out.ahead) hjl
          subst hAe
          rw [← Nat.add_assoc] at d1
          have HS := Lib.hid (setAll_succ (E.fresh cs) l hjl)
          generalize l[j] = f at *
          obtain ⟨fp, fd⟩ := f
          simp only at d0 d1 z0 z1
          obtain ⟨W2, hW2⟩ : ∃ W2, W2 = wr.alloc (.cells #[.string fp, .string fd] 57) := ⟨_, rfl⟩
          have X2 : Ext wr W2 := by rw [hW2]; exact (Ext.refl wr).alloc _
          have p0 : W2.cell? ⟨wr.heap.size, 0, none⟩ = some (.string fp) := by rw [hW2]; exact cell_new wr #[.string fp, .string fd] 57 0
          have p1 : W2.cell? ⟨wr.heap.size, 1, none⟩ = some (.string fd) := by rw [hW2]; exact cell_new wr #[.string fp, .string fd] 57 1
          have HCS := Lib.hid ((HE.out.ext X2).set (by omega) z0 z1)
          clear X2
          go_upto_region 9 with (fail)
          rw [← hW2]
          clear hW2 d0 d1
          go_wp2_with fail
          refine HCS.out.mono ?_
          rintro ed w3 ⟨rfl, h3⟩
          have HE3 : Hid (Eng1 w w3 g cs (j + 1) (E.setAll (E.fresh cs) (l.take (j + 1)))) := Lib.hid (by rw [HS.out]; exact h3)
          clear h3 HCS
          generalize (E.setE (E.setAll (E.fresh cs) (l.take j)) fp fd).1 = y at *
          go_wp2_with fail
          go_roundw
          case rel => exact ⟨j + 1, by go_num, by omega, HE3⟩
          case measure => simp [intOf]; omega
        · have hjn : j = m := by omega
          have htk : l.take j = l := List.take_of_length_le (by have := HM.out; omega)
          rw [htk] at HE
          have HCG := Lib.hid (HE.out.get (by omega) hnm)
          generalize E.getE (E.setAll (E.fresh cs) l) nm = r at *
          obtain ⟨rv, re, en⟩ := r
          clear htk hjn
          go_wp2_with fail
          refine HCG.out.mono ?_
          rintro ed w3 ⟨rfl, hz, h3⟩
          have HX3 := Lib.hid h3.ahead
          have HZ := Lib.hid hz
          replace HX : Hid (R = (rv, re)) := HX
          clear h3 hz HCG
          simp only
          generalize hva : rv.getD ⟨#[]⟩ = va at *
          generalize hvb : rv.isSome = vb at *
          have HVA := Lib.hid hva
          have HVB := Lib.hid hvb
          clear hva hvb
          go_wp2_with fail
          go_ret3
          exact ⟨by rw [HX.out, ← HVA.out, ← HVB.out]; rfl, by rw [HX.out]; show (rv.getD ⟨#[]⟩).size ≤ 65536; rw [HVA.out]; exact HZ.out, HX3.out⟩
end Go.Proofs.YtkeaoejgboefbaaGreatDoor

/- The reference's Value. -/
namespace Go.Proofs.YtkeaoejgboefbaaGreatDoor
open Go.RowKit Go.Maps

/-- The reference's engine alone, from a world on. -/
def Ref1 (w0 w : World) (g : Nat) (cs : List E.Cell) (m : Nat) (e : E.En) : Prop := Ext w0 w ∧ Fit cs m e ∧ ∃ S p ft, p.g = g ∧ p.o = 0 ∧ RefAt w S p 0 ft [] e ∧ w0.heap.size ≤ g ∧ w0.heap.size ≤ p.bv ∧ w0.heap.size ≤ p.bm
section
variable {w0 w w' : World} {g m : Nat} {cs : List E.Cell} {e : E.En}
theorem Ref1.ext (h : Ref1 w0 w g cs m e) (hx : Ext w w') : Ref1 w0 w' g cs m e := by
  obtain ⟨h1, h2, S, p, ft, h3, h4, h5, h6⟩ := h
  exact ⟨h1.trans hx, h2, S, p, ft, h3, h4, h5.ext hx, h6⟩
theorem Ref1.ahead (h : Ref1 w0 w g cs m e) : Ext w0 w := h.1
theorem Ref1.fit (h : Ref1 w0 w g cs m e) : Fit cs m e := h.2.1
theorem Ref1.set (h : Ref1 w0 w g cs m e) (hm : m ≤ 1000000) {n s : ByteArray} (hs : s.size ≤ 9223372036854775807) :
    Calls Tryz.prog 30 #[.pointer (some ⟨g, 0, none⟩), .string n, .string s] w fun ed w' => ed = .returned (.int .i64 (E.setE e n s).1) ∧ Ref1 w0 w' g cs (m + 1) (E.setE e n s).2 := by
  obtain ⟨hx, hf, S, p, ft, rfl, h2, h3, l1, l2, l3⟩ := h
  have hfew := hf.few
  have := refSet_any h3 hf.once (by have := hf.rev; omega) (by rw [hf.cells]; omega) (n := n) hs
  rw [h2] at this
  refine this.mono ?_
  rintro ed w' ⟨h1, h4, h5⟩
  exact ⟨h1, hx.wrote h5 (by rintro k (rfl | rfl) <;> assumption), hf.set n s, S, p, ft, rfl, h2, h4, l1, l2, l3⟩
theorem Ref1.get (h : Ref1 w0 w g cs m e) (hm : m ≤ 1000000) {n : ByteArray} (hn : n.size ≤ 9223372036854775807) :
    Calls Tryz.prog 32 #[.pointer (some ⟨g, 0, none⟩), .string n] w fun ed w' => ed = .returned (.tuple #[.string ((E.getE e n).1.getD ⟨#[]⟩), .bool (E.getE e n).1.isSome, .int .i64 (E.getE e n).2.1]) ∧ ((E.getE e n).1.getD ⟨#[]⟩).size ≤ 65536 ∧ Ref1 w0 w' g cs (m + 1) (E.getE e n).2.2 := by
  obtain ⟨hx, hf, S, p, ft, rfl, h2, h3, l1, l2, l3⟩ := h
  have hfew := hf.few
  have := refGet_any h3 hf.once hf.ok hf.formed hf.vals (by have := hf.cnt; omega) (by rw [hf.cells]; omega) (by have := hf.rev; omega) hn
  rw [h2] at this
  refine this.mono ?_
  rintro ed w' ⟨h1, hz, h4, S', bm, om, cm, ft', h5, h6, h7⟩
  exact ⟨h1, hz, hx.wrote h4 (by rintro k (rfl | rfl) <;> assumption), hf.get n, S', { p with bm := bm, om := om, cm := cm }, ft', rfl, h2, h5, l1, l2, by have := hx.size; show _ ≤ bm; omega⟩
theorem Ref1.made {w1 W2 : World} {A : Option Addr} {n kc bv bm : Nat} (hA : SliceAt cellR w0 (Old w0) A kc cs) (hn : n = cs.length) (h0 : E.newErr cs = 0)
    (x1 : Ext w0 w1) (hv : VRow w1 bv 0 n fun _ => none) (hm : MRow w1 (Old w0) bm 0 n (fun _ => none) fun _ => false) (l1 : w0.heap.size ≤ bv) (l2 : w0.heap.size ≤ bm) (hne : bv ≠ bm)
    (x2 : Ext w1 W2) (hr : W2.heap[w1.heap.size]? = some (.cells #[.slice A n kc, .slice (some ⟨bv, 0, none⟩) n n, .slice (some ⟨bm, 0, none⟩) n n, .int .i64 0, .int .i64 0, .int .i64 0] 40 (0, 0))) : Ref1 w0 W2 w1.heap.size cs 0 (E.fresh cs) := by
  subst hn
  have s1 := x1.size
  have s2 := x2.size
  have lbv := hv.lt
  have lbm := hm.lt
  refine ⟨x1.trans x2, fit_fresh h0, Old w0, ⟨w1.heap.size, 0, fun _ => none, A, kc, bv, 0, cs.length, bm, 0, cs.length⟩, 0, rfl, rfl, ?_, s1, l1, l2⟩
  refine ⟨⟨_, 40, hr, rfl, rfl, rfl, rfl, rfl, rfl, fun i hi => absurd hi (Nat.not_lt_zero _)⟩, hA.keep (fun _ h => h) fun k hk => (x1.trans x2).block k hk, hv.tch (x2.tch fun _ => False) (fun h => h), hm.tch (x2.tch fun _ => False) (fun h => h) (fun k hk => ⟨Nat.lt_of_lt_of_le hk s1, fun h => h⟩) fun _ hk => hk, ⟨Nat.le_refl _, Nat.le_refl _⟩, ⟨by show w1.heap.size ≠ bv; omega, by show w1.heap.size ≠ bm; omega, hne⟩, ⟨fun h => by have h : w1.heap.size < w0.heap.size := h; omega, fun h => by have h : bv < w0.heap.size := h; omega, fun h => by have h : bm < w0.heap.size := h; omega⟩, fun k hk => Nat.lt_of_lt_of_le hk (x1.trans x2).size⟩
end
theorem noQ_any {q : T.File → Bool} {t : T.Tr} (h : noQ q t t.length) : t.any q = false := by
  rw [List.any_eq_false]
  intro x hx
  obtain ⟨i, hi, rfl⟩ := List.getElem_of_mem hx
  rw [h i hi hi]
  exact Bool.false_ne_true
theorem any_at {q : T.File → Bool} {t : T.Tr} {k : Nat} (hk : k < t.length) (h : q t[k] = true) : t.any q = true := List.any_eq_true.2 ⟨_, List.getElem_mem hk, h⟩
set_option maxRecDepth 100000 in
set_option maxHeartbeats 4000000 in
theorem refValue_any {w : World} {A B : Option Addr} {k n kb m : Nat} {cs : List E.Cell} {l : T.Tr} {nm : ByteArray} (hA : SliceAt cellR w (Old w) A k cs) (hn : n = cs.length) (harg : ∀ c ∈ cs, c.2.2.1.length ≤ 1000) (hB : SliceAt fileR w (Old w) B kb l) (hm : m = l.length) (hml : m ≤ 100000) (hnm : nm.size ≤ 9223372036854775807) :
    Calls Tryz.prog 20 #[.slice A n k, .slice B m kb, .string nm] w (RetVal w (E.valueE cs l nm)) := by
  obtain ⟨R, hR⟩ : ∃ R, R = E.valueE cs l nm := ⟨_, rfl⟩
  rw [← hR]
  have HR : Hid (R = if E.newErr cs ≠ 0 then (none, E.newErr cs) else if l.any (fun x => decide (65536 < x.2.size)) then (none, 10) else ((E.getE (E.setAll (E.fresh cs) l) nm).1, (E.getE (E.setAll (E.fresh cs) l) nm).2.1)) := Lib.hid hR
  have HNW := Lib.hid (refNew_any hA hn harg)
  have HB := Lib.hid hB
  have HM := Lib.hid hm
  have HA := Lib.hid hA
  have HN := Lib.hid hn
  clear hR hA hn harg hB hm
  go_enter Tryz.func20, Tryz.ntmps20
  go_wp2_with fail
  refine HNW.out.mono ?_
  rintro ed w1 ⟨x1, hr⟩
  have HX1 := Lib.hid x1
  clear x1
  rcases hr with ⟨h0, rfl⟩ | ⟨h0, bv, bm, rfl, l1, l2, hne, hv, hmm⟩
  · have HX : Hid (R = (none, E.newErr cs)) := Lib.hid (by rw [HR.out, if_pos h0])
    have hx1 : (E.newErr cs == 0) = false := by rw [beq_eq_false_iff_ne]; exact h0
    have hx2 : (E.newErr cs != 0) = true := by rw [bne, hx1]; rfl
    generalize E.newErr cs = x at *
    clear h0 HR
    go_wp2_with fail
    go_ret3
    exact ⟨by rw [HX.out]; rfl, by rw [HX.out]; exact Nat.zero_le _, HX1.out.alloc _⟩
  · have HR2 : Hid (R = if l.any bigF then (none, 10) else ((E.getE (E.setAll (E.fresh cs) l) nm).1, (E.getE (E.setAll (E.fresh cs) l) nm).2.1)) := Lib.hid (by rw [HR.out, if_neg (by simpa using h0)]; rfl)
    obtain ⟨W2, hW2⟩ : ∃ W2, W2 = w1.alloc (.cells #[.slice A n k, .slice (some ⟨bv, 0, none⟩) n n, .slice (some ⟨bm, 0, none⟩) n n, .int .i64 0, .int .i64 0, .int .i64 0] 40) := ⟨_, rfl⟩
    have HE1 : Hid (Ref1 w W2 w1.heap.size cs 0 (E.fresh cs)) := Lib.hid (Ref1.made HA.out HN.out h0 HX1.out hv hmm l1 l2 hne (by rw [hW2]; exact (Ext.refl _).alloc _) (by rw [hW2]; exact heap_alloc_new w1 _))
    obtain ⟨g, hg⟩ : ∃ g, g = w1.heap.size := ⟨_, rfl⟩
    rw [← hg] at HE1
    clear HR h0 l1 l2 hne hv hmm
    go_upto_region 2 with (fail)
    rw [← hW2]
    rw [← hg]
    clear hW2 hg
    go_wp2_with fail
    go_loopw [11] (fun i wr => ∃ (j : Nat), i = .int .i64 j ∧ j ≤ m ∧ Hid (noQ bigF l j) ∧ wr = W2) (fun i _ => m - (intOf i).toNat)
    case atStart => exact ⟨0, rfl, Nat.zero_le _, (fun _ _ h => absurd h (Nat.not_lt_zero _)), rfl⟩
    case round =>
      obtain ⟨j, rfl, hj, HQ, rfl⟩ := hrel
      by_cases hlt : j < m
      · have hjl : j < l.length := by have := HM.out; omega
        obtain ⟨b, off, hAe, hbb, d0, d1, z0, z1⟩ := file_get (HB.out.ext HE1.out.ahead) hjl
        subst hAe
        rw [← Nat.add_assoc] at d1
        by_cases hbig : 65536 < l[j].2.size
        · have hany := any_at (q := bigF) hjl (decide_eq_true hbig)
          have HX : Hid (R = (none, 10)) := Lib.hid (by rw [HR2.out, if_pos hany])
          generalize l[j].2 = fd at *
          clear hany d0
          go_wp2_with fail
          go_ret3
          exact ⟨by rw [HX.out]; rfl, by rw [HX.out]; exact Nat.zero_le _, HE1.out.ahead⟩
        · have HQ2 := Lib.hid (noQ_succ (q := bigF) HQ.out hjl (decide_eq_false hbig))
          generalize l[j].2 = fd at *
          clear d0
          go_wp2_with fail
          go_roundw
          case rel => exact ⟨j + 1, by go_num, by omega, HQ2, by trivial⟩
          case measure => simp [intOf]; omega
      · have hjn : j = m := by omega
        have hno : l.any bigF = false := noQ_any (by have := HQ.out; rwa [show j = l.length by have := HM.out; omega] at this)
        have HX : Hid (R = ((E.getE (E.setAll (E.fresh cs) l) nm).1, (E.getE (E.setAll (E.fresh cs) l) nm).2.1)) := Lib.hid (by rw [HR2.out, if_neg (by rw [hno]; decide)])
        clear hno HR2 hjn HQ
        go_wp2_with fail
        go_loopw [12] (fun i wr2 => ∃ (j : Nat), i = .int .i64 j ∧ j ≤ m ∧ Hid (Ref1 w wr2 g cs j (E.setAll (E.fresh cs) (l.take j)))) (fun i _ => m - (intOf i).toNat)
        case atStart => exact ⟨0, rfl, Nat.zero_le _, HE1⟩
        case round =>
          obtain ⟨j, rfl, hj, HE⟩ := hrel
          by_cases hlt : j < m
          · have hjl : j < l.length := by have := HM.out; omega
            obtain ⟨b, off, hAe, hbb, d0, d1, z0, z1⟩ := file_get HB.out hjl
            subst hAe
            rw [← Nat.add_assoc] at d1
            have HKC := Lib.hid (fun (W : World) (hx : Ext w W) => And.intro (hx.keepc d0) (hx.keepc d1))
            replace d0 := HE.out.ahead.keepc d0
            replace d1 := HE.out.ahead.keepc d1
            have HS := Lib.hid (setAll_succ (E.fresh cs) l hjl)
            generalize l[j] = f at *
            obtain ⟨fp, fd⟩ := f
            simp only at d0 d1 z0 z1 HKC
            have HCS := Lib.hid (fun W (hx : Ext wr W) => (HE.out.ext hx).set (by omega) (n := fp) z1)
            obtain ⟨Φ, hΦ⟩ : ∃ Φ : World → Prop, ∀ w', Φ w' ↔ (w'.cell? ⟨b, off + j * 2, none⟩ = some (.string fp) ∧ w'.cell? ⟨b, off + j * 2 + 1, none⟩ = some (.string fd)) := ⟨_, fun _ => Iff.rfl⟩
            have h0 : Φ wr.drew := (hΦ _).2 ⟨d0, d1⟩
            have fx0 : ∀ x : Lat Φ, x.w'.cell? ⟨b, off + j * 2, none⟩ = some (.string fp) := fun x => ((hΦ _).1 x.h).1
            have fx1 : ∀ x : Lat Φ, x.w'.cell? ⟨b, off + j * 2 + 1, none⟩ = some (.string fd) := fun x => ((hΦ _).1 x.h).2
            have hne1 := Lat.some h0
            have HΦ := Lib.hid hΦ
            clear hΦ
            go_upto_region 12 with (fail)
            refine wp_region_lat [10] Φ h0 (by kernel_rfl) (by kernel_rfl) (by kernel_rfl) ?_
            iterate 10 (refine lex_pure rfl rfl rfl ?_; intro K hK; go_big_quiet_op; go_big_quiet_on)
            refine lex_eff rfl ?_
            go_wp2_with fail
            refine (HCS.out _ (Ext.refl wr).drew).mono ?_
            rintro ed w3 ⟨rfl, h3⟩
            have HE3 : Hid (Ref1 w w3 g cs (j + 1) (E.setAll (E.fresh cs) (l.take (j + 1)))) := Lib.hid (by rw [HS.out]; exact h3)
            have HP3 := Lib.hid ((HΦ.out w3).2 (HKC.out w3 h3.ahead))
            clear h3 HCS
            generalize (E.setE (E.setAll (E.fresh cs) (l.take j)) fp fd).1 = y at *
            go_wp2_with fail
            refine ⟨⟨⟨w3, HP3.out⟩, rfl⟩, ?_⟩
            refine lex_nil ?_
            clear fx0 fx1 hne1 h0 HΦ d0 d1
            go_wp2_with fail
            go_roundw
            case rel => exact ⟨j + 1, by go_num, by omega, HE3⟩
            case measure => simp [intOf]; omega
          · have hjn : j = m := by omega
            have htk : l.take j = l := List.take_of_length_le (by have := HM.out; omega)
            rw [htk] at HE
            have HCG := Lib.hid (HE.out.get (by omega) hnm)
            generalize E.getE (E.setAll (E.fresh cs) l) nm = r at *
            obtain ⟨rv, re, en⟩ := r
            clear htk hjn
            go_wp2_with fail
            refine HCG.out.mono ?_
            rintro ed w3 ⟨rfl, hz, h3⟩
            have HX3 := Lib.hid h3.ahead
            have HZ := Lib.hid hz
            replace HX : Hid (R = (rv, re)) := HX
            clear h3 hz HCG
            simp only
            generalize hva : rv.getD ⟨#[]⟩ = va at *
            generalize hvb : rv.isSome = vb at *
            have HVA := Lib.hid hva
            have HVB := Lib.hid hvb
            clear hva hvb
            go_wp2_with fail
            go_ret3
            exact ⟨by rw [HX.out, ← HVA.out, ← HVB.out]; rfl, by rw [HX.out]; show (rv.getD ⟨#[]⟩).size ≤ 65536; rw [HVA.out]; exact HZ.out, HX3.out⟩
end Go.Proofs.YtkeaoejgboefbaaGreatDoor

/- awake of chapter 56: it returns true. -/
namespace Go.Proofs.YtkeaoejgboefbaaGreatDoor
open Go.RowKit Go.Maps

theorem ex_slice2 (w : World) {W4 : World} (h : W4 = (((w.alloc (.cells #[.string ⟨#[116, 101, 120, 116]⟩] 9)).alloc (.cells #[.string ⟨#[110]⟩, .string ⟨#[116, 101, 120, 116]⟩, .string ⟨#[116, 101, 120, 116]⟩] 9)).alloc (.cells #[.string ⟨#[110]⟩] 9)).alloc (.cells #[.string ⟨#[116, 101, 120, 116]⟩, .int .i64 1, .slice none 0 0, .string ⟨#[]⟩, .string ⟨#[110]⟩, .int .i64 3, .slice (some ⟨w.heap.size, 0, none⟩) 1 1, .string ⟨#[]⟩, .string ⟨#[98, 105, 103]⟩, .int .i64 5, .slice (some ⟨w.heap.size + 1, 0, none⟩) 3 3, .string ⟨#[]⟩, .string ⟨#[109]⟩, .int .i64 2, .slice (some ⟨w.heap.size + 1 + 1, 0, none⟩) 1 1, .string ⟨#[]⟩] 50)) :
    Ext w W4 ∧ SliceAt cellR W4 (Old W4) (some ⟨w.heap.size + 1 + 1 + 1, 0, none⟩) 4 exC := by
  subst h
  refine ⟨((((Ext.refl w).alloc _).alloc _).alloc _).alloc _, ?_⟩
  have := ex_slice w _ _ _ _ rfl rfl rfl rfl
  simp only [size_alloc'] at this
  exact this
set_option maxRecDepth 100000 in
set_option maxHeartbeats 8000000 in
theorem awake_any (w : World) (hg : Gl w) : Calls Tryz.prog 7 #[] w (Al (.bool true) w) := by
  obtain ⟨W4, hW4⟩ : ∃ W4, W4 = (((w.alloc (.cells #[.string ⟨#[116, 101, 120, 116]⟩] 9)).alloc (.cells #[.string ⟨#[110]⟩, .string ⟨#[116, 101, 120, 116]⟩, .string ⟨#[116, 101, 120, 116]⟩] 9)).alloc (.cells #[.string ⟨#[110]⟩] 9)).alloc (.cells #[.string ⟨#[116, 101, 120, 116]⟩, .int .i64 1, .slice none 0 0, .string ⟨#[]⟩, .string ⟨#[110]⟩, .int .i64 3, .slice (some ⟨w.heap.size, 0, none⟩) 1 1, .string ⟨#[]⟩, .string ⟨#[98, 105, 103]⟩, .int .i64 5, .slice (some ⟨w.heap.size + 1, 0, none⟩) 3 3, .string ⟨#[]⟩, .string ⟨#[109]⟩, .int .i64 2, .slice (some ⟨w.heap.size + 1 + 1, 0, none⟩) 1 1, .string ⟨#[]⟩] 50) := ⟨_, rfl⟩
  obtain ⟨x4, hs⟩ := ex_slice2 w hW4
  have HX4 := Lib.hid x4
  have HNW : Hid (Calls Tryz.prog 27 #[.slice (some ⟨w.heap.size + 1 + 1 + 1, 0, none⟩) 4 4] W4 (RetNew W4 exC)) := Lib.hid (New_any hs rfl (by decide))
  have HG := Lib.hid hg
  clear hg hs x4
  go_enter Tryz.func7, Tryz.ntmps7
  go_wp2_with fail
  rw [← hW4]
  clear hW4
  refine HNW.out.mono ?_
  rintro ed w5 ⟨_, hr⟩
  rcases hr with ⟨h0, _⟩ | ⟨_, rfl, S, hf⟩
  · exact absurd ex_new h0
  have HE5 := Lib.hid (Eng1.made HG.out HX4.out ex_new hf)
  generalize W4.heap.size + 3 = g at *
  clear hf HNW HX4
  go_wp2_with fail
  refine (HE5.out.set (by decide) (by decide) (by decide)).mono ?_
  rw [ex_set1]
  rintro ed w6 ⟨rfl, h6⟩
  have HE6 : Hid (Eng1 w w6 g exC 1 ex1) := Lib.hid h6
  clear h6 HE5
  go_wp2_with fail
  refine (HE6.out.get (by decide) (by decide)).mono ?_
  rw [ex_get2.1, ex_get2.2.1]
  rintro ed w7 ⟨rfl, _, h7⟩
  have HE7 : Hid (Eng1 w w7 g exC 2 ex2) := Lib.hid h7
  clear h7 HE6
  simp only [Option.getD_some, Option.isSome_some]
  go_wp2_with fail
  refine (HE7.out.computed).mono ?_
  rw [ex_get2.2.2]
  rintro ed w8 ⟨rfl, rfl⟩
  go_wp2_with fail
  refine (HE7.out.get (by decide) (by decide)).mono ?_
  rw [ex_get3.1, ex_get3.2.1]
  rintro ed w8 ⟨rfl, _, h8⟩
  have HE8 : Hid (Eng1 w w8 g exC 3 ex3) := Lib.hid h8
  clear h8 HE7
  simp only [Option.getD_some, Option.isSome_some]
  go_wp2_with fail
  refine (HE8.out.computed).mono ?_
  rw [ex_get3.2.2]
  rintro ed w9 ⟨rfl, rfl⟩
  go_wp2_with fail
  refine (HE8.out.set (by decide) (by decide) (by decide)).mono ?_
  rw [ex_set4]
  rintro ed w9 ⟨rfl, h9⟩
  have HE9 : Hid (Eng1 w w9 g exC 4 ex4) := Lib.hid h9
  clear h9 HE8
  go_wp2_with fail
  refine (HE9.out.get (by decide) (by decide)).mono ?_
  rw [ex_get5.1]
  rintro ed w10 ⟨rfl, _, h10⟩
  have HE10 : Hid (Eng1 w w10 g exC 5 ex5) := Lib.hid h10
  clear h10 HE9
  generalize ((E.getE ex4 ⟨#[109]⟩).1.getD ⟨#[]⟩) = z1
  generalize (E.getE ex4 ⟨#[109]⟩).1.isSome = z2
  go_wp2_with fail
  refine (HE10.out.computed).mono ?_
  rw [ex_get5.2]
  rintro ed w11 ⟨rfl, rfl⟩
  go_wp2_with fail
  refine (HE10.out.get (by decide) (by decide)).mono ?_
  rw [ex_get6.1]
  rintro ed w11 ⟨rfl, _, h11⟩
  have HE11 : Hid (Eng1 w w11 g exC 6 ex6) := Lib.hid h11
  clear h11 HE10
  generalize (E.getE ex5 ⟨#[98, 105, 103]⟩).2.1 = z3
  simp only [Option.getD_some, Option.isSome_some]
  go_wp2_with fail
  refine (HE11.out.computed).mono ?_
  rw [ex_get6.2]
  rintro ed w12 ⟨rfl, rfl⟩
  go_wp2_with fail
  go_ret
  exact ⟨rfl, HE11.out.ahead⟩
end Go.Proofs.YtkeaoejgboefbaaGreatDoor

/- Slices that the call builds, of elements that may point to other blocks of the call. For any program. -/
namespace Go.Proofs.YtkeaoejgboefbaaGreatDoor
open Go.RowKit

/-- The blocks from base on that are there, but for the row of v. -/
def Bl (w : World) (base : Nat) (v : Value) : Nat → Prop := fun k => base ≤ k ∧ k < w.heap.size ∧ v.ownBlock ≠ some k
/-- The blocks that have come since w. -/
def New (w w' : World) : Nat → Prop := fun k => w.heap.size ≤ k ∧ k < w'.heap.size
/-- The slice v of n elements holds l, in a row of the call's own; what the elements point to lies in blocks from base on. -/
def OwnF {α : Type} (r : Rep α) (w : World) (base : Nat) (e : TypeId) (v : Value) (n : Nat) (l : List α) : Prop :=
  n = l.length ∧ ∃ xs, OwnAt w base e r.size v n xs ∧ Flat r w (Bl w base v) l xs
section
variable {α : Type} {r : Rep α} {w w' : World} {base n : Nat} {e : TypeId} {v : Value} {l : List α}
theorem OwnF.nil (r : Rep α) (w : World) (base : Nat) (e : TypeId) : OwnF r w base e (.slice none 0 0) 0 [] := ⟨rfl, [], OwnAt.nil _ _ _ _, rfl⟩
/-- Blocks below base are written, and new ones are made. -/
theorem OwnF.below (h : OwnF r w base e v n l) (hs : w.heap.size ≤ w'.heap.size) (hk : ∀ k, base ≤ k → k < w.heap.size → w'.heap[k]? = w.heap[k]?) : OwnF r w' base e v n l := by
  obtain ⟨hn, xs, ho, hf⟩ := h
  have hlow : ∀ g, v.ownBlock = some g → base ≤ g := by
    intro g hg
    obtain ⟨_, ⟨rfl, _⟩ | ⟨g', off, cap, cur, rfl, hb, _⟩⟩ := ho
    · simp [Value.ownBlock] at hg
    · simp [Value.ownBlock] at hg; omega
  exact ⟨hn, xs, ho.keep fun g hg hlt => hk g (hlow g hg) hlt, hf.keep (fun k hk => ⟨hk.1, Nat.lt_of_lt_of_le hk.2.1 hs, hk.2.2⟩) fun k hk' => hk k hk'.1 hk'.2.1⟩
theorem OwnF.ext (h : OwnF r w base e v n l) (he : Ext w w') : OwnF r w' base e v n l := h.below he.size fun k _ hk => he.block k hk
theorem OwnF.grownLow (h : OwnF r w base e v n l) {b : Nat} (hg : w.grownBy w' (some b)) (hb : b < base) : OwnF r w' base e v n l :=
  h.below hg.size fun k hk1 hk2 => hg.block k hk2 fun e => by have := Option.some.inj e; omega
/-- A row of a slice that was begun later is written. -/
theorem OwnF.grownHigh (h : OwnF r w base e v n l) {b : Nat} (hg : w.grownBy w' (some b)) (hb : w.heap.size ≤ b) : OwnF r w' base e v n l :=
  h.below hg.size fun k _ hk2 => hg.block k hk2 fun e => by have := Option.some.inj e; omega
theorem OwnF.form (h : OwnF r w base e v n l) : ∃ A c, v = .slice A n c ∧ n ≤ c ∧ c ≤ 9223372036854775807 := by
  obtain ⟨hn, xs, ⟨_, ⟨rfl, rfl⟩ | ⟨g, off, cap, cur, rfl, _, _, h1, h2, _⟩⟩, hf⟩ := h
  · exact ⟨none, 0, rfl, Nat.le_refl _, by decide⟩
  · exact ⟨_, cap, rfl, h1, h2⟩
/-- Its cells, in blocks from base on. -/
theorem OwnF.slice (h : OwnF r w base e v n l) : ∃ A c, v = .slice A n c ∧ SliceAt r w (fun k => base ≤ k ∧ k < w.heap.size) A c l := by
  obtain ⟨hn, xs, ho, hf⟩ := h
  have hf' : Flat r w (fun k => base ≤ k ∧ k < w.heap.size) l xs := hf.keep (fun k hk => ⟨hk.1, hk.2.1⟩) fun _ _ => rfl
  rcases Nat.eq_zero_or_pos n with h0 | h0
  · have hl : l = [] := List.eq_nil_of_length_eq_zero (by omega)
    subst hl
    obtain ⟨_, ⟨rfl, _⟩ | ⟨g, off, cap, cur, rfl, _, _, h1, h2, _⟩⟩ := ho
    · exact ⟨none, 0, by rw [h0], SliceAt.nil _ _ _ _ _ (by decide)⟩
    · exact ⟨_, cap, rfl, SliceAt.nil _ _ _ _ _ h2⟩
  · obtain ⟨g, off, cap, rfl, hb, hlt, hnc, hcap, hc⟩ := ho.cells h0
    exact ⟨_, cap, rfl, by omega, hcap, fun _ => ⟨g, off, rfl, ⟨hb, hlt⟩, hf'.row hc⟩⟩
/-- One element more, behind an append. -/
theorem OwnF.push {xs us : List Value} {v' : Value} {a : α} (hn : n = l.length) (hf : Flat r w (Bl w base v) l xs) (ha : r.is w (Bl w base v) a us)
    (ho : OwnAt w' base e r.size v' (n + 1) (xs ++ us)) (hg : w.grownBy w' v.ownBlock) (hv : v'.ownBlock = v.ownBlock ∨ ∃ g, v'.ownBlock = some g ∧ w.heap.size ≤ g ∧ g < w'.heap.size) : OwnF r w' base e v' (n + 1) (l ++ [a]) := by
  refine ⟨by simp [hn], xs ++ us, ho, ?_⟩
  have hs : ∀ k, Bl w base v k → Bl w' base v' k := by
    rintro k ⟨h1, h2, h3⟩
    refine ⟨h1, Nat.lt_of_lt_of_le h2 hg.size, ?_⟩
    rcases hv with hv | ⟨g, hv, h4, _⟩
    · rw [hv]; exact h3
    · rw [hv]
      intro e
      have := Option.some.inj e
      omega
  have hk : ∀ k, Bl w base v k → w'.heap[k]? = w.heap[k]? := fun k hk => hg.block k hk.2.1 fun e => hk.2.2 e.symm
  exact Flat.append (Flat.one (r.keep ha hs hk)) (hf.keep hs hk)
end
theorem SliceAt.sub {α : Type} {r : Rep α} {w : World} {B B' : Nat → Prop} {A : Option Addr} {c : Nat} {l : List α} (h : SliceAt r w B A c l) (hB : ∀ k, B k → B' k) : SliceAt r w B' A c l := h.keep hB fun _ _ => rfl
theorem SliceAt.grown {α : Type} {r : Rep α} {w w' : World} {b : Nat} {A : Option Addr} {c : Nat} {l : List α} (h : SliceAt r w (fun k => k < w.heap.size ∧ k ≠ b) A c l) (hg : w.grownBy w' (some b)) : SliceAt r w' (fun k => k < w'.heap.size ∧ k ≠ b) A c l :=
  h.keep (fun _ hk => ⟨Nat.lt_of_lt_of_le hk.1 hg.size, hk.2⟩) fun k hk => hg.block k hk.1 fun e => hk.2 (Option.some.inj e)


end Go.Proofs.YtkeaoejgboefbaaGreatDoor

/- licitlaw56.cp: a copy of cells. -/
namespace Go.Proofs.YtkeaoejgboefbaaGreatDoor
open Go.RowKit Go.Maps

theorem cell_info : (Tryz.prog.info? 50).map (fun i => (i.zero, i.size, i.bytes)) = some (some (.agg #[.string ⟨#[]⟩, .int .i64 0, .slice none 0 0, .string ⟨#[]⟩]), 4, 64) := by kernel_rfl
theorem one_cells (a : ByteArray) (b : Int) (c : Option Addr) (d e : Nat) (f : ByteArray) : ∀ u ∈ [Value.string a, .int .i64 b, .slice c d e, .string f], u.oneCell' = true := by
  intro u hu
  simp only [List.mem_cons, List.not_mem_nil, or_false] at hu
  rcases hu with rfl | rfl | rfl | rfl <;> rfl
/-- What cp answers: a slice of its own. -/
def RetOwn (w : World) (cs : List E.Cell) (e : Ending) (w' : World) : Prop := ∃ v, e = .returned v ∧ OwnF cellR w' w.heap.size 50 v cs.length cs ∧ Ext w w'
/-- What cp answers. -/
def RetCells (w : World) (cs : List E.Cell) (e : Ending) (w' : World) : Prop := ∃ A k n, n = cs.length ∧ e = .returned (.slice A n k) ∧ SliceAt cellR w' (Old w') A k cs ∧ Ext w w'
set_option maxRecDepth 100000 in
set_option maxHeartbeats 2000000 in
theorem cp_own {w : World} {A : Option Addr} {k n : Nat} {cs : List E.Cell} (hA : SliceAt cellR w (Old w) A k cs) (hn : n = cs.length) (harg : ∀ c ∈ cs, c.2.2.1.length ≤ 1000) (hl : n ≤ 1000000) :
    Calls Tryz.prog 18 #[.slice A n k] w (RetOwn w cs) := by
  have HA := Lib.hid hA
  have HN := Lib.hid hn
  have HAR := Lib.hid harg
  clear hA hn harg
  go_enter Tryz.func18, Tryz.ntmps18
  go_wp2_with fail
  go_loopw [3, 5, 8] (fun v _ i wr => ∃ (j : Nat), i = .int .i64 j ∧ j ≤ n ∧ Hid (OwnF cellR wr w.heap.size 50 v j (cs.take j)) ∧ Hid (Ext w wr)) (fun _ _ i _ => n - (intOf i).toNat)
  case atStart => exact ⟨0, rfl, Nat.zero_le _, OwnF.nil _ _ _ _, Ext.refl _⟩
  case round =>
    obtain ⟨j, rfl, hj, HO, HX⟩ := hrel
    by_cases hlt : j < n
    · have hjl : j < cs.length := by have := HN.out; omega
      obtain ⟨b, off, A2, k2, hAe, hbb, d0, d1, d2, d3, z1, z2, z3, z4⟩ := cell_get (HA.out.ext HX.out) hjl
      subst hAe
      have HTK : Hid (cs.take (j + 1) = cs.take j ++ [cs[j]]) := Lib.hid (List.take_succ_eq_append_getElem hjl)
      have hag : cs[j].2.2.1.length ≤ 1000 := HAR.out _ (List.getElem_mem hjl)
      generalize cs[j] = c at *
      obtain ⟨nm, op, ar, tx⟩ := c
      simp only at d0 d1 d2 d3 z1 z2 z3 z4 hag
      obtain ⟨W2, hW2⟩ : ∃ W2, W2 = wr.alloc (.cells #[.string nm, .int .i64 op, .slice A2 ar.length k2, .string tx] 50) := ⟨_, rfl⟩
      have X2 : Ext wr W2 := by rw [hW2]; exact (Ext.refl wr).alloc _
      have K2 : Hid (W2.heap[wr.heap.size]? = some (.cells #[.string nm, .int .i64 op, .slice A2 ar.length k2, .string tx] 50 (0, 0))) := Lib.hid (by rw [hW2]; exact heap_alloc_new wr _)
      have p2 : W2.cell? ⟨wr.heap.size, 2, none⟩ = some (.slice A2 ar.length k2) := by rw [new_off K2.out]; rfl
      have HCL := Lib.hid (CloneStr (z3.ext X2) rfl hag)
      have HX2 := Lib.hid X2
      have HZ := Lib.hid (And.intro z1 (And.intro z2 z4))
      go_upto_region 5 with (fail)
      rw [← hW2]
      clear hW2 X2 d0 d1 d2 d3 z1 z2 z3 z4
      go_wp2_with fail
      refine HCL.out.mono ?_
      rintro ed w6 ⟨A6, k6, rfl, hs6, d6⟩
      have K6 := Lib.hid ((d6.block _ (Array.getElem?_eq_some_iff.1 K2.out).1).trans K2.out)
      have p6 : w6.cell? ⟨wr.heap.size, 2, none⟩ = some (.slice A2 ar.length k2) := by rw [new_off K6.out]; rfl
      have fr := Lib.frozen_of_heap K6.out 2
      have HS6 := Lib.hid hs6
      have HX6 := Lib.hid (HX2.out.trans d6)
      clear d6 hs6 p2
      go_upto_region 6 with (fail)
      obtain ⟨W7, hW7⟩ : ∃ W7, W7 = w6.setCell ⟨wr.heap.size, 2, none⟩ (.slice A6 ar.length k6) := ⟨_, rfl⟩
      rw [← hW7]
      have X7 : Ext wr W7 := by rw [hW7]; exact HX6.out.setCell (p := ⟨wr.heap.size, 2, none⟩) (Nat.le_refl _) _
      have T7 : Tch (fun k => k = wr.heap.size) w6 W7 := by rw [hW7]; exact (Tch.refl (fun k => k = wr.heap.size) w6).setCell (p := ⟨wr.heap.size, 2, none⟩) (fun _ => rfl) _
      have K7 : W7.heap[wr.heap.size]? = some (.cells #[.string nm, .int .i64 op, .slice A6 ar.length k6, .string tx] 50 (0, 0)) := by rw [hW7]; exact heap_setCell_cells K6.out 2 _
      have q0 : W7.cell? ⟨wr.heap.size, 0, none⟩ = some (.string nm) := by rw [new_off K7]; rfl
      have q1 : W7.cell? ⟨wr.heap.size, 1, none⟩ = some (.int .i64 op) := by rw [new_off K7]; rfl
      have q2 : W7.cell? ⟨wr.heap.size, 2, none⟩ = some (.slice A6 ar.length k6) := by rw [new_off K7]; rfl
      have q3 : W7.cell? ⟨wr.heap.size, 3, none⟩ = some (.string tx) := by rw [new_off K7]; rfl
      have HS7 : Hid (SliceAt strR W7 (fun b => wr.heap.size < b ∧ b < W7.heap.size) A6 k6 ar) := Lib.hid (HS6.out.keep (fun k hk => ⟨Nat.lt_of_lt_of_le (Array.getElem?_eq_some_iff.1 K2.out).1 hk.1, Nat.lt_of_lt_of_le hk.2 T7.size⟩) fun k hk => T7.block k hk.2 (by have := (Array.getElem?_eq_some_iff.1 K2.out).1; have := hk.1; omega))
      have HX7 := Lib.hid X7
      have HO7 := Lib.hid (HO.out.ext X7)
      clear hW7 X7 T7 K7 p6 fr
      obtain ⟨i0, hi, hz0, hz1, hz2⟩ := info_parts cell_info
      obtain ⟨hjn, xs, hown, hflat⟩ := HO7.out
      have HJN := Lib.hid hjn
      have HOW := Lib.hid hown
      have HFL := Lib.hid hflat
      have HLW : Hid (∀ g, u3.ownBlock = some g → g < wr.heap.size) := Lib.hid fun g hg => by
        obtain ⟨_, xs', ho', _⟩ := HO.out
        exact own_at_lt ho' hg
      have hbs : w.heap.size ≤ W7.heap.size := (HX.out.trans HX7.out).size
      clear hown hflat hjn
      go_wp2_with (at_builtin; refine wpList_append_ownAt _ rfl (.tmp 16) (.tmp 18) 22 rfl w.heap.size 50 i0 _ 4 64 Tryz.underlying22 hi hz0 hz1 hz2 rfl (by decide) _ _ _ rfl (HOW.out.alloc _) ⟨_, 0, none⟩ 1 1 [.string nm, .int .i64 op, .slice A6 ar.length k6, .string tx] rfl rfl ?_ ?_ (by unfold maxLen; omega) (by omega) (by rw [size_alloc']; omega) (by decide) ?_)
      · intro i u hi'
        rw [Addr.add_lit, Nat.zero_add, cell_new, ← hi', List.getElem?_toArray]
      · exact one_cells nm op A6 ar.length k6 tx
      · intro v' w8 ho hg _ hf
        have hXA : Ext W7 (W7.alloc (.cells #[.string nm, .int .i64 op, .slice A6 ar.length k6, .string tx] 50)) := (Ext.refl _).alloc _
        have hBl : ∀ k, Bl W7 w.heap.size u3 k → Bl (W7.alloc (.cells #[.string nm, .int .i64 op, .slice A6 ar.length k6, .string tx] 50)) w.heap.size u3 k := fun k hk => ⟨hk.1, Nat.lt_of_lt_of_le hk.2.1 hXA.size, hk.2.2⟩
        have hO8 := OwnF.push (r := cellR) (a := (nm, op, ar, tx)) HJN.out (HFL.out.keep hBl fun k hk => hXA.block k hk.2.1) ⟨[.string nm], _, rfl, ⟨rfl, HZ.out.1⟩, [.int .i64 op], _, rfl, ⟨rfl, HZ.out.2.1⟩, [.slice A6 ar.length k6], _, rfl, ⟨A6, k6, rfl, (HS7.out.keep (fun k hk => hBl k ⟨by have := HX.out.size; omega, hk.2, fun e => by have := HLW.out k e; omega⟩) fun k hk => hXA.block k hk.2)⟩, ⟨rfl, HZ.out.2.2⟩⟩ ho hg (by rcases hf with h | ⟨t, h1, h2, h3⟩; exact .inl h; exact .inr ⟨t, h1, by rw [size_alloc']; exact h2, h3⟩)
        have HO9 : Hid (OwnF cellR w8 w.heap.size 50 v' (j + 1) (cs.take (j + 1))) := Lib.hid (by rw [HTK.out]; exact hO8)
        have HX9 : Hid (Ext w w8) := Lib.hid (((HX.out.trans HX7.out).trans hXA).grown HOW.out hg)
        clear hO8 hBl hXA ho hg hf hi hz0 hz1 hz2
        go_wp2_with fail
        go_roundw
        case rel => exact ⟨j + 1, by go_num, by omega, HO9, HX9⟩
        case measure => simp [intOf]; omega
    · have hjn : j = n := by omega
      have htk : cs.take j = cs := List.take_of_length_le (by have := HN.out; omega)
      rw [htk] at HO
      have HJ := Lib.hid (show j = cs.length by have := HN.out; omega)
      subst hjn
      clear htk
      go_wp2_with fail
      go_ret
      exact ⟨_, rfl, by have := HO.out; rw [HJ.out] at this; exact this, HX.out⟩
theorem cp_any {w : World} {A : Option Addr} {k n : Nat} {cs : List E.Cell} (hA : SliceAt cellR w (Old w) A k cs) (hn : n = cs.length) (harg : ∀ c ∈ cs, c.2.2.1.length ≤ 1000) (hl : n ≤ 1000000) :
    Calls Tryz.prog 18 #[.slice A n k] w (RetCells w cs) := by
  refine (cp_own hA hn harg hl).mono ?_
  rintro e w' ⟨v, rfl, ho, hx⟩
  obtain ⟨A', k', rfl, hs⟩ := ho.slice
  exact ⟨A', k', _, rfl, rfl, hs.sub fun k hk => hk.2, hx⟩
end Go.Proofs.YtkeaoejgboefbaaGreatDoor

/- The walk of EngineFresh. -/
namespace Go.Proofs.YtkeaoejgboefbaaGreatDoor
open Go.RowKit Go.Maps

theorem FewC.args {l : List E.Cell} {m : Int} (h : FewC l m) : ∀ c ∈ l, c.2.2.1.length ≤ 1000 := fun c hc => by have := (h.2 c hc).2.1; omega
end Go.Proofs.YtkeaoejgboefbaaGreatDoor

/- An engine and its model, as the laws hold them. -/
namespace Go.Proofs.YtkeaoejgboefbaaGreatDoor
open Go.RowKit Go.Maps

/-- An engine and its model (a 'both' at block g). D: the blocks that are theirs; base: what lies below was there. -/
structure BothRow (w : World) (base : Nat) (D : Nat → Prop) (g : Nat) (S S2 : Nat → Prop) (ge bc bi br : Nat) (p : Plc) (ft : Int) (e : E.En) : Prop where
  at' : p.g = g ∧ p.o = 1 ∧ p.pr 0 = some (.pointer (some ⟨ge, 0, none⟩))
  eng : EngAt w S ge bc bi br e
  ref : RefAt w S2 p 0 ft [] e
  dom : ∀ k, D k → base ≤ k ∧ k < w.heap.size
  mine : D ge ∧ D bc ∧ D bi ∧ D br ∧ D g ∧ D p.bv ∧ D p.bm
  sub : ∀ k, S k → D k
  sub2 : ∀ k, S2 k → D k ∨ k < base
  apart : ∀ k, (k = g ∨ k = p.bv ∨ k = p.bm) → k ≠ ge ∧ k ≠ bc ∧ k ≠ bi ∧ k ≠ br ∧ ¬ S k
  apart2 : ¬ S2 ge ∧ ¬ S2 bi ∧ ¬ S2 br
def BothAt (w : World) (base : Nat) (D : Nat → Prop) (g : Nat) (e : E.En) : Prop := ∃ S S2 ge bc bi br p ft, BothRow w base D g S S2 ge bc bi br p ft e
section
variable {w w' : World} {base g : Nat} {D : Nat → Prop} {S S2 : Nat → Prop} {ge bc bi br : Nat} {p : Plc} {ft : Int} {e : E.En}
theorem BothRow.ptr (h : BothRow w base D g S S2 ge bc bi br p ft e) : w.cell? ⟨g, 0, none⟩ = some (.pointer (some ⟨ge, 0, none⟩)) := by
  obtain ⟨h1, h2, h3⟩ := h.at'
  rw [← h3, ← h1]
  exact h.ref.row.pre (by omega)
theorem BothRow.tch (h : BothRow w base D g S S2 ge bc bi br p ft e) {X : Nat → Prop} (ht : Tch X w w') (hX : ∀ k, X k → ¬ D k ∧ base ≤ k) : BothRow w' base D g S S2 ge bc bi br p ft e := by
  obtain ⟨m1, m2, m3, m4, m5, m6, m7⟩ := h.mine
  refine ⟨h.at', h.eng.tch ht fun k hk => ?_, h.ref.tch ht fun k hk => ?_, fun k hk => ⟨(h.dom k hk).1, Nat.lt_of_lt_of_le (h.dom k hk).2 ht.size⟩, h.mine, h.sub, h.sub2, h.apart, h.apart2⟩
  · obtain ⟨h1, h2⟩ := hX k hk
    exact ⟨fun e => h1 (e ▸ m1), fun e => h1 (e ▸ m2), fun e => h1 (e ▸ m3), fun e => h1 (e ▸ m4), fun hs => h1 (h.sub k hs)⟩
  · obtain ⟨h1, h2⟩ := hX k hk
    refine ⟨fun e => h1 (by rw [e, h.at'.1]; exact m5), fun e => h1 (e ▸ m6), fun e => h1 (e ▸ m7), fun hs => ?_⟩
    rcases h.sub2 k hs with h3 | h3
    · exact h1 h3
    · omega
theorem BothRow.ext (h : BothRow w base D g S S2 ge bc bi br p ft e) (he : Ext w w') : BothRow w' base D g S S2 ge bc bi br p ft e := h.tch (he.tch fun _ => False) fun _ hk => hk.elim
theorem BothAt.tch (h : BothAt w base D g e) {X : Nat → Prop} (ht : Tch X w w') (hX : ∀ k, X k → ¬ D k ∧ base ≤ k) : BothAt w' base D g e := by
  obtain ⟨S, S2, ge, bc, bi, br, p, ft, h⟩ := h
  exact ⟨S, S2, ge, bc, bi, br, p, ft, h.tch ht hX⟩
theorem BothAt.ext (h : BothAt w base D g e) (he : Ext w w') : BothAt w' base D g e := h.tch (he.tch fun _ => False) fun _ hk => hk.elim
theorem BothAt.dom (h : BothAt w base D g e) : ∀ k, D k → base ≤ k ∧ k < w.heap.size := by
  obtain ⟨S, S2, ge, bc, bi, br, p, ft, h⟩ := h
  exact h.dom
/-- Both parts have turned. -/
theorem BothRow.turned (h : BothRow w base D g S S2 ge bc bi br p ft e) {w1 w2 : World} {S' S2' : Nat → Prop} {br' : Nat} {bm om cm : Nat} {ft' : Int} {e' : E.En} (hbase : base ≤ w.heap.size)
    (ht : Tch (fun k => k = ge ∨ k = bi ∨ k = br) w w1) (he : EngAt w1 S' ge bc bi br' e') (hS : ∀ k, S' k → S k ∨ w.heap.size ≤ k) (hb : br' = br ∨ w.heap.size ≤ br')
    (ht2 : Tch (fun k => k = p.g ∨ k = p.bv ∨ k = p.bm) w1 w2) (hr : RefAt w2 S2' { p with bm := bm, om := om, cm := cm } 0 ft' [] e') (hS2 : ∀ k, S2' k → S2 k ∨ w1.heap.size ≤ k) (hm : bm = p.bm ∨ w1.heap.size ≤ bm) :
    Tch D w w2 ∧ BothRow w2 base (fun k => k < w2.heap.size ∧ (D k ∨ w.heap.size ≤ k)) g S' S2' ge bc bi br' { p with bm := bm, om := om, cm := cm } ft' e' := by
  obtain ⟨m1, m2, m3, m4, m5, m6, m7⟩ := h.mine
  obtain ⟨a1, a2, a3⟩ := h.apart2
  have hg := h.at'.1
  have d1 := (h.dom _ m1).2
  have d2 := (h.dom _ m2).2
  have d3 := (h.dom _ m3).2
  have d4 := (h.dom _ m4).2
  have d5 := (h.dom _ m5).2
  have d6 := (h.dom _ m6).2
  have d7 := (h.dom _ m7).2
  have s1 := ht.size
  have s2 := ht2.size
  have hS'w : ∀ k, S' k → k < w1.heap.size := he.lt
  have hbr' : br' < w1.heap.size := by obtain ⟨f, hf, _⟩ := he.results; exact hf.lt
  have hbm : bm < w2.heap.size := hr.memos.lt
  have key : ∀ k, (k = g ∨ k = p.bv ∨ k = p.bm) → k ≠ ge ∧ k ≠ bc ∧ k ≠ bi ∧ k ≠ br' ∧ ¬ S' k := fun k hk => by
    obtain ⟨b1, b2, b3, b4, b5⟩ := h.apart k hk
    have hkw : k < w.heap.size := by rcases hk with rfl | rfl | rfl <;> assumption
    refine ⟨b1, b2, b3, fun e => ?_, fun hs => ?_⟩
    · rcases hb with hb | hb
      · exact b4 (e.trans hb)
      · omega
    · rcases hS k hs with h1 | h1
      · exact b5 h1
      · omega
  refine ⟨(ht.mono fun k _ hk => ?_).trans' ht2 fun k _ hk => ?_, h.at', ?_, hr, fun k hk => ⟨?_, hk.1⟩, ⟨⟨by omega, .inl m1⟩, ⟨by omega, .inl m2⟩, ⟨by omega, .inl m3⟩, ⟨by omega, ?_⟩, ⟨by omega, .inl m5⟩, ⟨by show p.bv < _; omega, .inl m6⟩, ⟨hbm, ?_⟩⟩, fun k hk => ⟨by have := hS'w k hk; omega, ?_⟩, fun k hk => ?_, fun k hk => ?_, fun hs => ?_, fun hs => ?_, fun hs => ?_⟩
  · rcases hk with rfl | rfl | rfl <;> assumption
  · rcases hk with rfl | rfl | rfl
    · rw [hg]; exact m5
    · exact m6
    · exact m7
  · refine he.tch ht2 fun k hk => key k ?_
    rw [hg] at hk
    exact hk
  · rcases hk.2 with h1 | h1
    · exact (h.dom k h1).1
    · omega
  · rcases hb with rfl | hb
    · exact .inl m4
    · exact .inr hb
  · rcases hm with hm | hm
    · exact .inl (by show D bm; rw [hm]; exact m7)
    · exact .inr (by show _ ≤ bm; omega)
  · rcases hS k hk with h1 | h1
    · exact .inl (h.sub k h1)
    · exact .inr h1
  · have hlt := hr.lt k hk
    rcases hS2 k hk with h1 | h1
    · rcases h.sub2 k h1 with h2 | h2
      · exact .inl ⟨hlt, .inl h2⟩
      · exact .inr h2
    · exact .inl ⟨hlt, .inr (by omega)⟩
  · rcases hk with hk | hk | hk
    · exact key k (.inl hk)
    · exact key k (.inr (.inl hk))
    · rcases hm with hm | hm
      · exact key k (.inr (.inr (hk.trans hm)))
      · have hk : k = bm := hk
        refine ⟨by omega, by omega, by omega, by omega, fun hs => ?_⟩
        have := hS'w k hs
        omega
  · rcases hS2 _ hs with h1 | h1
    · exact a1 h1
    · omega
  · rcases hS2 _ hs with h1 | h1
    · exact a2 h1
    · omega
  · rcases hS2 _ hs with h1 | h1
    · rcases hb with hb | hb
      · exact a3 (hb ▸ h1)
      · have := h.ref.lt _ h1
        omega
    · omega
end
end Go.Proofs.YtkeaoejgboefbaaGreatDoor

/- licitlaw56.start. -/
namespace Go.Proofs.YtkeaoejgboefbaaGreatDoor
open Go.RowKit Go.Maps

/-- What start answers. -/
def RetStart (w : World) (cs : List E.Cell) (ed : Ending) (w' : World) : Prop := Ext w w' ∧
  ((E.newErr cs ≠ 0 ∧ ed = .returned (.tuple #[.pointer none, .bool true])) ∨
   (E.newErr cs = 0 ∧ ∃ g D, ed = .returned (.tuple #[.pointer (some ⟨g, 0, none⟩), .bool true]) ∧ BothAt w' w.heap.size D g (E.fresh cs)))
/-- The two are joined. -/
theorem start_made {w w1 w3 w4 W5 : World} {cs : List E.Cell} {A : Option Addr} {n kc bv bm : Nat} {S : Nat → Prop} (hA : SliceAt cellR w (Old w) A kc cs) (hn : n = cs.length)
    (x1 : Ext w w1) (hv : VRow w1 bv 0 n fun _ => none) (hm : MRow w1 (Old w) bm 0 n (fun _ => none) fun _ => false) (l1 : w.heap.size ≤ bv) (l2 : w.heap.size ≤ bm) (hne : bv ≠ bm)
    (x3 : Ext w1 w3) (hf : Fresh w3 S cs w4) (x5 : Ext w4 W5) (hr : W5.heap[w4.heap.size]? = some (.cells #[.pointer (some ⟨w3.heap.size + 3, 0, none⟩), .slice A n kc, .slice (some ⟨bv, 0, none⟩) n n, .slice (some ⟨bm, 0, none⟩) n n, .int .i64 0, .int .i64 0, .int .i64 0] 42 (0, 0))) :
    BothAt W5 w.heap.size (fun k => w.heap.size ≤ k ∧ k < W5.heap.size) w4.heap.size (E.fresh cs) := by
  subst hn
  have x15 : Ext w1 W5 := (x3.trans hf.ext).trans x5
  have x05 := x1.trans x15
  have s1 := x1.size
  have s3 := x3.size
  have s4 := hf.ext.size
  have s5 := x5.size
  have lg : w4.heap.size < W5.heap.size := (Array.getElem?_eq_some_iff.1 hr).1
  have lbv := hv.lt
  have lbm := hm.lt
  have lr := hf.row.lt
  refine ⟨S, Old w, w3.heap.size + 3, w3.heap.size, w3.heap.size + 1, w3.heap.size + 2, ⟨w4.heap.size, 1, fun _ => some (.pointer (some ⟨w3.heap.size + 3, 0, none⟩)), A, kc, bv, 0, cs.length, bm, 0, cs.length⟩, 0, ⟨rfl, rfl, rfl⟩, hf.engAt.ext x5, ?_, fun k hk => hk, ⟨⟨by omega, by omega⟩, ⟨by omega, by omega⟩, ⟨by omega, by omega⟩, ⟨by omega, by omega⟩, ⟨by omega, by omega⟩, ⟨l1, by show bv < _; omega⟩, ⟨l2, by show bm < _; omega⟩⟩, fun k hk => ?_, fun k hk => .inr hk, fun k hk => ?_, ?_⟩
  · refine ⟨⟨_, 42, hr, rfl, rfl, rfl, rfl, rfl, rfl, fun i hi => ?_⟩, hA.keep (fun _ h => h) fun k hk => x05.block k hk, hv.tch (x15.tch fun _ => False) (fun h => h), hm.tch (x15.tch fun _ => False) (fun h => h) (fun k hk => ⟨Nat.lt_of_lt_of_le hk s1, fun h => h⟩) fun _ hk => hk, ⟨Nat.le_refl _, Nat.le_refl _⟩, ⟨by show w4.heap.size ≠ bv; omega, by show w4.heap.size ≠ bm; omega, hne⟩, ⟨fun h => by have h : w4.heap.size < w.heap.size := h; omega, fun h => by have h : bv < w.heap.size := h; omega, fun h => by have h : bm < w.heap.size := h; omega⟩, fun k hk => Nat.lt_of_lt_of_le hk x05.size⟩
    have hi : i < 1 := hi
    obtain rfl : i = 0 := by omega
    rfl
  · have := hf.sup k hk
    omega
  · have hk : k = w4.heap.size ∨ k = bv ∨ k = bm := hk
    refine ⟨by omega, by omega, by omega, by omega, fun hs => ?_⟩
    have := hf.sup k hs
    omega
  · refine ⟨fun h => ?_, fun h => ?_, fun h => ?_⟩
    · have h : w3.heap.size + 3 < w.heap.size := h
      omega
    · have h : w3.heap.size + 1 < w.heap.size := h
      omega
    · have h : w3.heap.size + 2 < w.heap.size := h
      omega
set_option maxRecDepth 100000 in
set_option maxHeartbeats 2000000 in
theorem start_any {w : World} {A : Option Addr} {kc n : Nat} {cs : List E.Cell} (hA : SliceAt cellR w (Old w) A kc cs) (hn : n = cs.length) (harg : ∀ c ∈ cs, c.2.2.1.length ≤ 1000) (hl : n ≤ 1000000) :
    Calls Tryz.prog 10 #[.slice A n kc] w (RetStart w cs) := by
  have HRN := Lib.hid (refNew_any hA hn harg)
  have HCP := Lib.hid (fun W (h : Ext w W) => cp_any (hA.ext h) hn harg hl)
  have HNW := Lib.hid (fun (W : World) (A' : Option Addr) (k' n' : Nat) (h1 : SliceAt cellR W (Old W) A' k' cs) (h2 : n' = cs.length) => New_any h1 h2 harg)
  have HA := Lib.hid hA
  have HN := Lib.hid hn
  clear hA hn harg hl
  go_enter Tryz.func10, Tryz.ntmps10
  go_wp2_with fail
  refine HRN.out.mono ?_
  rintro ed w1 ⟨x1, hr⟩
  have HX1 := Lib.hid x1
  clear x1
  rcases hr with ⟨h0, rfl⟩ | ⟨h0, bv, bm, rfl, l1, l2, hne, hv, hm⟩
  · have H0 := Lib.hid h0
    have hx1 : (E.newErr cs == 0) = false := by rw [beq_eq_false_iff_ne]; exact h0
    have hx2 : (E.newErr cs != 0) = true := by rw [bne, hx1]; rfl
    obtain ⟨x, hx⟩ : ∃ x, x = E.newErr cs := ⟨_, rfl⟩
    have HX := Lib.hid hx
    rw [← hx] at hx1 hx2 ⊢
    clear h0 hx
    go_upto_region 2 with (fail)
    obtain ⟨W2, hW2⟩ : ∃ W2, W2 = w1.alloc (.cells #[.slice none 0 0, .slice none 0 0, .slice none 0 0, .int .i64 0, .int .i64 0, .int .i64 0] 40) := ⟨_, rfl⟩
    rw [← hW2]
    have HX2 : Hid (Ext w W2) := Lib.hid (by rw [hW2]; exact HX1.out.alloc _)
    clear hW2
    go_wp2_with fail
    refine (HCP.out _ HX2.out).mono ?_
    rintro ed w3 ⟨A', k', n', hn', rfl, hs', x3⟩
    have HX3 := Lib.hid (HX2.out.trans x3)
    have HN3 := Lib.hid (HNW.out w3 A' k' n' hs' hn')
    clear hn' hs' x3
    go_wp2_with fail
    refine HN3.out.mono ?_
    rintro ed w4 ⟨x4, hr⟩
    rcases hr with ⟨_, rfl⟩ | ⟨h1, _⟩
    · have HX4 := Lib.hid (HX3.out.trans x4)
      rw [← HX.out]
      clear x4
      go_wp2_with fail
      go_ret2
      exact ⟨HX4.out, .inl ⟨H0.out, rfl⟩⟩
    · exact absurd h1 H0.out
  · have H0 := Lib.hid h0
    have HB := Lib.hid (And.intro l1 (And.intro l2 (And.intro hne (And.intro hv hm))))
    clear h0 l1 l2 hne hv hm
    go_upto_region 2 with (fail)
    obtain ⟨W2, hW2⟩ : ∃ W2, W2 = w1.alloc (.cells #[.slice A n kc, .slice (some ⟨bv, 0, none⟩) n n, .slice (some ⟨bm, 0, none⟩) n n, .int .i64 0, .int .i64 0, .int .i64 0] 40) := ⟨_, rfl⟩
    rw [← hW2]
    have HX2 : Hid (Ext w1 W2) := Lib.hid (by rw [hW2]; exact (Ext.refl w1).alloc _)
    have K2 : Hid (W2.heap[w1.heap.size]? = some (.cells #[.slice A n kc, .slice (some ⟨bv, 0, none⟩) n n, .slice (some ⟨bm, 0, none⟩) n n, .int .i64 0, .int .i64 0, .int .i64 0] 40 (0, 0))) := Lib.hid (by rw [hW2]; exact heap_alloc_new w1 _)
    clear hW2
    go_wp2_with fail
    refine (HCP.out _ (HX1.out.trans HX2.out)).mono ?_
    rintro ed w3 ⟨A', k', n', hn', rfl, hs', x3⟩
    have HX3 := Lib.hid (HX2.out.trans x3)
    have HX23 := Lib.hid x3
    have HN3 := Lib.hid (HNW.out w3 A' k' n' hs' hn')
    clear hn' hs' x3
    go_wp2_with fail
    refine HN3.out.mono ?_
    rintro ed w4 ⟨x4, hr⟩
    rcases hr with ⟨h1, _⟩ | ⟨_, rfl, S, hf⟩
    · exact absurd H0.out h1
    · have HF := Lib.hid hf
      have HX24 := Lib.hid (HX23.out.trans x4)
      have K4 : Hid (w4.heap[w1.heap.size]? = some (.cells #[.slice A n kc, .slice (some ⟨bv, 0, none⟩) n n, .slice (some ⟨bm, 0, none⟩) n n, .int .i64 0, .int .i64 0, .int .i64 0] 40 (0, 0))) := Lib.hid ((HX24.out.block _ (Array.getElem?_eq_some_iff.1 K2.out).1).trans K2.out)
      have r0 : w4.cell? ⟨w1.heap.size, 0, none⟩ = some (.slice A n kc) := by rw [new_off K4.out]; rfl
      have r1 : w4.cell? ⟨w1.heap.size, 1, none⟩ = some (.slice (some ⟨bv, 0, none⟩) n n) := by rw [new_off K4.out]; rfl
      have r2 : w4.cell? ⟨w1.heap.size, 2, none⟩ = some (.slice (some ⟨bm, 0, none⟩) n n) := by rw [new_off K4.out]; rfl
      have r3 : w4.cell? ⟨w1.heap.size, 3, none⟩ = some (.int .i64 0) := by rw [new_off K4.out]; rfl
      have r4 : w4.cell? ⟨w1.heap.size, 4, none⟩ = some (.int .i64 0) := by rw [new_off K4.out]; rfl
      have r5 : w4.cell? ⟨w1.heap.size, 5, none⟩ = some (.int .i64 0) := by rw [new_off K4.out]; rfl
      clear hf x4
      go_wp2_with fail
      go_ret2
      obtain ⟨l1, l2, hne, hv, hm⟩ := HB.out
      refine ⟨?_, .inr ⟨H0.out, _, _, rfl, start_made HA.out HN.out HX1.out hv hm l1 l2 hne HX3.out HF.out ((Ext.refl _).alloc _) (heap_alloc_new _ _)⟩⟩
      exact ((HX1.out.trans HX3.out).trans HF.out.ext).alloc _
end Go.Proofs.YtkeaoejgboefbaaGreatDoor
