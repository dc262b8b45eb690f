/- normalize.Common. -/
import Derived.Test.YtmibpagajenndaaDoorPe
namespace Go.Proofs.YtmibpagajenndaaDoor
open Go.RowKit

theorem boxes2 {w w1 : World} {x y z u : Value} {t : TypeId} (h : Ext ((w.alloc (.cells #[x, y] t)).alloc (.cells #[z, u] t)) w1) :
    w1.cell? ⟨w.heap.size, 0, none⟩ = some x ∧ w1.cell? ⟨w.heap.size, 1, none⟩ = some y ∧ w1.cell? ⟨w.heap.size + 1, 0, none⟩ = some z ∧ w1.cell? ⟨w.heap.size + 1, 1, none⟩ = some u ∧ Ext w w1 := by
  have e1 : (w.alloc (.cells #[x, y] t)).heap.size = w.heap.size + 1 := by simp
  refine ⟨h.keepc (alloc_keepc _ (cell_new w #[x, y] t 0)), h.keepc (alloc_keepc _ (cell_new w #[x, y] t 1)), h.keepc ?_, h.keepc ?_, (((Ext.refl w).alloc _).alloc _).trans h⟩
  · rw [← e1]; exact cell_new _ #[z, u] t 0
  · rw [← e1]; exact cell_new _ #[z, u] t 1
theorem run_slice_from {P : Program} {α : Type} {r : Rep α} {w : World} {S : Nat → Prop} {A : Option Addr} {c n i : Nat} {l : List α} (t : TypeId) (ht : P.underlying t = some (.slice (P.elem t))) (hs : ∀ w', (sizeOf (P.elem t)).run P w' = .ok r.size w')
    (h : SliceAt r w S A c l) (hn : n = l.length) (hi : i ≤ n) :
    ∃ A', (∀ w', (Instr.slice t (.slice A n c) (some (.int .i64 (i : Int))) none none).run P w' = .ok (.slice A' (n - i) (c - i)) w') ∧ SliceAt r w S A' (c - i) (l.drop i) := by
  refine ⟨if c = i then A else A.map (·.add (i * r.size)), fun w' => ?_, ?_⟩
  · rw [run_slice_l w' t A n c ht .i64 i (by omega) (by omega), hs]
    simp [Result.andThen, sliced]
  · have hc := h.1
    have := h.cut i n hi (by omega) (if c = i then A else A.map (·.add (i * r.size))) (fun hlt b off hA => by
      rw [if_neg (by omega), hA]; simp [Addr.add_lit])
    rwa [List.take_of_length_le (by simp; omega)] at this
/-- The first n words behind two places have the same texts. -/
def sameRun (a b : List (ByteArray × Int)) (i j n : Nat) : Prop := ∀ t, t < n → (a[i + t]?).map (·.1) = (b[j + t]?).map (·.1)
/-- What Common returns. -/
def comRet (a b : List (ByteArray × Int)) (i j : Nat) (w : World) (e : Ending) (w' : World) : Prop := ∃ n : Nat, e = .returned (.int .i64 n) ∧ i + n ≤ a.length ∧ j + n ≤ b.length ∧ sameRun a b i j n ∧ Ext w w'

/-- The cells of word k. -/
theorem lex_get {w : World} {A : Option Addr} {c k : Nat} {l : List (ByteArray × Int)} (h : SliceAt lexR w (Old w) A c l) (hk : k < l.length) :
    ∃ b off s n, A = some ⟨b, off, none⟩ ∧ l[k]? = some (s, n) ∧ s.size ≤ 9223372036854775807 ∧ ∀ w', Ext w w' → w'.cell? ⟨b, off + k * 2, none⟩ = some (.string s) ∧ w'.cell? ⟨b, off + k * 2 + 1, none⟩ = some (.int .i64 n) := by
  obtain ⟨b, off, rfl, _, hr⟩ := h.2.2 (by intro h; rw [h] at hk; simp at hk)
  obtain ⟨c0, c1, hs⟩ := lex_cells hr k hk
  exact ⟨b, off, l[k].1, l[k].2, rfl, by simp [List.getElem?_eq_getElem hk], hs, fun w' h' => ⟨h'.keepc c0, h'.keepc c1⟩⟩
theorem same_snoc {a b : List (ByteArray × Int)} {i j k : Nat} {s : ByteArray} {n m : Int} (h : sameRun a b i j k) (ha : (a.drop i)[k]? = some (s, n)) (hb : (b.drop j)[k]? = some (s, m)) : sameRun a b i j (k + 1) := by
  intro t ht
  by_cases htk : t = k
  · subst htk
    rw [List.getElem?_drop] at ha hb
    rw [ha, hb]
    rfl
  · exact h t (by omega)
theorem str_same {s t : ByteArray} (h : (s.toList == t.toList) = true) : s = t := by
  have : s.toList = t.toList := by simpa using h
  rw [ByteArray.toList_eq, ByteArray.toList_eq] at this
  exact ByteArray.ext (Array.toList_inj.1 this)

set_option maxRecDepth 8000 in
set_option maxHeartbeats 1000000 in
theorem Common_any (pa pb : ByteArray) (a b : List (ByteArray × Int)) (A B : Option Addr) (ca cb na nb i j : Nat) (m : Int) (w : World) (hna : na = a.length) (hnb : nb = b.length) (hpa : pa.size ≤ 1000000) (hpb : pb.size ≤ 1000000) (hA : SliceAt lexR w (Old w) A ca a) (hB : SliceAt lexR w (Old w) B cb b)
    (hla : na ≤ 8192) (hlb : nb ≤ 8192) (hwa : ∀ x ∈ a, x.1.size ≤ 9000000) (hwb : ∀ x ∈ b, x.1.size ≤ 9000000) (hm : w.cell? ⟨0, 0, none⟩ = some (.int .i64 m)) (hi : i ≤ na) (hj : j ≤ nb) :
    Calls Tryd.prog 8 #[.agg #[.string pa, .slice A na ca], .int .i64 i, .agg #[.string pb, .slice B nb cb], .int .i64 j] w (comRet a b i j w) := by
  have va := fun w' (h : Ext w w') => Valid_any pa a A ca na m w' hna hpa (hA.ext h) hla hwa (h.keepc hm)
  have vb := fun w' (h : Ext w w') => Valid_any pb b B cb nb m w' hnb hpb (hB.ext h) hlb hwb (h.keepc hm)
  obtain ⟨ta, hta⟩ : ∃ t, t = textB pa a := ⟨_, rfl⟩
  obtain ⟨tb, htb⟩ : ∃ t, t = textB pb b := ⟨_, rfl⟩
  rw [← hta] at va
  rw [← htb] at vb
  have VA := Lib.hid va
  have VB := Lib.hid vb
  have HA := Lib.hid hA
  have HB := Lib.hid hB
  have HNA := Lib.hid hna
  have HNB := Lib.hid hnb
  clear va vb hta htb hA hB hna hnb hwa hwb hm
  obtain ⟨Z, hZ⟩ : ∃ Z, Z = comRet a b i j w := ⟨_, rfl⟩
  rw [← hZ]
  have HZ := Lib.hid hZ
  clear hZ
  cases ta
  · go_enter Tryd.func8, Tryd.ntmps8
    go_wp2_with fail
    refine (VA.out _ (((Ext.refl w).alloc _).alloc _)).mono ?_
    rintro e w1 ⟨rfl, d1⟩
    go_wp2_with fail
    rw [HZ.out]
    exact ⟨0, rfl, by have := HNA.out; omega, by have := HNB.out; omega, fun t ht => absurd ht (Nat.not_lt_zero _), (((Ext.refl w).alloc _).alloc _).trans d1⟩
  · cases tb
    all_goals
      go_enter Tryd.func8, Tryd.ntmps8
      go_wp2_with fail
      refine (VA.out _ (((Ext.refl w).alloc _).alloc _)).mono ?_
      rintro e w1 ⟨rfl, d1⟩
      obtain ⟨b0, b1, b2, b3, e1⟩ := boxes2 d1
      clear d1
      go_wp2_with fail
      refine (VB.out _ e1).mono ?_
      rintro e w2 ⟨rfl, d2⟩
      have g0 := d2.keepc b0
      have g1 := d2.keepc b1
      have g2 := d2.keepc b2
      have g3 := d2.keepc b3
      have e2 := e1.trans d2
      clear b0 b1 b2 b3
    · go_wp2_with fail
      rw [HZ.out]
      exact ⟨0, rfl, by have := HNA.out; omega, by have := HNB.out; omega, fun t ht => absurd ht (Nat.not_lt_zero _), e2⟩
    · have hca : na ≤ ca ∧ ca ≤ 9223372036854775807 := ⟨by have := HA.out.1; have := HNA.out; omega, HA.out.2.1⟩
      have hcb : nb ≤ cb ∧ cb ≤ 9223372036854775807 := ⟨by have := HB.out.1; have := HNB.out; omega, HB.out.2.1⟩
      obtain ⟨A', sa, hA'⟩ := run_slice_from (P := Tryd.prog) 22 Tryd.underlying22 (fun w' => by kernel_rfl) HA.out HNA.out hi
      obtain ⟨B', sb, hB'⟩ := run_slice_from (P := Tryd.prog) 22 Tryd.underlying22 (fun w' => by kernel_rfl) HB.out HNB.out hj
      obtain ⟨nx, hnx⟩ : ∃ nx, na - i = nx := ⟨_, rfl⟩
      obtain ⟨ny, hny⟩ : ∃ ny, nb - j = ny := ⟨_, rfl⟩
      obtain ⟨cx, hcx⟩ : ∃ cx, ca - i = cx := ⟨_, rfl⟩
      obtain ⟨cy, hcy⟩ : ∃ cy, cb - j = cy := ⟨_, rfl⟩
      rw [hnx, hcx] at sa
      rw [hcx] at hA'
      rw [hny, hcy] at sb
      rw [hcy] at hB'
      have hx2 : nx ≤ 8192 := by omega
      have hy2 : ny ≤ 8192 := by omega
      have HNX := Lib.hid hnx
      have HNY := Lib.hid hny
      have HA' := Lib.hid hA'
      have HB' := Lib.hid hB'
      clear hA' hB' hnx hny hcx hcy
      go_wp2_with fail
      go_quiet (fail)
      go_wp2_with fail
      clear sa sb g0 g1 g2 g3
      go_loopw [11] (fun v wr => ∃ k : Nat, k ≤ nx ∧ k ≤ ny ∧ v = .int .i64 k ∧ Hid (sameRun a b i j k) ∧ Ext w wr) (fun v _ => nx - (intOf v).toNat)
      case atStart => exact ⟨0, Nat.zero_le _, Nat.zero_le _, rfl, fun t ht => absurd ht (Nat.not_lt_zero _), e2.drewN _⟩
      case round =>
        obtain ⟨k, hk1, hk2, rfl, HS, hd⟩ := hrel
        have fin : ∀ w', Ext w w' → Z (.returned (.int .i64 (k : Int))) w' := fun w' hw' => by
          rw [HZ.out]
          exact ⟨k, rfl, by have := HNA.out; have := HNX.out; omega, by have := HNB.out; have := HNY.out; omega, HS.out, hw'⟩
        have FIN := Lib.hid fin
        clear fin
        by_cases h1 : k < nx
        · have d1 : decide (k < nx) = true := decide_eq_true h1
          by_cases h2 : k < ny
          · have d2 : decide (k < ny) = true := decide_eq_true h2
            obtain ⟨bA, oA, s, n1, rfl, hs, _, cs⟩ := lex_get HA'.out (k := k) (by simp; have := HNA.out; have := HNX.out; omega)
            obtain ⟨bB, oB, t, n2, rfl, ht, _, ct⟩ := lex_get HB'.out (k := k) (by simp; have := HNB.out; have := HNY.out; omega)
            have c0 := (cs wr hd).1
            have c1 := (ct wr hd).1
            have HS1 := Lib.hid hs
            have HT1 := Lib.hid ht
            clear cs ct hs ht
            cases hst : (s.toList == t.toList) with
            | true =>
              have hn : sameRun a b i j (k + 1) := same_snoc HS.out HS1.out (by rw [str_same hst]; exact HT1.out)
              have HN := Lib.hid hn
              clear hn
              go_wp2_with fail
              go_quiet (fail)
              go_wp2_with fail
              go_roundw
              case rel => exact ⟨k + 1, by omega, by omega, by go_num, HN.out, hd.drewN _⟩
              case measure => simp [intOf]; omega
            | false =>
              go_wp2_with fail
              go_quiet (fail)
              go_wp2_with fail
              exact FIN.out _ (hd.drewN _)
          · have d2 : decide (k < ny) = false := decide_eq_false h2
            go_wp2_with fail
            go_quiet (fail)
            go_wp2_with fail
            exact FIN.out _ (hd.drewN _)
        · have d1 : decide (k < nx) = false := decide_eq_false h1
          go_wp2_with fail
          go_quiet (fail)
          go_wp2_with fail
          exact FIN.out _ (hd.drewN _)

end Go.Proofs.YtmibpagajenndaaDoor
