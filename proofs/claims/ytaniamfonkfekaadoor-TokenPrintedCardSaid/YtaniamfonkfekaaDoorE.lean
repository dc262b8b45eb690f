/- Contracts of token's valid, Print, Name. -/
import Derived.Test.YtaniamfonkfekaaDoorD
import Derived.Test.YtaniamfonkfekaaDoorShelfB
namespace Go.Proofs.YtaniamfonkfekaaDoor
open Go.RowKit Go.Lib

def K.valid (k : Int) (l : List UInt8) : Bool := decide (K.nxt l = (k, l.length, 0))
theorem K.valid_nil (k : Int) : K.valid k [] = false := by simp [K.valid, K.nxt]

set_option maxHeartbeats 1000000 in
theorem valid_any (k : Int) (s : ByteArray) (w : World) (hs : s.size ≤ 9223372036854775807) : Calls Tryd.prog 13 #[.agg #[.int .i64 k, .string s]] w (Al (.bool (K.valid k s.data.toList)) w) := by
  by_cases h0 : 0 < s.size
  · obtain ⟨p1, p2, p3⟩ := str_pos s h0
    obtain ⟨k2, m, er, hnx⟩ : ∃ k m er, K.nxt s.data.toList = (k, m, er) := ⟨_, _, _, rfl⟩
    have HV := Lib.hid (nextV_of hnx)
    have hvd : Hid (K.valid k s.data.toList = decide ((k2, m, er) = (k, s.size, (0 : Int)))) := by unfold Hid K.valid; rw [hnx, size_list]
    have hml : er = 0 → m ≤ s.size := fun h => by have := (K.nxt_len s.data.toList (by rw [hnx]; exact h)).2; rw [hnx, size_list] at this; exact this
    clear p3 hnx
    by_cases he : er = 0
    · subst he
      have hm := hml rfl
      have key : ∀ (h1 : k2 = k) (b2 : Bool), (decide (m = s.size)) = b2 → Calls Tryd.prog 13 #[.agg #[.int .i64 k, .string s]] w (Al (.bool (K.valid k s.data.toList)) w) := by
        intro h1 b2 hb2
        subst h1
        cases b2
        · have hne : ¬ (s.extract 0 m).toList = s.toList := by
            intro h
            rw [ByteArray.toList_eq, ByteArray.toList_eq, Lib.extract_data] at h
            have := congrArg List.length h
            rw [decide_eq_false_iff_not] at hb2
            simp at this
            omega
          have hv : Hid (K.valid k2 s.data.toList = false) := by
            unfold Hid
            rw [hvd.out]
            simp at hb2 ⊢
            exact hb2
          have HM := Lib.hid hb2
          clear hb2
          go_enter Tryd.func13, Tryd.ntmps13
          go_wp2_with fail
          refine (next_any _ _ h0 hs).mono ?_
          rw [HV.out]
          rintro e w1 ⟨rfl, d1⟩
          have c0 : w1.cell? ⟨w.heap.size, 0, none⟩ = some (.int .i64 k2) := d1.keepc (cell_new w #[.int .i64 k2, .string s] 37 0)
          have c1 : w1.cell? ⟨w.heap.size, 1, none⟩ = some (.string s) := d1.keepc (cell_new w #[.int .i64 k2, .string s] 37 1)
          have hsz : w.heap.size < w1.heap.size := by have := d1.size; simp at this; omega
          go_wp2_with fail
          go_ret
          exact ⟨by rw [hv.out]; rfl, (((Ext.refl w).alloc _).trans d1).alloc _⟩
        · have hne : (s.extract 0 m).toList = s.toList := by
            rw [ByteArray.toList_eq, ByteArray.toList_eq, Lib.extract_data]
            rw [decide_eq_true_eq] at hb2
            rw [hb2, List.drop_zero, Nat.sub_zero]
            exact List.take_of_length_le (by simp)
          have hv : Hid (K.valid k2 s.data.toList = true) := by
            unfold Hid
            rw [hvd.out]
            simp at hb2 ⊢
            exact hb2
          have HM := Lib.hid hb2
          clear hb2
          go_enter Tryd.func13, Tryd.ntmps13
          go_wp2_with fail
          refine (next_any _ _ h0 hs).mono ?_
          rw [HV.out]
          rintro e w1 ⟨rfl, d1⟩
          have c0 : w1.cell? ⟨w.heap.size, 0, none⟩ = some (.int .i64 k2) := d1.keepc (cell_new w #[.int .i64 k2, .string s] 37 0)
          have c1 : w1.cell? ⟨w.heap.size, 1, none⟩ = some (.string s) := d1.keepc (cell_new w #[.int .i64 k2, .string s] 37 1)
          have hsz : w.heap.size < w1.heap.size := by have := d1.size; simp at this; omega
          go_wp2_with fail
          go_ret
          exact ⟨by rw [hv.out]; rfl, (((Ext.refl w).alloc _).trans d1).alloc _⟩
      by_cases hk : k2 = k
      · exact key hk _ rfl
      · have hv : Hid (K.valid k s.data.toList = false) := by
          unfold Hid
          rw [hvd.out]
          simp [hk]
        clear key
        go_enter Tryd.func13, Tryd.ntmps13
        go_wp2_with fail
        refine (next_any _ _ h0 hs).mono ?_
        rw [HV.out]
        rintro e w1 ⟨rfl, d1⟩
        have c0 : w1.cell? ⟨w.heap.size, 0, none⟩ = some (.int .i64 k) := d1.keepc (cell_new w #[.int .i64 k, .string s] 37 0)
        have c1 : w1.cell? ⟨w.heap.size, 1, none⟩ = some (.string s) := d1.keepc (cell_new w #[.int .i64 k, .string s] 37 1)
        have hsz : w.heap.size < w1.heap.size := by have := d1.size; simp at this; omega
        go_wp2_with fail
        go_ret
        exact ⟨by rw [hv.out]; rfl, (((Ext.refl w).alloc _).trans d1).alloc _⟩
    · have hv : Hid (K.valid k s.data.toList = false) := by
        unfold Hid
        rw [hvd.out]
        simp [he]
      have t1 : (er == 0) = false := by simpa using he
      clear he hml
      go_enter Tryd.func13, Tryd.ntmps13
      go_wp2_with fail
      refine (next_any _ _ h0 hs).mono ?_
      rw [HV.out]
      rintro e w1 ⟨rfl, d1⟩
      go_wp2_with fail
      go_ret
      exact ⟨by rw [hv.out]; rfl, (((Ext.refl w).alloc _).trans d1).alloc _⟩
  · have he : s.data.toList = [] := List.eq_nil_of_length_eq_zero (by rw [size_list]; omega)
    have p1 : s.toList = [] := by rw [ByteArray.toList_eq, he]
    have p2 : s.toList.isEmpty = true := by rw [p1]; rfl
    have hv : Hid (K.valid k s.data.toList = false) := by rw [he]; exact K.valid_nil k
    clear he
    go_enter Tryd.func13, Tryd.ntmps13
    go_wp2_with fail
    go_ret
    exact ⟨by rw [hv.out]; rfl, (Ext.refl _).alloc _⟩

/-- A slice of tokens that reads as the list. -/
def ToksAt (w : World) (A : Option Addr) (n : Nat) (l : List Tk) : Prop :=
  n = l.length ∧ l.length ≤ 9223372036854775807 ∧ (∀ t ∈ l, t.2.size ≤ 9223372036854775807) ∧
  (l ≠ [] → ∃ b off, A = some ⟨b, off, none⟩ ∧ ∀ j (h : j < l.length), w.cell? ⟨b, off + j * 2, none⟩ = some (.int .i64 l[j].1) ∧ w.cell? ⟨b, off + j * 2 + 1, none⟩ = some (.string l[j].2))
theorem ToksAt.ext {w w' : World} {A : Option Addr} {n : Nat} {l : List Tk} (h : ToksAt w A n l) (he : Ext w w') : ToksAt w' A n l := by
  refine ⟨h.1, h.2.1, h.2.2.1, fun hl => ?_⟩
  obtain ⟨b, off, e, hc⟩ := h.2.2.2 hl
  exact ⟨b, off, e, fun j hj => ⟨he.keepc (hc j hj).1, he.keepc (hc j hj).2⟩⟩
theorem ToksAt.of_own {w : World} {b : Nat} {v : Value} {l : List Tk} (h : OwnToks w b v l) (hs : ∀ t ∈ l, t.2.size ≤ 9223372036854775807) : ∃ A c, v = .slice A l.length c ∧ ToksAt w A l.length l := by
  by_cases hl : l = []
  · subst hl
    obtain ⟨_, ⟨rfl, _⟩ | ⟨g, off, cap, cur, rfl, _, _, hn, hc, _⟩⟩ := h
    · exact ⟨none, 0, rfl, rfl, by simp, hs, fun h => absurd rfl h⟩
    · exact ⟨_, cap, rfl, rfl, by simp, hs, fun h => absurd rfl h⟩
  · obtain ⟨g, off, cap, rfl, _, _, hn, hc, hcell⟩ := OwnAt.cells h (List.length_pos_iff.2 hl)
    exact ⟨_, cap, rfl, rfl, by omega, hs, fun _ => ⟨g, off, rfl, fun j hj => ⟨hcell _ _ (toks_get l j hj).1, hcell _ _ (toks_get l j hj).2⟩⟩⟩
theorem ToksAt.cells {w : World} {A : Option Addr} {n : Nat} {l : List Tk} (h : ToksAt w A n l) (hn : 0 < n) : ∃ b off, A = some ⟨b, off, none⟩ ∧ ∀ j (h : j < l.length), w.cell? ⟨b, off + j * 2, none⟩ = some (.int .i64 l[j].1) ∧ w.cell? ⟨b, off + j * 2 + 1, none⟩ = some (.string l[j].2) ∧ l[j].2.size ≤ 9223372036854775807 := by
  obtain ⟨h1, h2, h3, h4⟩ := h
  obtain ⟨b, off, e, hc⟩ := h4 (by rintro rfl; simp at h1; omega)
  exact ⟨b, off, e, fun j hj => ⟨(hc j hj).1, (hc j hj).2, h3 _ (List.getElem_mem hj)⟩⟩

def strs (l : List ByteArray) : List Value := l.map Value.string
theorem strs_one (l : List ByteArray) : ∀ u ∈ strs l, u.oneCell' = true := by intro u hu; obtain ⟨n, _, rfl⟩ := List.mem_map.1 hu; rfl
theorem str_info : (Tryd.prog.info? 9).map (fun i => (i.zero, i.size, i.bytes)) = some (some (.string ⟨#[]⟩), 1, 16) := by kernel_rfl
theorem cells_new_strs (w : World) (l : List ByteArray) : ∀ j u, (strs l)[j]? = some u → (w.alloc (.cells (strs l).toArray 9)).cell? ((⟨w.heap.size, 0, none⟩ : Addr).add j) = some u := by
  intro j u hj
  rw [Addr.add_lit, Nat.zero_add, cell_new]
  simpa using hj

def txts (l : List Tk) : List ByteArray := l.map (·.2)
def K.join (l : List Tk) : List UInt8 := Lib.join ((txts l).map (·.data.toList)) [32]
def K.allValid (l : List Tk) : Bool := l.all fun t => K.valid t.1 t.2.data.toList
def K.print (l : List Tk) : List UInt8 × Int := if 256 < l.length then ([], 10) else if K.allValid l then (K.join l, 0) else ([], 1)
theorem txts_snoc (l : List Tk) (k : Nat) (h : k < l.length) : txts (l.take (k + 1)) = txts (l.take k) ++ [l[k].2] := by
  unfold txts
  rw [List.take_succ_eq_append_getElem h, List.map_append]
  rfl
theorem valid_is (k : Int) (s : ByteArray) (b : Bool) (w : World) (hs : s.size ≤ 9223372036854775807) (h : K.valid k s.data.toList = b) : Calls Tryd.prog 13 #[.agg #[.int .i64 k, .string s]] w (Al (.bool b) w) := h ▸ valid_any k s w hs

theorem Join_own {w : World} {base : Nat} {v : Value} {l : List ByteArray} (h : OwnAt w base 9 1 v l.length (strs l)) (hN : l.length ≤ 140737488355328) (hlen : (Lib.join (l.map (·.data.toList)) [32]).length ≤ 140737488355328) :
    Calls Tryd.prog 14 #[v, .string ⟨#[32]⟩] w (Al (.string (str (Lib.join (l.map (·.data.toList)) [32]))) w) := by
  by_cases hl : l = []
  · subst hl
    obtain ⟨A, c, rfl⟩ := own_form h
    refine (Tryd.strings_Join_none A c _ w).mono ?_
    rintro e w' ⟨rfl, rfl⟩
    exact ⟨rfl, Ext.refl _⟩
  · obtain ⟨g, off, cap, rfl, _, hgw, hn, hc, hcell⟩ := OwnAt.cells h (List.length_pos_iff.2 hl)
    exact Tryd.strings_Join g off cap l ⟨#[32]⟩ w (fun j x hj => hcell j _ (by unfold strs; rw [List.getElem?_map, hj]; rfl)) hgw hN hn hlen

set_option maxRecDepth 4000 in
set_option maxHeartbeats 1000000 in
theorem Print_any (l : List Tk) (A : Option Addr) (c n : Nat) (w : World) (hA : ToksAt w A n l) (hlen : (K.join l).length ≤ 140737488355328) :
    Calls Tryd.prog 6 #[.slice A n c] w (Al (.tuple #[.string (str (K.print l).1), .int .i64 (K.print l).2]) w) := by
  obtain ⟨i0, hi, hz0, hz1, hz2⟩ := info_parts str_info
  have hnl := hA.1
  by_cases hbig : 256 < n
  · have hp : Hid (K.print l = ([], 10)) := by unfold Hid K.print; rw [if_pos (by omega)]
    have HNL := Lib.hid hnl
    clear hnl hA
    go_enter Tryd.func6, Tryd.ntmps6
    go_wp2_with fail
    go_ret2
    exact ⟨by rw [hp.out]; rfl, Ext.refl _⟩
  · have hp : Hid (K.print l = if K.allValid l then (K.join l, 0) else ([], 1)) := by unfold Hid K.print; rw [if_neg (by omega)]
    have HNL := Lib.hid hnl
    have HA := Lib.hid hA
    clear hnl hA
    go_enter Tryd.func6, Tryd.ntmps6
    go_wp2_with fail
    go_loopw [4, 12] (fun v i wr => ∃ (k : Nat) (A2 : Option Addr) (c2 : Nat), k ≤ n ∧ i = .int .i64 k ∧ v = .slice A2 k c2 ∧ OwnAt wr w.heap.size 9 1 v k (strs (txts (l.take k))) ∧ Hid (K.allValid (l.take k) = true) ∧ Ext w wr) (fun _ i _ => n - (intOf i).toNat)
    case atStart => exact ⟨0, none, 0, Nat.zero_le _, rfl, rfl, OwnAt.nil _ _ _ _, rfl, Ext.refl _⟩
    case round =>
      obtain ⟨k, A2, c2, hk, rfl, rfl, hown, HAV, hd⟩ := hrel
      by_cases hlt : k < n
      · obtain ⟨b, off, rfl, hc⟩ := HA.out.cells (by omega)
        have hkl : k < l.length := by have := HNL.out; omega
        obtain ⟨c0, c1, hsz⟩ := hc k hkl
        have c0' := hd.keepc c0
        have c1' := hd.keepc c1
        have hsn : Hid (txts (l.take (k + 1)) = txts (l.take k) ++ [l[k].2]) := txts_snoc l k hkl
        have hav : Hid (K.allValid (l.take (k + 1)) = (K.allValid (l.take k) && K.valid l[k].1 l[k].2.data.toList)) := by
          unfold Hid K.allValid
          rw [List.take_succ_eq_append_getElem hkl, List.all_append]
          simp
        obtain ⟨vb, hvb⟩ : ∃ vb, K.valid l[k].1 l[k].2.data.toList = vb := ⟨_, rfl⟩
        rw [hvb] at hav
        have hall : vb = false → K.allValid l = false := by
          intro h
          rw [← Bool.not_eq_true]
          intro h2
          have := List.all_eq_true.1 h2 l[k] (List.getElem_mem hkl)
          rw [h] at hvb
          rw [hvb] at this
          cases this
        have HALL := Lib.hid hall
        have HVB := Lib.hid hvb
        clear hc c0 c1 hvb hall
        obtain ⟨tk, htk⟩ : ∃ t, t = l[k] := ⟨_, rfl⟩
        rw [← htk] at c0' c1' hsz hsn HVB
        clear htk
        obtain ⟨tkk, tks⟩ := tk
        simp only at c0' c1' hsz
        cases vb
        · have HF := Lib.hid (HALL.out rfl)
          clear HALL
          go_wp2_with fail
          refine (valid_is _ _ _ _ hsz HVB.out).mono ?_
          rintro e w1 ⟨rfl, d1⟩
          go_wp2_with fail
          go_ret2
          exact ⟨by rw [hp.out, HF.out]; rfl, (hd.alloc _).trans d1⟩
        · go_wp2_with fail
          refine (valid_is _ _ _ _ hsz HVB.out).mono ?_
          rintro e w1 ⟨rfl, d1⟩
          have c2' := d1.keepc (cell_new wr #[.int .i64 tkk, .string tks] 37 1)
          have hown1 := (hown.alloc (.cells #[.int .i64 tkk, .string tks] 37)).ext d1
          go_wp2_with (at_builtin; refine wpList_append_ownAt _ rfl (.tmp 19) (.tmp 22) 40 rfl w.heap.size 9 i0 (.string ⟨#[]⟩) 1 16 Tryd.underlying40 hi hz0 hz1 hz2 rfl (by decide) _ _ _ rfl (hown1.alloc _) ⟨w1.heap.size, 0, none⟩ 1 1 (strs [tks]) rfl rfl (cells_new_strs w1 [tks]) (strs_one _) (by unfold maxLen; omega) (by omega) (by have := hd.size; have := d1.size; simp at this ⊢; omega) (by decide) ?_; intro v2 w2 hown2 hg2 _ _)
          go_roundw
          case rel =>
            obtain ⟨A3, c3, rfl⟩ := own_form hown2
            exact ⟨k + 1, A3, c3, by omega, by go_num, rfl, by rw [hsn.out]; unfold strs at hown2 ⊢; rw [List.map_append]; exact hown2, by unfold Hid; rw [hav.out, HAV.out]; rfl, (((hd.alloc _).trans d1).alloc _).grown hown1 hg2⟩
          case measure => simp [intOf]; omega
      · obtain rfl : k = n := by omega
        have htl : l.take k = l := List.take_of_length_le (by have := HNL.out; omega)
        have hown' : OwnAt wr w.heap.size 9 1 (.slice A2 k c2) (txts l).length (strs (txts l)) := by
          rw [htl] at hown
          have e : (txts l).length = k := by unfold txts; rw [List.length_map]; exact HNL.out.symm
          rw [e]; exact hown
        have HTL := Lib.hid htl
        have HJ := Lib.hid (show K.join l = Lib.join ((txts l).map (·.data.toList)) [32] from rfl)
        have HOWN := Lib.hid hown'
        clear htl hown' hown
        go_wp2_with fail
        refine (Join_own HOWN.out (by unfold txts; rw [List.length_map]; have := HNL.out; omega) hlen).mono ?_
        rintro e w1 ⟨rfl, d1⟩
        go_wp2_with fail
        go_ret2
        exact ⟨by rw [hp.out, if_pos (by have := HAV.out; rwa [HTL.out] at this)]; rfl, hd.trans d1⟩

end Go.Proofs.YtaniamfonkfekaaDoor
