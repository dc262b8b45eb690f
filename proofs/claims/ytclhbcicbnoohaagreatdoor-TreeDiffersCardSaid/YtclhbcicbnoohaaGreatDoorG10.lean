/- The texts Mv of the seat, joined. -/
import Derived.Test.YtclhbcicbnoohaaGreatDoorG9
/- tree.Put. -/
namespace Go.Proofs.YtclhbcicbnoohaaGreatDoor
open Go.RowKit
set_option linter.unusedVariables false

theorem Insert_any (L : T.Tr) (v : Value) (n i : Nat) (fp fd : ByteArray) (vb : Nat) (w : World) (base : Nat) (hn : n = L.length) (hi : i ≤ n) (hl : n ≤ 100) (hown : OwnFiles w base v L) (hbase : base ≤ w.heap.size)
    (hv : w.heap[vb]? = some (.cells #[.string fp, .string fd] 25 (0, 0))) (hvb : ∀ g, v.ownBlock = some g → vb ≠ g) :
    Calls Tryz.prog 52 #[v, .int .i64 (i : Int), .slice (some ⟨vb, 0, none⟩) 1 1] w (RetIns w base (L.take i ++ (fp, fd) :: L.drop i)) := by
  rcases Nat.eq_or_lt_of_le hi with e | h
  · have e1 : L.take i = L := by rw [e, hn, List.take_length]
    have e2 : L.drop i = [] := by rw [e, hn, List.drop_length]
    rw [e1, e2, e]
    exact Insert_end L v n fp fd vb w base hn hl hown hbase hv
  · subst hn
    obtain ⟨g, off, cap, cur, rfl, hO⟩ := own1_of hown (by omega)
    rcases Nat.lt_or_ge cap (L.length + 1) with hc | hc
    · exact Insert_grow L g off cap cur L.length i fp fd vb w base rfl h hl hO hc hbase hv
    · exact Insert_room L g off cap cur L.length i fp fd vb w base rfl h hO hc hbase hv (hvb g rfl)
theorem putE_no {t : T.Tr} {f : T.File} (h : T.Ok okB t) (h1 : okB f.1 = true) (h2 : ¬ 65536 < f.2.size) (h3 : T.clash t f = false) {Z : T.Tr × Int} (hZ : Z = T.putE okB t f) :
    (∀ k, T.idxT t (T.pth f) = some k → Z = (t.set k f, 0)) ∧
    (T.idxT t (T.pth f) = none → (t.length = 64 → Z = ([], 10)) ∧ (t.length ≠ 64 → ∀ p, p ≤ t.length → (∀ i (h : i < t.length), i < p → T.pth t[i] < T.pth f) → (∀ i (h : i < t.length), p ≤ i → ¬ T.pth t[i] < T.pth f) → Z = (t.take p ++ f :: t.drop p, 0))) := by
  have h0 : T.checkE okB t = 0 := (T.ok_iff okB).2 h
  have hZ2 : Z = if 64 < (T.insT t f).length then ([], 10) else (T.insT t f, 0) := by
    rw [hZ, T.putE, if_neg (by rw [h0]; simp), if_neg (by rw [h1]; simp), if_neg h2, if_neg (by rw [h3]; simp)]
  have hlen := T.insT_length h.sorted f
  have hf := h.few
  refine ⟨fun k hk => ?_, fun hk => ⟨fun h4 => ?_, fun h4 p hp hlo hhi => ?_⟩⟩
  · rw [hk] at hlen
    obtain ⟨hkl, he, _⟩ := T.idxT_some hk
    rw [hZ2, hlen, if_neg (by simp; omega), T.set_ins h.sorted hkl he]
  · rw [hk] at hlen
    rw [hZ2, hlen, if_pos (by simp; omega)]
  · rw [hk] at hlen
    have hn := (T.idxT_no hk).1
    rw [hZ2, hlen, if_neg (by simp; omega), T.put_ins hlo fun i hi hpi => by
      rcases T.lt_ways (T.pth f) (T.pth t[i]) with h5 | h5 | h5
      · exact h5
      · exact absurd h5.symm (hn i hi hi)
      · exact absurd h5 (hhi i hi hpi)]
set_option maxRecDepth 100000 in
set_option maxHeartbeats 4000000 in
theorem Put_clash (t : T.Tr) (A : Option Addr) (c n : Nat) (fp fd : ByteArray) (w W0 : World) (Z : T.Tr × Int) (hfs : fp.size ≤ 128) (hsz : ¬ 65536 < fd.size) (hds : decide (65536 < fd.size) = false) (hn63 : n ≤ 9223372036854775807) (hn64 : n ≤ 64)
    (hck : Hid (Calls Tryz.prog 24 #[.slice A n c] (w.alloc (.cells #[.string fp, .string fd] 25)) (Al (.int .i64 0) (w.alloc (.cells #[.string fp, .string fd] 25)))))
    (hcp : Hid (∀ W, Ext w W → Calls Tryz.prog 27 #[.string fp] W (Al (.int .i64 0) W)))
    (HN : Hid (n = t.length)) (HA : Hid (SliceAt fileR w (Old w) A c t)) (HX0 : Hid (Ext w (w.alloc (.cells #[.string fp, .string fd] 25)))) (hW0 : W0 = w.alloc (.cells #[.string fp, .string fd] 25))
    (B0 : Hid (W0.cell? ⟨w.heap.size, 0, none⟩ = some (.string fp))) (B1 : Hid (W0.cell? ⟨w.heap.size, 1, none⟩ = some (.string fd)))
    (HCC : Hid (∀ W, Ext W0 W → Calls Tryz.prog 45 #[.slice A n c, .func (.func 46) #[] #[.pointer (some ⟨w.heap.size, 0, none⟩)]] W (Al (.bool true) W)))
    (HXW : Hid (Ext w W0)) (HF : Hid (Z = ([], 6))) :
    Calls Tryz.prog 15 #[.slice A n c, .agg #[.string fp, .string fd]] w (RetTr w Z) := by
  go_enter Tryz.func15, Tryz.ntmps15
  go_wp2_with fail
  refine hck.out.mono ?_
  rintro e w1 ⟨rfl, d1⟩
  have e0 := d1.keepc (cell_new w #[.string fp, .string fd] 25 0)
  have e1 := d1.keepc (cell_new w #[.string fp, .string fd] 25 1)
  go_wp2_with fail
  refine (hcp.out _ (HX0.out.trans d1)).mono ?_
  rintro e w2 ⟨rfl, d2⟩
  have X2 : Hid (Ext W0 w2) := by unfold Hid; rw [hW0]; exact d1.trans d2
  clear e0 e1 d1 d2 hck hcp hW0
  have e0 := X2.out.keepc B0.out
  have e1 := X2.out.keepc B1.out
  go_wp2_with fail
  refine (HCC.out _ X2.out).mono ?_
  rintro e w3 ⟨rfl, d3⟩
  go_wp2_with fail
  go_ret2
  exact ⟨_, by rw [HF.out]; rfl, by rw [HF.out]; exact own_files_nil _ _, HXW.out.trans (X2.out.trans d3)⟩
set_option maxRecDepth 100000 in
set_option maxHeartbeats 4000000 in
theorem Put_some (k : Nat) (t : T.Tr) (A : Option Addr) (c n : Nat) (fp fd : ByteArray) (w W0 : World) (Z : T.Tr × Int) (hfs : fp.size ≤ 128) (hsz : ¬ 65536 < fd.size) (hds : decide (65536 < fd.size) = false) (hn63 : n ≤ 9223372036854775807) (hn64 : n ≤ 64)
    (hck : Hid (Calls Tryz.prog 24 #[.slice A n c] (w.alloc (.cells #[.string fp, .string fd] 25)) (Al (.int .i64 0) (w.alloc (.cells #[.string fp, .string fd] 25)))))
    (hcp : Hid (∀ W, Ext w W → Calls Tryz.prog 27 #[.string fp] W (Al (.int .i64 0) W)))
    (HN : Hid (n = t.length)) (HA : Hid (SliceAt fileR w (Old w) A c t)) (HX0 : Hid (Ext w (w.alloc (.cells #[.string fp, .string fd] 25)))) (hW0 : W0 = w.alloc (.cells #[.string fp, .string fd] 25))
    (B0 : Hid (W0.cell? ⟨w.heap.size, 0, none⟩ = some (.string fp))) (B1 : Hid (W0.cell? ⟨w.heap.size, 1, none⟩ = some (.string fd)))
    (HCC : Hid (∀ W, Ext W0 W → Calls Tryz.prog 45 #[.slice A n c, .func (.func 46) #[] #[.pointer (some ⟨w.heap.size, 0, none⟩)]] W (Al (.bool false) W)))
    (HXW : Hid (Ext w W0))
    (HIX : Hid (∀ W, Ext w W → Calls Tryz.prog 44 #[.slice A n c, .string fp] W (Al (.int .i64 (k : Int)) W)))
    (HCL : Hid (∀ W, Ext w W → Calls Tryz.prog 48 #[.slice A n c] W (RetT W t)))  (hkn : k < n) (HF : Hid (Z = (t.set k (fp, fd), 0))) :
    Calls Tryz.prog 15 #[.slice A n c, .agg #[.string fp, .string fd]] w (RetTr w Z) := by
  go_enter Tryz.func15, Tryz.ntmps15
  go_wp2_with fail
  refine hck.out.mono ?_
  rintro e w1 ⟨rfl, d1⟩
  have e0 := d1.keepc (cell_new w #[.string fp, .string fd] 25 0)
  have e1 := d1.keepc (cell_new w #[.string fp, .string fd] 25 1)
  go_wp2_with fail
  refine (hcp.out _ (HX0.out.trans d1)).mono ?_
  rintro e w2 ⟨rfl, d2⟩
  have X2 : Hid (Ext W0 w2) := by unfold Hid; rw [hW0]; exact d1.trans d2
  clear e0 e1 d1 d2 hck hcp hW0
  have e0 := X2.out.keepc B0.out
  have e1 := X2.out.keepc B1.out
  go_wp2_with fail
  refine (HCC.out _ X2.out).mono ?_
  rintro e w3 ⟨rfl, d3⟩
  have X3 : Hid (Ext W0 w3) := X2.out.trans d3
  clear e0 e1 d3 X2 HCC
  go_wp2_with fail
  refine (HCL.out _ (HXW.out.trans X3.out)).mono ?_
  rintro e w4 ⟨v, rfl, ho, d4⟩
  have X4 : Hid (Ext W0 w4) := X3.out.trans d4
  have HO4 := Lib.hid ho
  have HD4 := Lib.hid d4
  clear d4 ho HCL
  have e0 := X4.out.keepc B0.out
  go_wp2_with fail
  refine (HIX.out _ (HXW.out.trans X4.out)).mono ?_
  rintro e w5 ⟨rfl, d5⟩
  have X5 : Hid (Ext W0 w5) := X4.out.trans d5
  obtain ⟨g, off, cap, cur, rfl, hO⟩ := own1_of (HO4.out.ext d5) (by rw [← HN.out]; omega)
  have HLOW : Hid (w3.heap.size ≤ g) := hO.low
  have hb : HO4.out = HO4.out := rfl
  clear e0 hb
  have e0 := X5.out.keepc B0.out
  have e1 := X5.out.keepc B1.out
  have hbl : g ≠ w.heap.size := by
    have h1 := HLOW.out
    have h2 := X3.out.size
    have h3 := World.block_lt_of_cell? W0 _ B0.out
    simp only at h3
    omega
  obtain ⟨xx, hxx⟩ := Option.isSome_iff_exists.1 (hO.there (j := k * 2) (by have := hO.room; have := HN.out; omega))
  obtain ⟨yy, hyy⟩ := Option.isSome_iff_exists.1 (hO.there (j := k * 2 + 1) (by have := hO.room; have := HN.out; omega))
  have hf1 := hO.free (off + k * 2)
  have hf2 := hO.free (off + k * 2 + 1)
  rw [← Nat.add_assoc] at hyy
  have hkL : k < t.length := by rw [← HN.out]; exact hkn
  have HW : Hid (OwnFiles (w5.setCells g (off + k * 2) [.string fp, .string fd]) w3.heap.size (.slice (some ⟨g, off, none⟩) t.length cap) (t.set k (fp, fd))) := by
    unfold Hid OwnFiles
    rw [List.length_set]
    have hsl : fcells (t.set k (fp, fd)) = fcells (t.take k ++ (fp, fd) :: t.drop (k + 1)) := by rw [List.set_eq_take_append_cons_drop, if_pos hkL]
    rw [hsl]
    refine (hO.write (k * 2) [.string fp, .string fd] (by have := hO.room; simp; omega) t.length hO.room _ (by rw [fcells_len, List.length_append, List.length_take, List.length_cons, List.length_drop]; omega) (fun j hj hjo => ?_) (fun j hj h1 h2 => ?_) (fun j hj h => ?_)).own
    · rw [hO.at' j (by omega), fcells_append, List.getElem?_append_left (by rw [fcells_len, List.length_take]; omega)]
      have e : fcells t = fcells (t.take k) ++ fcells (t.drop k) := by rw [← fcells_append, List.take_append_drop]
      rw [e, List.getElem?_append_left (by rw [fcells_len, List.length_take]; omega)]
    · have e : (fp, fd) :: t.drop (k + 1) = [(fp, fd)] ++ t.drop (k + 1) := rfl
      rw [fcells_append, List.getElem?_append_right (by rw [fcells_len, List.length_take]; omega), fcells_len, List.length_take, Nat.min_eq_left (by omega), e, fcells_append, List.getElem?_append_left (by rw [fcells_len]; simp at h2 ⊢; omega)]
      rfl
    · have e : (fp, fd) :: t.drop (k + 1) = [(fp, fd)] ++ t.drop (k + 1) := rfl
      simp only [List.length_cons, List.length_nil] at h
      have e2 : fcells t = fcells (t.take (k + 1)) ++ fcells (t.drop (k + 1)) := by rw [← fcells_append, List.take_append_drop]
      rw [hO.at' j (by omega), fcells_append, List.getElem?_append_right (by rw [fcells_len, List.length_take]; omega), fcells_len, List.length_take, Nat.min_eq_left (by omega), e, fcells_append, List.getElem?_append_right (by rw [fcells_len]; simp; omega), fcells_len, e2,
        List.getElem?_append_right (by rw [fcells_len, List.length_take]; omega), fcells_len, List.length_take, Nat.min_eq_left (by omega)]
      congr 1
      simp
      omega
  have HE : Hid (Ext w (w5.setCells g (off + k * 2) [.string fp, .string fd])) := (HXW.out.trans X5.out).grownNew (by have h1 := HLOW.out; have h2 := (HXW.out.trans X3.out).size; omega) (grownBy_setCells g _ _ w5)
  have HSZ : Hid (w.heap.size ≤ w3.heap.size) := (HXW.out.trans X3.out).size
  have hnt : t.length = n := HN.out.symm
  rw [hnt] at HW ⊢
  have hroom : k < n := hkn
  clear hO HO4 HD4 d5 hnt hkL
  go_wp2_with fail
  go_ret2
  exact ⟨_, by rw [HF.out]; rfl, by rw [HF.out]; exact HW.out.mono HSZ.out, HE.out⟩
set_option maxRecDepth 100000 in
set_option maxHeartbeats 4000000 in
theorem Put_full (t : T.Tr) (A : Option Addr) (c : Nat) (fp fd : ByteArray) (w W0 : World) (Z : T.Tr × Int) (hfs : fp.size ≤ 128) (hsz : ¬ 65536 < fd.size) (hds : decide (65536 < fd.size) = false) 
    (hck : Hid (Calls Tryz.prog 24 #[.slice A 64 c] (w.alloc (.cells #[.string fp, .string fd] 25)) (Al (.int .i64 0) (w.alloc (.cells #[.string fp, .string fd] 25)))))
    (hcp : Hid (∀ W, Ext w W → Calls Tryz.prog 27 #[.string fp] W (Al (.int .i64 0) W)))
    (HN : Hid (64 = t.length)) (HA : Hid (SliceAt fileR w (Old w) A c t)) (HX0 : Hid (Ext w (w.alloc (.cells #[.string fp, .string fd] 25)))) (hW0 : W0 = w.alloc (.cells #[.string fp, .string fd] 25))
    (B0 : Hid (W0.cell? ⟨w.heap.size, 0, none⟩ = some (.string fp))) (B1 : Hid (W0.cell? ⟨w.heap.size, 1, none⟩ = some (.string fd)))
    (HCC : Hid (∀ W, Ext W0 W → Calls Tryz.prog 45 #[.slice A 64 c, .func (.func 46) #[] #[.pointer (some ⟨w.heap.size, 0, none⟩)]] W (Al (.bool false) W)))
    (HXW : Hid (Ext w W0))
    (HIX : Hid (∀ W, Ext w W → Calls Tryz.prog 44 #[.slice A 64 c, .string fp] W (Al (.int .i64 (-1)) W)))
    (HCL : Hid (∀ W, Ext w W → Calls Tryz.prog 48 #[.slice A 64 c] W (RetT W t))) (HF : Hid (Z = ([], 10))) :
    Calls Tryz.prog 15 #[.slice A 64 c, .agg #[.string fp, .string fd]] w (RetTr w Z) := by
  go_enter Tryz.func15, Tryz.ntmps15
  go_wp2_with fail
  refine hck.out.mono ?_
  rintro e w1 ⟨rfl, d1⟩
  have e0 := d1.keepc (cell_new w #[.string fp, .string fd] 25 0)
  have e1 := d1.keepc (cell_new w #[.string fp, .string fd] 25 1)
  go_wp2_with fail
  refine (hcp.out _ (HX0.out.trans d1)).mono ?_
  rintro e w2 ⟨rfl, d2⟩
  have X2 : Hid (Ext W0 w2) := by unfold Hid; rw [hW0]; exact d1.trans d2
  clear e0 e1 d1 d2 hck hcp hW0
  have e0 := X2.out.keepc B0.out
  have e1 := X2.out.keepc B1.out
  go_wp2_with fail
  refine (HCC.out _ X2.out).mono ?_
  rintro e w3 ⟨rfl, d3⟩
  have X3 : Hid (Ext W0 w3) := X2.out.trans d3
  clear e0 e1 d3 X2 HCC
  go_wp2_with fail
  refine (HCL.out _ (HXW.out.trans X3.out)).mono ?_
  rintro e w4 ⟨v, rfl, ho, d4⟩
  have X4 : Hid (Ext W0 w4) := X3.out.trans d4
  have HO4 := Lib.hid ho
  have HD4 := Lib.hid d4
  clear d4 ho HCL
  have e0 := X4.out.keepc B0.out
  go_wp2_with fail
  refine (HIX.out _ (HXW.out.trans X4.out)).mono ?_
  rintro e w5 ⟨rfl, d5⟩
  have X5 : Hid (Ext W0 w5) := X4.out.trans d5
  clear e0
  go_wp2_with fail
  go_ret2
  exact ⟨_, by rw [HF.out]; rfl, by rw [HF.out]; exact own_files_nil _ _, HXW.out.trans X5.out⟩
set_option maxRecDepth 100000 in
set_option maxHeartbeats 4000000 in
theorem Put_none (t : T.Tr) (A : Option Addr) (c n : Nat) (fp fd : ByteArray) (w W0 : World) (Z : T.Tr × Int) (hfs : fp.size ≤ 128) (hsz : ¬ 65536 < fd.size) (hds : decide (65536 < fd.size) = false) (hn63 : n ≤ 9223372036854775807) (hn64 : n ≤ 64)
    (hck : Hid (Calls Tryz.prog 24 #[.slice A n c] (w.alloc (.cells #[.string fp, .string fd] 25)) (Al (.int .i64 0) (w.alloc (.cells #[.string fp, .string fd] 25)))))
    (hcp : Hid (∀ W, Ext w W → Calls Tryz.prog 27 #[.string fp] W (Al (.int .i64 0) W)))
    (HN : Hid (n = t.length)) (HA : Hid (SliceAt fileR w (Old w) A c t)) (HX0 : Hid (Ext w (w.alloc (.cells #[.string fp, .string fd] 25)))) (hW0 : W0 = w.alloc (.cells #[.string fp, .string fd] 25))
    (B0 : Hid (W0.cell? ⟨w.heap.size, 0, none⟩ = some (.string fp))) (B1 : Hid (W0.cell? ⟨w.heap.size, 1, none⟩ = some (.string fd)))
    (HCC : Hid (∀ W, Ext W0 W → Calls Tryz.prog 45 #[.slice A n c, .func (.func 46) #[] #[.pointer (some ⟨w.heap.size, 0, none⟩)]] W (Al (.bool false) W)))
    (HXW : Hid (Ext w W0))
    (HIX : Hid (∀ W, Ext w W → Calls Tryz.prog 44 #[.slice A n c, .string fp] W (Al (.int .i64 (-1)) W)))
    (HCL : Hid (∀ W, Ext w W → Calls Tryz.prog 48 #[.slice A n c] W (RetT W t))) (h64 : n ≠ 64) (hd64 : ((n : Int) == 64) = false)
    (HF : Hid (∀ p, p ≤ t.length → (∀ i (h : i < t.length), i < p → T.pth t[i] < fp.data.toList) → (∀ i (h : i < t.length), p ≤ i → ¬ T.pth t[i] < fp.data.toList) → Z = (t.take p ++ (fp, fd) :: t.drop p, 0)))
    (HBS : Hid (∀ W, Ext w W → Calls Tryz.prog 49 #[.slice A n c, .string fp, .func (.func 50) #[] #[]] W fun e w' => ∃ (p : Nat) (b : Bool), e = .returned (.tuple #[.int .i64 (p : Int), .bool b]) ∧ p ≤ n ∧ (∀ i (h : i < t.length), i < p → T.pth t[i] < fp.data.toList) ∧ (∀ i (h : i < t.length), p ≤ i → ¬ T.pth t[i] < fp.data.toList) ∧ Ext W w')) :
    Calls Tryz.prog 15 #[.slice A n c, .agg #[.string fp, .string fd]] w (RetTr w Z) := by
  go_enter Tryz.func15, Tryz.ntmps15
  go_wp2_with fail
  refine hck.out.mono ?_
  rintro e w1 ⟨rfl, d1⟩
  have e0 := d1.keepc (cell_new w #[.string fp, .string fd] 25 0)
  have e1 := d1.keepc (cell_new w #[.string fp, .string fd] 25 1)
  go_wp2_with fail
  refine (hcp.out _ (HX0.out.trans d1)).mono ?_
  rintro e w2 ⟨rfl, d2⟩
  have X2 : Hid (Ext W0 w2) := by unfold Hid; rw [hW0]; exact d1.trans d2
  clear e0 e1 d1 d2 hck hcp hW0
  have e0 := X2.out.keepc B0.out
  have e1 := X2.out.keepc B1.out
  go_wp2_with fail
  refine (HCC.out _ X2.out).mono ?_
  rintro e w3 ⟨rfl, d3⟩
  have X3 : Hid (Ext W0 w3) := X2.out.trans d3
  clear e0 e1 d3 X2 HCC
  go_wp2_with fail
  refine (HCL.out _ (HXW.out.trans X3.out)).mono ?_
  rintro e w4 ⟨v, rfl, ho, d4⟩
  have X4 : Hid (Ext W0 w4) := X3.out.trans d4
  have HO4 := Lib.hid ho
  have HD4 := Lib.hid d4
  clear d4 ho HCL
  have e0 := X4.out.keepc B0.out
  go_wp2_with fail
  refine (HIX.out _ (HXW.out.trans X4.out)).mono ?_
  rintro e w5 ⟨rfl, d5⟩
  have X5 : Hid (Ext W0 w5) := X4.out.trans d5
  clear e0
  have e0 := X5.out.keepc B0.out
  go_wp2_with fail
  refine (HBS.out _ (HXW.out.trans X5.out)).mono ?_
  rintro e w6 ⟨p, b, rfl, hpn, hlo, hhi, d6⟩
  have HF2 := Lib.hid (HF.out p (by rw [← HN.out]; exact hpn) hlo hhi)
  have X6 : Hid (Ext W0 w6) := X5.out.trans d6
  have HO6 : Hid (OwnFiles w6 w3.heap.size v t) := (HO4.out.ext d5).ext d6
  have HD6 : Hid (Ext w3 w6) := HD4.out.trans (d5.trans d6)
  have HS6 : Hid (w3.heap.size ≤ w6.heap.size) := HD6.out.size
  clear hlo hhi HF HBS d6 d5 HO4 e0
  have HIN : Hid (Calls Tryz.prog 52 #[v, .int .i64 (p : Int), .slice (some ⟨w6.heap.size, 0, none⟩) 1 1] (w6.alloc (.cells #[.string fp, .string fd] 25)) (RetIns (w6.alloc (.cells #[.string fp, .string fd] 25)) w3.heap.size (t.take p ++ (fp, fd) :: t.drop p))) :=
    Insert_any t v n p fp fd w6.heap.size _ w3.heap.size HN.out hpn (by omega) (HO6.out.ext ((Ext.refl w6).alloc _)) (Nat.le_trans HS6.out (by simp)) (heap_alloc_new w6 _) (fun g hg e => by have := (own_at_lt HO6.out hg).2; omega)
  have e0 := X6.out.keepc B0.out
  have e1 := X6.out.keepc B1.out
  have X7 : Hid (Ext W0 (w6.alloc (.cells #[.string fp, .string fd] 25))) := X6.out.alloc _
  have HB7 : Hid (Ext w3 (w6.alloc (.cells #[.string fp, .string fd] 25))) := HD6.out.alloc _
  have HSZ : Hid (w.heap.size ≤ w3.heap.size) := (HXW.out.trans X3.out).size
  have X33 : Hid (Ext w w3) := HXW.out.trans X3.out
  go_wp2_with fail
  refine HIN.out.mono ?_
  rintro e w8 ⟨v8, rfl, ho8, hb8⟩
  have HO8 : Hid (OwnFiles w8 w.heap.size v8 (t.take p ++ (fp, fd) :: t.drop p)) := ho8.mono HSZ.out
  have HE8 : Hid (Ext w w8) := X33.out.trans (Below.trans HB7.out hb8)
  clear ho8 hb8
  go_wp2_with fail
  go_ret2
  exact ⟨_, by rw [HF2.out]; rfl, by rw [HF2.out]; exact HO8.out, HE8.out⟩
set_option maxRecDepth 100000 in
set_option maxHeartbeats 4000000 in
theorem Put_any (t : T.Tr) (A : Option Addr) (c n : Nat) (fp fd : ByteArray) (w : World) (hn : n = t.length) (hA : SliceAt fileR w (Old w) A c t) (hp : ∀ f ∈ t, f.1.size ≤ 1000000) (hfp : fp.size ≤ 1000000) (hfd : fd.size ≤ 9223372036854775807) (hg : Gl w) :
    Calls Tryz.prog 15 #[.slice A n c, .agg #[.string fp, .string fd]] w (RetTr w (T.putE okB t (fp, fd))) := by
  obtain ⟨i0, hi, hz0, hz1, hz2⟩ := info_parts file_info
  have hX0 : Ext w (w.alloc (.cells #[.string fp, .string fd] 25)) := (Ext.refl w).alloc _
  have hck : Hid (Calls Tryz.prog 24 #[.slice A n c] (w.alloc (.cells #[.string fp, .string fd] 25)) (Al (.int .i64 (T.checkE okB t)) (w.alloc (.cells #[.string fp, .string fd] 25)))) := Check_any t A c n _ hn (hA.ext hX0) hp (hg.ext hX0)
  have hcp : Hid (∀ W, Ext w W → Calls Tryz.prog 27 #[.string fp] W (Al (.int .i64 (pathErr (okB fp))) W)) := fun W hW => path_at fp W hfp (hg.ext hW)
  have hn63 : n ≤ 9223372036854775807 := by have := hA.1; have := hA.2.1; omega
  obtain ⟨Z, hZ⟩ : ∃ Z, Z = T.putE okB t (fp, fd) := ⟨_, rfl⟩
  rw [← hZ]
  have HZ := Lib.hid hZ
  have HN := Lib.hid hn
  have HA := Lib.hid hA
  have HX0 := Lib.hid hX0
  have HP := Lib.hid hp
  clear hZ hn hA hp hX0 hg
  by_cases h0 : T.checkE okB t = 0
  · rw [h0] at hck
    have hok := checkE_ok h0
    have hn64 : n ≤ 64 := by rw [HN.out]; exact hok.few
    cases hod : okB fp
    · have HF : Hid (Z = ([], 2)) := by unfold Hid; rw [HZ.out, T.putE, if_neg (by rw [h0]; simp), if_pos hod]
      rw [hod] at hcp
      have hv : pathErr false = 2 := rfl
      rw [hv] at hcp
      clear HZ hok h0 hod hv
      go_enter Tryz.func15, Tryz.ntmps15
      go_wp2_with fail
      refine hck.out.mono ?_
      rintro e w1 ⟨rfl, d1⟩
      have e0 := d1.keepc (cell_new w #[.string fp, .string fd] 25 0)
      go_wp2_with fail
      refine (hcp.out _ (HX0.out.trans d1)).mono ?_
      rintro e w2 ⟨rfl, d2⟩
      go_wp2_with fail
      go_ret2
      exact ⟨_, by rw [HF.out]; rfl, by rw [HF.out]; exact own_files_nil _ _, HX0.out.trans (d1.trans d2)⟩
    · rw [hod] at hcp
      have hv : pathErr true = 0 := rfl
      rw [hv] at hcp
      have hfs : fp.size ≤ 128 := okB_size hod
      by_cases hsz : 65536 < fd.size
      · have HF : Hid (Z = ([], 10)) := by unfold Hid; rw [HZ.out, T.putE, if_neg (by rw [h0]; simp), if_neg (by rw [hod]; simp), if_pos hsz]
        have hds : decide (65536 < fd.size) = true := decide_eq_true hsz
        clear HZ hok h0 hod hv
        go_enter Tryz.func15, Tryz.ntmps15
        go_wp2_with fail
        refine hck.out.mono ?_
        rintro e w1 ⟨rfl, d1⟩
        have e0 := d1.keepc (cell_new w #[.string fp, .string fd] 25 0)
        have e1 := d1.keepc (cell_new w #[.string fp, .string fd] 25 1)
        go_wp2_with fail
        refine (hcp.out _ (HX0.out.trans d1)).mono ?_
        rintro e w2 ⟨rfl, d2⟩
        replace e0 := d2.keepc e0
        replace e1 := d2.keepc e1
        go_wp2_with fail
        go_ret2
        exact ⟨_, by rw [HF.out]; rfl, by rw [HF.out]; exact own_files_nil _ _, HX0.out.trans (d1.trans d2)⟩
      · have hds : decide (65536 < fd.size) = false := decide_eq_false hsz
        obtain ⟨W0, hW0⟩ : ∃ W0, W0 = w.alloc (.cells #[.string fp, .string fd] 25) := ⟨_, rfl⟩
        have B0 : Hid (W0.cell? ⟨w.heap.size, 0, none⟩ = some (.string fp)) := by unfold Hid; rw [hW0]; exact cell_new w #[.string fp, .string fd] 25 0
        have B1 : Hid (W0.cell? ⟨w.heap.size, 1, none⟩ = some (.string fd)) := by unfold Hid; rw [hW0]; exact cell_new w #[.string fp, .string fd] 25 1
        have HCC : Hid (∀ W, Ext W0 W → Calls Tryz.prog 45 #[.slice A n c, .func (.func 46) #[] #[.pointer (some ⟨w.heap.size, 0, none⟩)]] W (Al (.bool (T.clash t (fp, fd))) W)) := fun W hW =>
          ContainsFunc_gen (fun g => T.below (T.pth (fp, fd)) (T.pth g) || T.below (T.pth g) (T.pth (fp, fd))) 46 w.heap.size egc46 t A c n W HN.out (HA.out.ext ((show Ext w W0 by rw [hW0]; exact HX0.out).trans hW)) fun g hgm W' hW' => chk2_any g.1 g.2 fp w.heap.size W' (by have := HP.out g hgm; omega) (by omega) ((hW.trans hW').keepc B0.out)
        have HIX : Hid (∀ W, Ext w W → Calls Tryz.prog 44 #[.slice A n c, .string fp] W (Al (.int .i64 (idxI (T.idxT t fp.data.toList))) W)) := fun W hW => index_any t A c n fp W HN.out (HA.out.ext hW)
        have HCL : Hid (∀ W, Ext w W → Calls Tryz.prog 48 #[.slice A n c] W (RetT W t)) := fun W hW => CloneF_any t A c n W HN.out (HA.out.ext hW) (by omega)
        have HXW : Hid (Ext w W0) := by rw [hW0]; exact HX0.out
        have HCLZ : Hid (T.clash t (fp, fd) = true → Z = ([], 6)) := fun h => by rw [HZ.out, T.putE, if_neg (by rw [h0]; simp), if_neg (by rw [hod]; simp), if_neg hsz, if_pos h]
        have HNO : Hid (T.clash t (fp, fd) = false → (∀ k, T.idxT t fp.data.toList = some k → Z = (t.set k (fp, fd), 0)) ∧
            (T.idxT t fp.data.toList = none → (t.length = 64 → Z = ([], 10)) ∧ (t.length ≠ 64 → ∀ p, p ≤ t.length → (∀ i (h : i < t.length), i < p → T.pth t[i] < fp.data.toList) → (∀ i (h : i < t.length), p ≤ i → ¬ T.pth t[i] < fp.data.toList) → Z = (t.take p ++ (fp, fd) :: t.drop p, 0)))) := fun h => putE_no hok hod hsz h HZ.out
        have HSR : Hid (T.Srt t) := hok.sorted
        cases hcl : T.clash t (fp, fd)
        · have HNO2 := Lib.hid (HNO.out hcl)
          rw [hcl] at HCC
          cases hix : T.idxT t fp.data.toList with
          | some k =>
            obtain ⟨hk, -⟩ := T.idxT_some hix
            rw [hix] at HIX
            exact Put_some k t A c n fp fd w W0 Z hfs hsz hds hn63 hn64 hck hcp HN HA HX0 hW0 B0 B1 HCC HXW HIX HCL (by rw [HN.out]; exact hk) (Lib.hid (HNO2.out.1 k hix))
          | none =>
            have HNO3 := Lib.hid (HNO2.out.2 hix)
            rw [hix] at HIX
            by_cases h64 : n = 64
            · subst h64
              exact Put_full t A c fp fd w W0 Z hfs hsz hds hck hcp HN HA HX0 hW0 B0 B1 HCC HXW HIX HCL (Lib.hid (HNO3.out.1 HN.out.symm))
            · exact Put_none t A c n fp fd w W0 Z hfs hsz hds hn63 hn64 hck hcp HN HA HX0 hW0 B0 B1 HCC HXW HIX HCL h64 (by simp; omega) (Lib.hid (HNO3.out.2 (by rw [← HN.out]; exact h64))) (fun W hW => BinSearch_any t A c n fp W HN.out (HA.out.ext hW) (by omega) HSR.out)
        · rw [hcl] at HCC
          exact Put_clash t A c n fp fd w W0 Z hfs hsz hds hn63 hn64 hck hcp HN HA HX0 hW0 B0 B1 HCC HXW (Lib.hid (HCLZ.out hcl))
  · have HF : Hid (Z = ([], 1)) := by unfold Hid; rw [HZ.out, T.putE, if_pos h0]
    have hd0 : ((T.checkE okB t) == 0) = false := by simp [h0]
    generalize T.checkE okB t = x at hck h0 hd0
    have hd2 : (!(x == 0)) = true := by rw [hd0]; rfl
    clear HZ
    go_enter Tryz.func15, Tryz.ntmps15
    go_wp2_with fail
    refine hck.out.mono ?_
    rintro e w1 ⟨rfl, d1⟩
    go_wp2_with fail
    go_ret2
    exact ⟨_, by rw [HF.out]; rfl, by rw [HF.out]; exact own_files_nil _ _, HX0.out.trans d1⟩
end Go.Proofs.YtclhbcicbnoohaaGreatDoor
