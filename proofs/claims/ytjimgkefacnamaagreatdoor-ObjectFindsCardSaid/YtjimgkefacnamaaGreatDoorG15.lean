/- The texts Xc Xd Xe Xf Sz Xg of the seat, joined. -/
import Derived.Test.YtjimgkefacnamaaGreatDoorG14
import Derived.SizedLaws
import Derived.Handed
import Derived.HandedShaped
import Derived.Lay
/- The walks of ObjectEncodes, ObjectPacks, ObjectDecodes, ObjectFinds. -/
namespace Go.Proofs.YtjimgkefacnamaaGreatDoor
open Go.RowKit Go.Maps Go.ChangeMaps Go.Sort

theorem obj_val {w : World} {v : Value} {o : C.Obj} (hs : ∃ cs, v = .agg cs) (h : objR.val w o v) :
    ∃ A c B d, v = .agg #[.slice A o.1.length c, .slice B o.2.length d] ∧ SliceAt symR w (Old w) A c o.1 ∧ SliceAt secR w (Old w) B d o.2 := by
  obtain ⟨cs, rfl⟩ := hs
  obtain ⟨⟨us, ys, he, ⟨A, c, rfl, h1⟩, B, d, rfl, h2⟩, _⟩ := h
  refine ⟨A, c, B, d, ?_, h1, h2⟩
  have : cs.toList = [.slice A o.1.length c, .slice B o.2.length d] := he
  rw [show cs = cs.toList.toArray from Array.toArray_toList.symm, this]
theorem FewO.names {o : C.Obj} (h : FewO o) : ∀ s ∈ o.1, s.1.size ≤ 9000000 := fun s hs => by have := h.1 s hs; omega
theorem FewO.relocs {o : C.Obj} (h : FewO o) : ∀ s ∈ o.2, s.2.2.length ≤ 100000 := fun s hs => by have := h.2.2.2 s hs; omega
theorem packV_form (l : List C.Mem) : ∃ s e, packV l = .tuple #[.string s, .int .i64 e] := ⟨_, _, rfl⟩

set_option maxRecDepth 100000 in
set_option maxHeartbeats 2000000 in
theorem objectEncodes_walk (v : Value) (o : C.Obj) (w : World) (hg : Gl w) (h0 : ∃ cs, v = .agg cs) (r : objR.val w o v) (hb : BdO o) : Calls Tryz.prog 4 #[v] w (Al (.bool true) w) := by
  obtain ⟨A, c, B, d, rfl, hS, hT⟩ := obj_val h0 r
  obtain ⟨n, hn⟩ : ∃ n, n = o.1.length := ⟨_, rfl⟩
  obtain ⟨m, hm⟩ : ∃ m, m = o.2.length := ⟨_, rfl⟩
  rw [← hn, ← hm]
  obtain ⟨s, e, hse⟩ := encV_form o
  have HAW := Lib.hid (fun W (h : Ext w W) => awake_any W (hg.ext h))
  have HFW := Lib.hid (fun W (h : Ext w W) => Few_any o A B c d n m W hn (hS.ext h) hm (hT.ext h) hb)
  have HE1 := Lib.hid (fun (hf : FewO o) W (h : Ext w W) => Encode_any o A B c d n m W hn (hS.ext h) hm (hT.ext h) hf.names (hg.ext h))
  have HE2 := Lib.hid (fun (hf : FewO o) W (h : Ext w W) => rEncode_any o A B c d n m W hn (hS.ext h) hm (hT.ext h) hf.names)
  rw [hse] at HE1 HE2
  obtain ⟨W1, hW1⟩ : ∃ W1, W1 = w.alloc (.cells #[.slice A n c, .slice B m d] 25) := ⟨_, rfl⟩
  have a0 : W1.cell? ⟨w.heap.size, 0, none⟩ = some (.slice A n c) := by rw [hW1]; exact cell_new w #[.slice A n c, .slice B m d] 25 0
  have a1 : W1.cell? ⟨w.heap.size, 1, none⟩ = some (.slice B m d) := by rw [hW1]; exact cell_new w #[.slice A n c, .slice B m d] 25 1
  have X1 : Ext w W1 := by rw [hW1]; exact (Ext.refl w).alloc _
  have HX1 := Lib.hid X1
  have KA0 := Lib.hid a0
  have KA1 := Lib.hid a1
  clear hn hm hS hT hse h0 r hg hb X1
  go_enter Tryz.func4, Tryz.ntmps4
  go_wp2_with fail
  rw [← hW1]
  clear hW1 a0 a1
  refine (HAW.out _ HX1.out).mono ?_
  rintro e2 w2 ⟨rfl, d2⟩
  have a0 := d2.keepc KA0.out
  have a1 := d2.keepc KA1.out
  have HD2 := Lib.hid d2
  clear d2
  go_wp2_with fail
  refine (HFW.out _ (HX1.out.trans HD2.out)).mono ?_
  rintro e3 w3 ⟨d3, b, rfl, hb⟩
  have HD3 := Lib.hid (HD2.out.trans d3)
  clear d3 a0 a1 HD2
  cases b with
  | false =>
    clear hb
    go_wp2_with fail
    go_ret
    exact ⟨rfl, HX1.out.trans HD3.out⟩
  | true =>
    have HFO := Lib.hid (hb rfl)
    have a0 := HD3.out.keepc KA0.out
    have a1 := HD3.out.keepc KA1.out
    clear hb
    go_wp2_with fail
    refine (HE1.out HFO.out _ (HX1.out.trans HD3.out)).mono ?_
    rintro e4 w4 ⟨rfl, d4⟩
    have HD4 := Lib.hid (HD3.out.trans d4)
    clear d4 a0 a1 HD3
    have a0 := HD4.out.keepc KA0.out
    have a1 := HD4.out.keepc KA1.out
    go_wp2_with fail
    refine (HE2.out HFO.out _ (HX1.out.trans HD4.out)).mono ?_
    rintro e5 w5 ⟨rfl, d5⟩
    have HD5 := Lib.hid (HD4.out.trans d5)
    clear d5 a0 a1 HD4
    go_wp2_with fail
    go_ret
    exact ⟨rfl, HX1.out.trans HD5.out⟩

set_option maxRecDepth 100000 in
set_option maxHeartbeats 2000000 in
theorem objectPacks_walk (v : Value) (l : List C.Mem) (w : World) (hg : Gl w) (r : (sliceR memR).val w l v) (hb : BdM l) : Calls Tryz.prog 6 #[v] w (Al (.bool true) w) := by
  obtain ⟨A, c, rfl, hS⟩ := val_slice r
  obtain ⟨n, hn⟩ : ∃ n, n = l.length := ⟨_, rfl⟩
  rw [← hn]
  obtain ⟨s, e, hse⟩ := packV_form l
  have HAW := Lib.hid (awake_any w hg)
  have HFW := Lib.hid (fun W (h : Ext w W) => FewMembers_any l A c n W hn (hS.ext h) hb)
  have HE1 := Lib.hid (fun (hf : FewM l) W (h : Ext w W) => Pack_any l A c n W hn (hS.ext h) hf.sizes (by have := hf.1; omega) (hg.ext h))
  have HE2 := Lib.hid (fun (hf : FewM l) W (h : Ext w W) => rPack_any l A c n W hn (hS.ext h) hf.sizes)
  rw [hse] at HE1 HE2
  clear hn hS hse r hg hb
  go_enter Tryz.func6, Tryz.ntmps6
  go_wp2_with fail
  refine HAW.out.mono ?_
  rintro e2 w2 ⟨rfl, d2⟩
  have HD2 := Lib.hid d2
  clear d2
  go_wp2_with fail
  refine (HFW.out _ HD2.out).mono ?_
  rintro e3 w3 ⟨d3, b, rfl, hb⟩
  have HD3 := Lib.hid (HD2.out.trans d3)
  clear d3 HD2
  cases b with
  | false =>
    clear hb
    go_wp2_with fail
    go_ret
    exact ⟨rfl, HD3.out⟩
  | true =>
    have HFO := Lib.hid (hb rfl)
    clear hb
    go_wp2_with fail
    refine (HE1.out HFO.out _ HD3.out).mono ?_
    rintro e4 w4 ⟨rfl, d4⟩
    have HD4 := Lib.hid (HD3.out.trans d4)
    clear d4 HD3
    go_wp2_with fail
    refine (HE2.out HFO.out _ HD4.out).mono ?_
    rintro e5 w5 ⟨rfl, d5⟩
    have HD5 := Lib.hid (HD4.out.trans d5)
    clear d5 HD4
    go_wp2_with fail
    go_ret
    exact ⟨rfl, HD5.out⟩

/-- An object as it comes out: its two slices. -/
def ObjV (w : World) (v : Value) (o : C.Obj) : Prop := ∃ A n c B m d, v = .agg #[.slice A n c, .slice B m d] ∧ n = o.1.length ∧ m = o.2.length ∧ SliceAt symR w (Old w) A c o.1 ∧ SliceAt secR w (Old w) B d o.2
def MemV (w : World) (v : Value) (l : List C.Mem) : Prop := ∃ A n c, v = .slice A n c ∧ n = l.length ∧ SliceAt memR w (Old w) A c l
/-- What Decode, Unpack give: a value that reads so, and an error. -/
theorem retObj_any {w w' : World} {r : Option C.Obj} {e : Ending} (h : RetObj w r e w') : Ext w w' ∧ ∃ A n c B m d, e = .returned (.tuple #[.agg #[.slice A n c, .slice B m d], .int .i64 (if r.isSome then 0 else 17)]) ∧ n = (r.getD ([], [])).1.length ∧ m = (r.getD ([], [])).2.length ∧ SliceAt symR w' (Old w') A c (r.getD ([], [])).1 ∧ SliceAt secR w' (Old w') B d (r.getD ([], [])).2 := by
  obtain ⟨h1, h2⟩ := h
  cases r with
  | none => exact ⟨h1, none, 0, 0, none, 0, 0, h2, rfl, rfl, SliceAt.nil _ _ _ _ _ (by decide), SliceAt.nil _ _ _ _ _ (by decide)⟩
  | some o =>
    obtain ⟨A, n, c, B, m, d, rfl, h3, h4, h5, h6⟩ := h2
    exact ⟨h1, A, n, c, B, m, d, rfl, h3, h4, h5.newOld, h6.newOld⟩
theorem retMems_any {w w' : World} {r : Option (List C.Mem)} {e : Ending} (h : RetMems w r e w') : Ext w w' ∧ ∃ A n c, e = .returned (.tuple #[.slice A n c, .int .i64 (if r.isSome then 0 else 17)]) ∧ n = (r.getD []).length ∧ SliceAt memR w' (Old w') A c (r.getD []) := by
  obtain ⟨h1, h2⟩ := h
  cases r with
  | none => exact ⟨h1, none, 0, 0, h2, rfl, SliceAt.nil _ _ _ _ _ (by decide)⟩
  | some o =>
    obtain ⟨A, n, c, rfl, h3, h5⟩ := h2
    exact ⟨h1, A, n, c, rfl, h3, h5.newOld⟩

set_option maxRecDepth 100000 in
set_option maxHeartbeats 4000000 in
theorem objectDecodes_walk (v : Value) (s : ByteArray) (w : World) (hg : Gl w) (r : strR.val w s v) : Calls Tryz.prog 5 #[v] w (Al (.bool true) w) := by
  obtain ⟨rfl, hs⟩ := val_str r
  have HG := Lib.hid hg
  clear r hg
  by_cases hbig : 6000 < s.size
  · go_enter Tryz.func5, Tryz.ntmps5
    go_wp2_with fail
    refine (awake_any w HG.out).mono ?_
    rintro e2 w2 ⟨rfl, d2⟩
    have HD2 := Lib.hid d2
    clear d2
    go_wp2_with fail
    go_ret
    exact ⟨rfl, HD2.out⟩
  have H1 := Lib.hid (fun W (h : Ext w W) => Decode_any s W (by omega) (HG.out.ext h))
  have H2 := Lib.hid (fun W => rDecode_any s W (by omega))
  have H3 := Lib.hid (fun W (h : Ext w W) => Unpack_any s W (by omega) (HG.out.ext h))
  have H4 := Lib.hid (fun W => rUnpack_any s W (by omega))
  obtain ⟨ed, hed⟩ : ∃ ed : Int, (if (C.decB okN s.data.toList).isSome then (0 : Int) else 17) = ed := ⟨_, rfl⟩
  obtain ⟨em, hem⟩ : ∃ ed : Int, (if (C.unpB okN okP s.data.toList).isSome then (0 : Int) else 17) = ed := ⟨_, rfl⟩
  have HC : Hid (ed = 17 ∨ (ed = 0 ∧ em = 17)) := by
    have hn := fun o m (h1 : C.decB okN s.data.toList = some o) (h2 : C.unpB okN okP s.data.toList = some m) => C.not_both okN okP h1 h2
    unfold Hid
    rw [← hed, ← hem]
    cases h1 : C.decB okN s.data.toList with
    | none => exact .inl rfl
    | some o =>
      cases h2 : C.unpB okN okP s.data.toList with
      | none => exact .inr ⟨rfl, rfl⟩
      | some m => exact (hn o m h1 h2).elim
  generalize C.decB okN s.data.toList = D at H1 H2 hed
  generalize C.unpB okN okP s.data.toList = M at H3 H4 hem
  have HED := Lib.hid hed
  have HEM := Lib.hid hem
  clear hed hem
  go_enter Tryz.func5, Tryz.ntmps5
  go_wp2_with fail
  refine (awake_any w HG.out).mono ?_
  rintro e2 w2 ⟨rfl, d2⟩
  have HD2 := Lib.hid d2
  clear d2
  go_wp2_with fail
  refine (H1.out _ HD2.out).mono ?_
  intro e3 w3 hr
  obtain ⟨d3, A, n, c, B, m, d, rfl, hn, hm, hS, hT⟩ := retObj_any hr
  rw [HED.out]
  obtain ⟨W3, hW3⟩ : ∃ W3, W3 = w3.alloc (.cells #[.slice A n c, .slice B m d] 25) := ⟨_, rfl⟩
  have a0 : W3.cell? ⟨w3.heap.size, 0, none⟩ = some (.slice A n c) := by rw [hW3]; exact cell_new w3 #[.slice A n c, .slice B m d] 25 0
  have a1 : W3.cell? ⟨w3.heap.size, 1, none⟩ = some (.slice B m d) := by rw [hW3]; exact cell_new w3 #[.slice A n c, .slice B m d] 25 1
  have E3 : Ext w3 W3 := by rw [hW3]; exact (Ext.refl _).alloc _
  have HX3 := Lib.hid ((HD2.out.trans d3).trans E3)
  have HNN := Lib.hid hn
  have HMM := Lib.hid hm
  have HS := Lib.hid (hS.ext E3)
  have HT := Lib.hid (hT.ext E3)
  have KA0 := Lib.hid a0
  have KA1 := Lib.hid a1
  clear hr d3 hn hm hS hT E3 a0 a1 HD2 H1
  go_wp2_with fail
  rw [← hW3]
  clear hW3
  refine (H2.out _).mono ?_
  intro e4 w4 hr
  obtain ⟨d4, A', n', c', B', m', d', rfl, hn, hm, hS, hT⟩ := retObj_any hr
  obtain rfl : n = n' := HNN.out.trans hn.symm
  obtain rfl : m = m' := HMM.out.trans hm.symm
  rw [HED.out]
  obtain ⟨W4, hW4⟩ : ∃ W4, W4 = w4.alloc (.cells #[.slice A' n c', .slice B' m d'] 25) := ⟨_, rfl⟩
  have a0 : W4.cell? ⟨w4.heap.size, 0, none⟩ = some (.slice A' n c') := by rw [hW4]; exact cell_new w4 #[.slice A' n c', .slice B' m d'] 25 0
  have a1 : W4.cell? ⟨w4.heap.size, 1, none⟩ = some (.slice B' m d') := by rw [hW4]; exact cell_new w4 #[.slice A' n c', .slice B' m d'] 25 1
  have E4 : Ext w4 W4 := by rw [hW4]; exact (Ext.refl _).alloc _
  have HX4 := Lib.hid (d4.trans E4)
  have HS' := Lib.hid (hS.ext E4)
  have HT' := Lib.hid (hT.ext E4)
  have KB0 := Lib.hid a0
  have KB1 := Lib.hid a1
  have HSA := Lib.hid (fun W (h : Ext W4 W) => Same_refl _ A A' B B' c c' d d' n m W HNN.out (HS.out.ext (HX4.out.trans h)) (HS'.out.ext h) HMM.out (HT.out.ext (HX4.out.trans h)) (HT'.out.ext h))
  clear hr d4 hn hm hS hT E4 a0 a1 H2 HED
  go_wp2_with fail
  rw [← hW4]
  clear hW4
  refine (H3.out _ (HX3.out.trans HX4.out)).mono ?_
  intro e5 w5 hr
  obtain ⟨d5, A5, n5, c5, rfl, hn5, hM5⟩ := retMems_any hr
  rw [HEM.out]
  have HX5 := Lib.hid d5
  have HN5 := Lib.hid hn5
  have HM5 := Lib.hid hM5
  clear hr d5 hn5 hM5 H3
  go_wp2_with fail
  refine (H4.out _).mono ?_
  intro e6 w6 hr
  obtain ⟨d6, A6, n6, c6, rfl, hn6, hM6⟩ := retMems_any hr
  obtain rfl : n5 = n6 := HN5.out.trans hn6.symm
  rw [HEM.out]
  have HX6 := Lib.hid (HX5.out.trans d6)
  have HSM := Lib.hid (fun W (h : Ext w6 W) => SameMembers_refl _ A5 A6 c5 c6 n5 W HN5.out (HM5.out.ext (d6.trans h)) (hM6.ext h))
  have a0 := (HX4.out.trans HX6.out).keepc KA0.out
  have a1 := (HX4.out.trans HX6.out).keepc KA1.out
  have b0 := HX6.out.keepc KB0.out
  have b1 := HX6.out.keepc KB1.out
  clear hr d6 hn6 hM6 H4 HEM
  go_wp2_with fail
  refine (HSA.out _ HX6.out).mono ?_
  rintro e7 w7 ⟨rfl, d7⟩
  have HX7 := Lib.hid d7
  clear d7 a0 a1 b0 b1
  go_wp2_with fail
  refine (HSM.out _ HX7.out).mono ?_
  rintro e8 w8 ⟨rfl, d8⟩
  have HX8 := Lib.hid (HX3.out.trans ((HX4.out.trans HX6.out).trans (HX7.out.trans d8)))
  clear d8
  rcases HC.out with rfl | ⟨rfl, rfl⟩
  · go_wp2_with fail
    go_ret
    exact ⟨rfl, HX8.out⟩
  · go_wp2_with fail
    go_ret
    exact ⟨rfl, HX8.out⟩

end Go.Proofs.YtjimgkefacnamaaGreatDoor

/- The walk of ObjectFinds. -/
namespace Go.Proofs.YtjimgkefacnamaaGreatDoor
open Go.RowKit Go.Maps Go.ChangeMaps Go.Sort

theorem findV_form (l : List C.Sym) (x : C.Bs) : ∃ s md q b, findV l x = .tuple #[.agg #[.string s, .int .i64 md, .int .i64 q], .bool b] := by
  unfold findV
  split
  · exact ⟨_, _, _, _, rfl⟩
  · exact ⟨_, _, _, _, rfl⟩

set_option maxRecDepth 100000 in
set_option maxHeartbeats 8000000 in
theorem objectFinds_walk (v0 v1 v2 : Value) (o : C.Obj) (x : ByteArray) (i : Int) (w : World) (hg : Gl w) (h0 : ∃ cs, v0 = .agg cs) (r0 : objR.val w o v0) (r1 : strR.val w x v1) (r2 : (intR .i64).val w i v2) (hb : BdO o) :
    Calls Tryz.prog 3 #[v0, v1, v2] w (Al (.bool true) w) := by
  obtain ⟨A, c, B, d, rfl, hS, hT⟩ := obj_val h0 r0
  obtain ⟨rfl, hx⟩ := val_str r1
  obtain ⟨rfl, hi⟩ := val_int r2
  obtain ⟨n, hn⟩ : ∃ n, n = o.1.length := ⟨_, rfl⟩
  obtain ⟨m, hm⟩ : ∃ m, m = o.2.length := ⟨_, rfl⟩
  rw [← hn, ← hm]
  obtain ⟨s, md, q, fb, hfs⟩ := findV_form o.1 x.data.toList
  have HAW := Lib.hid (fun W (h : Ext w W) => awake_any W (hg.ext h))
  have HFW := Lib.hid (fun W (h : Ext w W) => Few_any o A B c d n m W hn (hS.ext h) hm (hT.ext h) hb)
  have HF1 := Lib.hid (fun (hf : FewO o) W (h : Ext w W) => Find_any o.1 A B c d n m x W hn (hS.ext h) (by have := hf.2.1; omega))
  have HF2 := Lib.hid (fun (hf : FewO o) W (h : Ext w W) => rFind_any o.1 A B c d n m x W hn (hS.ext h) (by have := hf.2.1; omega) hx)
  rw [hfs] at HF1 HF2
  have HC1 := Lib.hid (fun (hf : FewO o) W (h : Ext w W) => Check_any o A B c d n m W hn (hS.ext h) hm (hT.ext h) hf.names)
  have HC2 := Lib.hid (fun (hf : FewO o) W (h : Ext w W) => rCheck_any o A B c d n m W hn (hS.ext h) hm (hT.ext h) hf.names)
  generalize chk (C.checkB okN o) = ck at HC1 HC2
  have HX1' := Lib.hid (fun (hf : FewO o) W (h : Ext w W) => Exports_any o.1 A B c d n m W hn (hS.ext h) (by have := hf.2.1; omega))
  have HX2' := Lib.hid (fun (hf : FewO o) W (h : Ext w W) => rExports_any o.1 A B c d n m W hn (hS.ext h) (by have := hf.2.1; omega))
  generalize (expL o.1).foldl C.insB [] = XL at HX1' HX2'
  have HN1 := Lib.hid (fun (hf : FewO o) W (h : Ext w W) => Needs_any o.2 A B c d n m i W hm (hT.ext h) hi hf.relocs)
  have HN2 := Lib.hid (fun (hf : FewO o) W (h : Ext w W) => rNeeds_any o.2 A B c d n m i W hm (hT.ext h) hi hf.relocs)
  generalize needsL o.2 i = NL at HN1 HN2
  obtain ⟨W1, hW1⟩ : ∃ W1, W1 = w.alloc (.cells #[.slice A n c, .slice B m d] 25) := ⟨_, rfl⟩
  have a0 : W1.cell? ⟨w.heap.size, 0, none⟩ = some (.slice A n c) := by rw [hW1]; exact cell_new w #[.slice A n c, .slice B m d] 25 0
  have a1 : W1.cell? ⟨w.heap.size, 1, none⟩ = some (.slice B m d) := by rw [hW1]; exact cell_new w #[.slice A n c, .slice B m d] 25 1
  have X1 : Ext w W1 := by rw [hW1]; exact (Ext.refl w).alloc _
  have HX1 := Lib.hid X1
  have KA0 := Lib.hid a0
  have KA1 := Lib.hid a1
  clear hn hm hS hT hfs h0 r0 r1 r2 hg hb X1 hi
  go_enter Tryz.func3, Tryz.ntmps3
  go_wp2_with fail
  rw [← hW1]
  clear hW1 a0 a1
  refine (HAW.out _ HX1.out).mono ?_
  rintro e2 w2 ⟨rfl, d2⟩
  have a0 := d2.keepc KA0.out
  have a1 := d2.keepc KA1.out
  have HD2 := Lib.hid d2
  clear d2
  go_wp2_with fail
  refine (HFW.out _ (HX1.out.trans HD2.out)).mono ?_
  rintro e3 w3 ⟨d3, b, rfl, hb⟩
  have HD3 := Lib.hid (HD2.out.trans d3)
  clear d3 a0 a1 HD2
  cases b with
  | false =>
    clear hb
    go_wp2_with fail
    go_ret
    exact ⟨rfl, HX1.out.trans HD3.out⟩
  | true =>
    have HFO := Lib.hid (hb rfl)
    have a0 := HD3.out.keepc KA0.out
    have a1 := HD3.out.keepc KA1.out
    clear hb
    by_cases hbig : 100 < x.size
    · go_wp2_with fail
      go_ret
      exact ⟨rfl, HX1.out.trans HD3.out⟩
    go_wp2_with fail
    refine (HF1.out HFO.out _ (HX1.out.trans HD3.out)).mono ?_
    rintro e4 w4 ⟨rfl, d4⟩
    obtain ⟨W4, hW4⟩ : ∃ W4, W4 = w4.alloc (.cells #[.string s, .int .i64 md, .int .i64 q] 29) := ⟨_, rfl⟩
    have E4 : Ext w4 W4 := by rw [hW4]; exact (Ext.refl _).alloc _
    have s0 : W4.cell? ⟨w4.heap.size, 0, none⟩ = some (.string s) := by rw [hW4]; exact cell_new w4 _ 29 0
    have s1 : W4.cell? ⟨w4.heap.size, 1, none⟩ = some (.int .i64 md) := by rw [hW4]; exact cell_new w4 _ 29 1
    have s2 : W4.cell? ⟨w4.heap.size, 2, none⟩ = some (.int .i64 q) := by rw [hW4]; exact cell_new w4 _ 29 2
    have HD4 := Lib.hid ((HD3.out.trans d4).trans E4)
    have KS0 := Lib.hid s0
    have KS1 := Lib.hid s1
    have KS2 := Lib.hid s2
    have z0 := alloc_keepc (.cells #[.string s, .int .i64 md, .int .i64 q] 29) ((HD3.out.trans d4).keepc KA0.out)
    have z1 := alloc_keepc (.cells #[.string s, .int .i64 md, .int .i64 q] 29) ((HD3.out.trans d4).keepc KA1.out)
    clear d4 a0 a1 HD3 E4 s0 s1 s2
    go_wp2_with fail
    rw [← hW4]
    clear hW4 z0 z1
    refine (HF2.out HFO.out _ (HX1.out.trans HD4.out)).mono ?_
    rintro e5 w5 ⟨rfl, d5⟩
    obtain ⟨W5, hW5⟩ : ∃ W5, W5 = w5.alloc (.cells #[.string s, .int .i64 md, .int .i64 q] 29) := ⟨_, rfl⟩
    have E5 : Ext w5 W5 := by rw [hW5]; exact (Ext.refl _).alloc _
    have t0 : W5.cell? ⟨w5.heap.size, 0, none⟩ = some (.string s) := by rw [hW5]; exact cell_new w5 _ 29 0
    have t1 : W5.cell? ⟨w5.heap.size, 1, none⟩ = some (.int .i64 md) := by rw [hW5]; exact cell_new w5 _ 29 1
    have t2 : W5.cell? ⟨w5.heap.size, 2, none⟩ = some (.int .i64 q) := by rw [hW5]; exact cell_new w5 _ 29 2
    have HE5 := Lib.hid (d5.trans E5)
    clear d5 E5
    have HD5 := Lib.hid (HD4.out.trans HE5.out)
    have a0 := HD5.out.keepc KA0.out
    have a1 := HD5.out.keepc KA1.out
    have s0 := HE5.out.keepc KS0.out
    have s1 := HE5.out.keepc KS1.out
    have s2 := HE5.out.keepc KS2.out
    go_wp2_with fail
    rw [← hW5]
    clear hW5
    have fx0 : ∀ x : Lat (Ext W5), x.w'.cell? ⟨w.heap.size, 0, none⟩ = _ := fun x => x.h.keepc a0
    have fx1 : ∀ x : Lat (Ext W5), x.w'.cell? ⟨w.heap.size, 1, none⟩ = _ := fun x => x.h.keepc a1
    have fx2 : ∀ x : Lat (Ext W5), x.w'.cell? ⟨w4.heap.size, 0, none⟩ = _ := fun x => x.h.keepc s0
    have fx3 : ∀ x : Lat (Ext W5), x.w'.cell? ⟨w4.heap.size, 1, none⟩ = _ := fun x => x.h.keepc s1
    have fx4 : ∀ x : Lat (Ext W5), x.w'.cell? ⟨w4.heap.size, 2, none⟩ = _ := fun x => x.h.keepc s2
    have fx5 : ∀ x : Lat (Ext W5), x.w'.cell? ⟨w5.heap.size, 0, none⟩ = _ := fun x => x.h.keepc t0
    have fx6 : ∀ x : Lat (Ext W5), x.w'.cell? ⟨w5.heap.size, 1, none⟩ = _ := fun x => x.h.keepc t1
    have fx7 : ∀ x : Lat (Ext W5), x.w'.cell? ⟨w5.heap.size, 2, none⟩ = _ := fun x => x.h.keepc t2
    have hne := Lat.some (Φ := Ext W5) ((Ext.refl W5).drew)
    have HB5 := Lib.hid (HX1.out.trans HD5.out)
    clear KS0 KS1 KS2 HE5 HD4 HD5 KA0 KA1 HF1 HF2 HAW HFW
    refine wp_region_lat [1, 3, 17, 19, 20, 25, 28, 29] (Ext W5) ((Ext.refl W5).drew) (by kernel_rfl) (by kernel_rfl) (by kernel_rfl) ?_
    iterate 1 (refine lex_pure rfl rfl rfl ?_; intro K hK; go_big_quiet_op; go_big_quiet_on)
    refine lex_eff rfl ?_
    go_wp2_with fail
    refine (HC1.out HFO.out _ (HB5.out.trans (Ext.refl W5).drew)).mono ?_
    rintro e6 w6 ⟨rfl, d6⟩
    have D6 := Lib.hid ((Ext.refl W5).drew.trans d6)
    clear d6
    go_wp2_with fail
    refine ⟨⟨⟨w6, D6.out⟩, rfl⟩, ?_⟩
    iterate 1 (refine lex_pure rfl rfl rfl ?_; intro K hK; go_big_quiet_op; go_big_quiet_on)
    refine lex_eff rfl ?_
    go_wp2_with fail
    refine (HC2.out HFO.out _ (HB5.out.trans D6.out)).mono ?_
    rintro e7 w7 ⟨rfl, d7⟩
    have D7 := Lib.hid (D6.out.trans d7)
    clear d7
    go_wp2_with fail
    refine ⟨⟨⟨w7, D7.out⟩, rfl⟩, ?_⟩
    iterate 13 (refine lex_pure rfl rfl rfl ?_; intro K hK; go_big_quiet_op; go_big_quiet_on)
    refine lex_eff rfl ?_
    have a0 := D7.out.keepc a0
    have a1 := D7.out.keepc a1
    go_wp2_with fail
    refine (HX1'.out HFO.out _ (HB5.out.trans D7.out)).mono ?_
    intro e8 w8 hr
    obtain ⟨d8, v8, rfl, hv8⟩ := retS_strL hr
    have D8 := Lib.hid (D7.out.trans d8)
    have HV8 := Lib.hid hv8
    clear hr d8 hv8
    go_wp2_with fail
    refine ⟨⟨⟨w8, D8.out⟩, rfl⟩, ?_⟩
    iterate 1 (refine lex_pure rfl rfl rfl ?_; intro K hK; go_big_quiet_op; go_big_quiet_on)
    refine lex_eff rfl ?_
    go_wp2_with fail
    refine (HX2'.out HFO.out _ (HB5.out.trans D8.out)).mono ?_
    intro e9 w9 hr
    obtain ⟨d9, v9, rfl, hv9⟩ := retS_strL hr
    have D9 := Lib.hid (D8.out.trans d9)
    have HEQ := Lib.hid (EqualS_refl _ v8 v9 w9 (HV8.out.ext d9) hv9)
    clear hr d9 hv9 HV8
    go_wp2_with fail
    refine ⟨⟨⟨w9, D9.out⟩, rfl⟩, ?_⟩
    refine lex_eff rfl ?_
    go_wp2_with fail
    refine HEQ.out.mono ?_
    rintro e10 w10 ⟨rfl, d10⟩
    have D10 := Lib.hid (D9.out.trans d10)
    clear d10 HEQ
    go_wp2_with fail
    refine ⟨⟨⟨w10, D10.out⟩, rfl⟩, ?_⟩
    iterate 4 (refine lex_pure rfl rfl rfl ?_; intro K hK; go_big_quiet_op; go_big_quiet_on)
    refine lex_eff rfl ?_
    go_wp2_with fail
    refine (HN1.out HFO.out _ (HB5.out.trans D10.out)).mono ?_
    intro e11 w11 hr
    obtain ⟨d11, v11, rfl, hv11⟩ := retS_strL hr
    have D11 := Lib.hid (D10.out.trans d11)
    have HV11 := Lib.hid hv11
    clear hr d11 hv11
    go_wp2_with fail
    refine ⟨⟨⟨w11, D11.out⟩, rfl⟩, ?_⟩
    iterate 2 (refine lex_pure rfl rfl rfl ?_; intro K hK; go_big_quiet_op; go_big_quiet_on)
    refine lex_eff rfl ?_
    go_wp2_with fail
    refine (HN2.out HFO.out _ (HB5.out.trans D11.out)).mono ?_
    intro e12 w12 hr
    obtain ⟨d12, v12, rfl, hv12⟩ := retS_strL hr
    have D12 := Lib.hid (D11.out.trans d12)
    have HEQ := Lib.hid (EqualS_refl _ v11 v12 w12 (HV11.out.ext d12) hv12)
    clear hr d12 hv12 HV11
    go_wp2_with fail
    refine ⟨⟨⟨w12, D12.out⟩, rfl⟩, ?_⟩
    refine lex_eff rfl ?_
    go_wp2_with fail
    refine HEQ.out.mono ?_
    rintro e13 w13 ⟨rfl, d13⟩
    have D13 := Lib.hid (D12.out.trans d13)
    clear d13 HEQ
    go_wp2_with fail
    refine ⟨⟨⟨w13, D13.out⟩, rfl⟩, ?_⟩
    repeat (refine lex_pure rfl rfl rfl ?_; intro K hK; go_big_quiet_op; go_big_quiet_on)
    refine lex_nil ?_
    clear fx0 fx1 fx2 fx3 fx4 fx5 fx6 fx7 hne
    go_wp2_with fail
    go_ret
    exact ⟨rfl, HB5.out.trans D13.out⟩

end Go.Proofs.YtjimgkefacnamaaGreatDoor

/- The walks of ObjectReturns and ObjectBytes. -/
namespace Go.Proofs.YtjimgkefacnamaaGreatDoor
open Go.RowKit Go.Maps Go.ChangeMaps Go.Sort

theorem mkB_eq (s : ByteArray) : mkB s.data.toList = s := by cases s; rfl
theorem check_names {o : C.Obj} (h : C.checkB okN o = true) : ∀ s ∈ o.1, s.1.size ≤ 32 := by
  intro s hs
  obtain ⟨k, hk, rfl⟩ := List.getElem_of_mem hs
  exact name_len (((C.namesB_iff okN o.1).1 (validO h).names) k hk).1
theorem check_names9 {o : C.Obj} (h : C.checkB okN o = true) : ∀ s ∈ o.1, s.1.size ≤ 9000000 := fun s hs => by have := check_names h s hs; omega
theorem enc_cases (o : C.Obj) : (C.checkB okN o = false ∧ encV o = .tuple #[.string ⟨#[]⟩, .int .i64 1]) ∨ (C.checkB okN o = true ∧ encV o = .tuple #[.string ⟨#[]⟩, .int .i64 10]) ∨
    (C.checkB okN o = true ∧ ∃ s : ByteArray, encV o = .tuple #[.string s, .int .i64 0] ∧ C.decB okN s.data.toList = some o ∧ s.size ≤ 65536) := by
  unfold encV
  cases h : C.checkB okN o with
  | false => exact .inl ⟨rfl, if_neg (by simp)⟩
  | true =>
    rw [if_pos rfl]
    by_cases hl : (C.encObj o).length ≤ 65536
    · rw [if_pos hl]
      refine .inr (.inr ⟨rfl, _, rfl, ?_, ?_⟩)
      · rw [mkB_data]
        exact C.decB_print okN (fun _ h => name_len h) h hl
      · rw [mkB_size]; exact hl
    · rw [if_neg hl]
      exact .inr (.inl ⟨rfl, rfl⟩)
theorem pack_cases (l : List C.Mem) : (∃ e, (e = 1 ∨ e = 10) ∧ packV l = .tuple #[.string ⟨#[]⟩, .int .i64 e]) ∨
    (∃ s : ByteArray, packV l = .tuple #[.string s, .int .i64 0] ∧ C.unpB okN okP s.data.toList = some l ∧ s.size ≤ 65536) := by
  unfold packV C.packB
  by_cases h1 : C.memsB okN okP l = true
  · rw [if_pos h1]
    by_cases h2 : (l.all fun m => decide ((C.encObj m.2).length ≤ 65536)) = true
    · rw [if_pos h2]
      by_cases h3 : (C.encArc l).length ≤ 65536
      · rw [if_pos h3]
        refine .inr ⟨_, rfl, ?_, ?_⟩
        · rw [mkB_data]
          exact C.unpB_print okN okP (fun _ h => name_len h) (fun _ h => path_len h) h1 h2 h3
        · rw [mkB_size]; exact h3
      · rw [if_neg h3]
        exact .inl ⟨10, .inr rfl, rfl⟩
    · rw [if_neg h2]
      exact .inl ⟨10, .inr rfl, rfl⟩
  · rw [if_neg h1]
    exact .inl ⟨1, .inl rfl, rfl⟩

set_option maxRecDepth 100000 in
set_option maxHeartbeats 8000000 in
theorem objectReturns_walk (v : Value) (l : List C.Mem) (w : World) (hg : Gl w) (r : (sliceR memR).val w l v) (hb : BdM l) : Calls Tryz.prog 7 #[v] w (Al (.bool true) w) := by
  obtain ⟨A, c, rfl, hS⟩ := val_slice r
  obtain ⟨n, hn⟩ : ∃ n, n = l.length := ⟨_, rfl⟩
  rw [← hn]
  have hn2 : n ≤ 140737488351232 := by have := hb.1; omega
  have HG := Lib.hid hg
  have HN := Lib.hid hn
  have HA := Lib.hid hS
  have HFW := Lib.hid (fun W (h : Ext w W) => FewMembers_any l A c n W hn (hS.ext h) hb)
  have HPK := Lib.hid (fun (hf : FewM l) W (h : Ext w W) => Pack_any l A c n W hn (hS.ext h) hf.sizes (by have := hf.1; omega) (hg.ext h))
  clear hn hS r hg hb
  go_enter Tryz.func7, Tryz.ntmps7
  go_wp2_with fail
  refine (awake_any w HG.out).mono ?_
  rintro e2 w2 ⟨rfl, d2⟩
  have HD2 := Lib.hid d2
  clear d2
  go_wp2_with fail
  refine (HFW.out _ HD2.out).mono ?_
  rintro e3 w3 ⟨d3, b, rfl, hb⟩
  have HD3 := Lib.hid (HD2.out.trans d3)
  clear d3 HD2
  cases b with
  | false =>
    clear hb
    go_wp2_with fail
    go_ret
    exact ⟨rfl, HD3.out⟩
  | true =>
    have HFO := Lib.hid (hb rfl)
    clear hb HFW
    go_wp2_with fail
    go_loopw [20] (fun i wr => ∃ k : Nat, k ≤ n ∧ i = .int .i64 k ∧ Hid (Ext w wr)) (fun i _ => n - (intOf i).toNat)
    case atStart => exact ⟨0, Nat.zero_le _, rfl, HD3.out⟩
    case round =>
      clear HD3
      obtain ⟨k, hk, rfl, HK⟩ := hrel
      by_cases hlt : k < n
      · have hkz : k < l.length := by rw [← HN.out]; exact hlt
        obtain ⟨b, off, s, SA, sc, SB, sd, rfl, hB, hgk, hs, hSA, hSB, c0, c1, c2⟩ := mem_getB (HA.out.ext HK.out) hkz
        have hzz := (HFO.out.sizes _ (List.getElem_mem hkz)).2
        clear hgk
        generalize l[k].2 = o at hSA hSB c1 c2 hzz
        obtain ⟨sn, hsn⟩ : ∃ x, x = o.1.length := ⟨_, rfl⟩
        obtain ⟨sm, hsm⟩ : ∃ x, x = o.2.length := ⟨_, rfl⟩
        rw [← hsn] at c1
        rw [← hsm] at c2
        obtain ⟨W1, hW1⟩ : ∃ W1, W1 = wr.alloc (.cells #[.string s, .slice SA sn sc, .slice SB sm sd] 52) := ⟨_, rfl⟩
        have E1 : Ext wr W1 := by rw [hW1]; exact (Ext.refl wr).alloc _
        have KX1 := Lib.hid (show W1.cell? ⟨wr.heap.size, 1, none⟩ = some (.slice SA sn sc) by rw [hW1]; exact cell_new wr #[.string s, .slice SA sn sc, .slice SB sm sd] 52 1)
        have KX2 := Lib.hid (show W1.cell? ⟨wr.heap.size, 2, none⟩ = some (.slice SB sm sd) by rw [hW1]; exact cell_new wr #[.string s, .slice SA sn sc, .slice SB sm sd] 52 2)
        have HX1 := Lib.hid (HK.out.trans E1)
        have HEN := Lib.hid (fun W (h : Ext W1 W) => Encode_any o SA SB sc sd sn sm W hsn (hSA.ext (E1.trans h)) hsm (hSB.ext (E1.trans h)) hzz (HG.out.ext (HX1.out.trans h)))
        have HCK := Lib.hid (fun W (h : Ext W1 W) => Check_any o SA SB sc sd sn sm W hsn (hSA.ext (E1.trans h)) hsm (hSB.ext (E1.trans h)) hzz)
        have HSA := Lib.hid (hSA.ext E1)
        have HSB := Lib.hid (hSB.ext E1)
        have HSN := Lib.hid hsn
        have HSM := Lib.hid hsm
        have HW1 := Lib.hid hW1
        clear hsn hsm hSA hSB E1 hzz hW1
        go_wp2_with fail
        rw [← HW1.out]
        refine (HEN.out _ (Ext.refl _)).mono ?_
        rintro e4 w4 ⟨rfl, d4⟩
        have HD4 := Lib.hid d4
        clear d4 c0 c1 c2 HEN
        have x1 := HD4.out.keepc KX1.out
        have x2 := HD4.out.keepc KX2.out
        rcases enc_cases o with ⟨h1, h2⟩ | ⟨h1, h2⟩ | ⟨h1, s2, h2, h3, h4⟩
        · rw [h1, show chk false = 1 from rfl] at HCK
          rw [h2]
          clear h1 h2
          go_wp2_with fail
          refine (HCK.out _ HD4.out).mono ?_
          rintro e5 w5 ⟨rfl, d5⟩
          have HD5 := Lib.hid (HD4.out.trans d5)
          clear d5 x1 x2
          go_wp2_with fail
          go_roundw
          case rel => exact ⟨k + 1, by omega, by go_num, HX1.out.trans HD5.out⟩
          case measure => simp [intOf]; omega
        · rw [h1, show chk true = 0 from rfl] at HCK
          rw [h2]
          clear h1 h2
          go_wp2_with fail
          refine (HCK.out _ HD4.out).mono ?_
          rintro e5 w5 ⟨rfl, d5⟩
          have HD5 := Lib.hid (HD4.out.trans d5)
          clear d5 x1 x2
          go_wp2_with fail
          go_roundw
          case rel => exact ⟨k + 1, by omega, by go_num, HX1.out.trans HD5.out⟩
          case measure => simp [intOf]; omega
        · rw [h1, show chk true = 0 from rfl] at HCK
          have HDE := Lib.hid (fun W (h : Ext W1 W) => Decode_any s2 W (by omega) (HG.out.ext (HX1.out.trans h)))
          rw [h3] at HDE
          rw [h2]
          clear h1 h2 h3
          go_wp2_with fail
          refine (HCK.out _ HD4.out).mono ?_
          rintro e5 w5 ⟨rfl, d5⟩
          have HD5 := Lib.hid (HD4.out.trans d5)
          clear d5 x1 x2
          have x1 := HD5.out.keepc KX1.out
          have x2 := HD5.out.keepc KX2.out
          go_wp2_with fail
          refine (HDE.out _ HD5.out).mono ?_
          rintro e6 w6 ⟨d6, A2, n2, c2, B2, m2, dd2, rfl, hn2', hm2, hS2, hT2⟩
          obtain rfl : n2 = sn := hn2'.trans HSN.out.symm
          obtain rfl : m2 = sm := hm2.trans HSM.out.symm
          obtain ⟨W6, hW6⟩ : ∃ W6, W6 = w6.alloc (.cells #[.slice A2 n2 c2, .slice B2 m2 dd2] 25) := ⟨_, rfl⟩
          have E6 : Ext w6 W6 := by rw [hW6]; exact (Ext.refl _).alloc _
          have HD6 := Lib.hid (HD5.out.trans (d6.trans E6))
          have y0 : W6.cell? ⟨w6.heap.size, 0, none⟩ = some (.slice A2 n2 c2) := by rw [hW6]; exact cell_new w6 #[.slice A2 n2 c2, .slice B2 m2 dd2] 25 0
          have y1 : W6.cell? ⟨w6.heap.size, 1, none⟩ = some (.slice B2 m2 dd2) := by rw [hW6]; exact cell_new w6 #[.slice A2 n2 c2, .slice B2 m2 dd2] 25 1
          have HSS := Lib.hid (Same_refl o A2 SA B2 SB c2 sc dd2 sd n2 m2 W6 HSN.out (hS2.newOld.ext E6) (HSA.out.ext HD6.out) HSM.out (hT2.newOld.ext E6) (HSB.out.ext HD6.out))
          have z1 := alloc_keepc (.cells #[.slice A2 n2 c2, .slice B2 m2 dd2] 25) (d6.keepc x1)
          have z2 := alloc_keepc (.cells #[.slice A2 n2 c2, .slice B2 m2 dd2] 25) (d6.keepc x2)
          clear d6 E6 hS2 hT2 x1 x2 y0 y1 hn2' hm2
          go_wp2_with fail
          rw [← hW6]
          refine HSS.out.mono ?_
          rintro e7 w7 ⟨rfl, d7⟩
          have HD7 := Lib.hid (HD6.out.trans d7)
          clear d7 z1 z2 hW6
          go_wp2_with fail
          go_roundw
          case rel => exact ⟨k + 1, by omega, by go_num, HX1.out.trans HD7.out⟩
          case measure => simp [intOf]; omega
      · go_wp2_with fail
        refine (HPK.out HFO.out _ HK.out).mono ?_
        rintro e4 w4 ⟨rfl, d4⟩
        have HD4 := Lib.hid (HK.out.trans d4)
        clear d4 HK
        rcases pack_cases l with ⟨e, he, h2⟩ | ⟨s2, h2, h3, h4⟩
        · rw [h2]
          clear h2
          rcases he with rfl | rfl
          · go_wp2_with fail
            go_ret
            exact ⟨rfl, HD4.out⟩
          · go_wp2_with fail
            go_ret
            exact ⟨rfl, HD4.out⟩
        · have HUN := Lib.hid (Unpack_any s2 w4 (by omega) (HG.out.ext HD4.out))
          rw [h3] at HUN
          rw [h2]
          clear h2 h3
          go_wp2_with fail
          refine HUN.out.mono ?_
          rintro e5 w5 ⟨d5, A5, n5, c5, rfl, hn5, hM5⟩
          obtain rfl : n = n5 := HN.out.trans hn5.symm
          have HD5 := Lib.hid (HD4.out.trans d5)
          have HSM := Lib.hid (SameMembers_refl l A A5 c c5 n w5 HN.out (HA.out.ext HD5.out) hM5.newOld)
          clear d5 hM5 hn5
          go_wp2_with fail
          refine HSM.out.mono ?_
          rintro e6 w6 ⟨rfl, d6⟩
          have HD6 := Lib.hid (HD5.out.trans d6)
          clear d6
          go_wp2_with fail
          go_ret
          exact ⟨rfl, HD6.out⟩

end Go.Proofs.YtjimgkefacnamaaGreatDoor

/- The walk of ObjectBytes. -/
namespace Go.Proofs.YtjimgkefacnamaaGreatDoor
open Go.RowKit Go.Maps Go.ChangeMaps Go.Sort

theorem wf_u16 {n : Int} (h : (Lit.int .u16 n).wf = true) : 0 ≤ n ∧ n ≤ 65535 := by
  have h' : IntKind.u16.min ≤ n ∧ n ≤ IntKind.u16.max := by simpa [Lit.wf] using h
  have e1 : IntKind.u16.min = 0 := by decide
  have e2 : IntKind.u16.max = 65535 := by decide
  omega
theorem part_of (s : ByteArray) (k : Nat) : s.data.toList = (s.extract 0 k).data.toList ++ s.data.toList.drop k := by
  have e : (s.extract 0 k).data.toList = s.data.toList.take k := by rw [Lib.extract_data]; rfl
  rw [e, List.take_append_drop]
theorem enc_back {s : ByteArray} {o : C.Obj} (h : C.decB okN s.data.toList = some o) : encV o = .tuple #[.string s, .int .i64 0] ∧ C.checkB okN o = true := by
  obtain ⟨h1, h2, h3, _⟩ := C.decB_read okN h
  refine ⟨?_, h2⟩
  unfold encV
  rw [if_pos h2, ← h1, if_pos h3, mkB_eq]
theorem pack_back {s : ByteArray} {l : List C.Mem} (h : C.unpB okN okP s.data.toList = some l) : packV l = .tuple #[.string s, .int .i64 0] ∧ C.memsB okN okP l = true := by
  obtain ⟨h1, h2, h3, _, h5⟩ := C.unpB_read okN okP h
  refine ⟨?_, h2⟩
  unfold packV C.packB
  rw [if_pos h2, if_pos h5, ← h1, if_pos h3, mkB_eq]
theorem mems_sizes {l : List C.Mem} (h : C.memsB okN okP l = true) : MemSizes l ∧ l.length ≤ 100000 := by
  obtain ⟨h1, h2⟩ := (C.memsB_iff okN okP l).1 h
  refine ⟨fun m hm => ?_, by omega⟩
  obtain ⟨i, hi, rfl⟩ := List.getElem_of_mem hm
  obtain ⟨h3, h4, _⟩ := h2 i hi
  exact ⟨by have := path_len h3; omega, check_names9 h4⟩
theorem dec_part_none {s : ByteArray} {o : C.Obj} {k : Nat} (h : C.decB okN s.data.toList = some o) (hk : k < s.size) : C.decB okN (s.extract 0 k).data.toList = none := by
  cases hp : C.decB okN (s.extract 0 k).data.toList with
  | none => rfl
  | some p =>
    rw [part_of s k] at h
    have := C.decB_part okN (fun _ h => name_len h) h hp
    have h2 := congrArg List.length this
    simp at h2
    omega
theorem unp_part_none {s : ByteArray} {o : List C.Mem} {k : Nat} (h : C.unpB okN okP s.data.toList = some o) (hk : k < s.size) : C.unpB okN okP (s.extract 0 k).data.toList = none := by
  cases hp : C.unpB okN okP (s.extract 0 k).data.toList with
  | none => rfl
  | some p =>
    rw [part_of s k] at h
    have := C.unpB_part okN okP (fun _ h => name_len h) (fun _ h => path_len h) h hp
    have h2 := congrArg List.length this
    simp at h2
    omega
set_option maxRecDepth 100000 in
set_option maxHeartbeats 8000000 in
theorem objectBytes_walk (v0 v1 : Value) (s : ByteArray) (a : Int) (w : World) (hg : Gl w) (r0 : strR.val w s v0) (r1 : (intR .u16).val w a v1) : Calls Tryz.prog 8 #[v0, v1] w (Al (.bool true) w) := by
  obtain ⟨rfl, hs⟩ := val_str r0
  obtain ⟨rfl, ha⟩ := val_int r1
  obtain ⟨ha0, ha1⟩ := wf_u16 ha
  have HG := Lib.hid hg
  clear r0 r1 hg ha
  by_cases hbig : 3000 < s.size
  · go_enter Tryz.func8, Tryz.ntmps8
    go_wp2_with fail
    refine (awake_any w HG.out).mono ?_
    rintro e2 w2 ⟨rfl, d2⟩
    have HD2 := Lib.hid d2
    clear d2
    go_wp2_with fail
    go_ret
    exact ⟨rfl, HD2.out⟩
  by_cases hz : s.size = 0
  · have hl : s.toList = [] := by rw [ByteArray.toList_eq]; exact List.eq_nil_of_length_eq_zero (by simpa using hz)
    clear hz
    go_enter Tryz.func8, Tryz.ntmps8
    go_wp2_with fail
    refine (awake_any w HG.out).mono ?_
    rintro e2 w2 ⟨rfl, d2⟩
    have HD2 := Lib.hid d2
    clear d2
    go_wp2_with fail
    go_ret
    exact ⟨rfl, HD2.out⟩
  have hl : ¬ s.toList = [] := by
    rw [ByteArray.toList_eq]
    intro h
    have := congrArg List.length h
    simp at this
    exact hz (by rw [this]; rfl)
  have he : s.toList.isEmpty = false := by cases h : s.toList with
    | nil => exact absurd h hl
    | cons => rfl
  have hpos : 0 < s.size := by omega
  have hm0 : 0 ≤ a % (s.size : Int) := Int.emod_nonneg _ (by omega)
  have hm1 : a % (s.size : Int) < s.size := Int.emod_lt_of_pos _ (by omega)
  go_enter Tryz.func8, Tryz.ntmps8
  go_wp2_with fail
  refine (awake_any w HG.out).mono ?_
  rintro e2 w2 ⟨rfl, d2⟩
  have HD2 := Lib.hid d2
  clear d2
  have hkz : (a % (s.size : Int)).toNat < s.size := by omega
  have hpz : (s.extract 0 (a % (s.size : Int)).toNat).size ≤ 9000000000000000000 := by rw [ByteArray.size_extract]; omega
  have HDP := Lib.hid (fun o (h : C.decB okN s.data.toList = some o) => dec_part_none h hkz)
  have HUP := Lib.hid (fun o (h : C.unpB okN okP s.data.toList = some o) => unp_part_none h hkz)
  have HD := Lib.hid (fun W (h : Ext w W) => Decode_any s W (by omega) (HG.out.ext h))
  have HU := Lib.hid (fun W (h : Ext w W) => Unpack_any s W (by omega) (HG.out.ext h))
  have HPD := Lib.hid (fun W (h : Ext w W) => Decode_any (s.extract 0 (a % (s.size : Int)).toNat) W hpz (HG.out.ext h))
  have HPU := Lib.hid (fun W (h : Ext w W) => Unpack_any (s.extract 0 (a % (s.size : Int)).toNat) W hpz (HG.out.ext h))
  go_wp2_with fail
  generalize s.extract 0 (a % (s.size : Int)).toNat = p at HDP HUP HPD HPU ⊢
  clear hpz hkz
  refine (HD.out _ HD2.out).mono ?_
  cases hdd : C.decB okN s.data.toList with
  | none =>
    intro e3 w3 hr
    obtain ⟨d3, rfl⟩ := hr
    have HD3 := Lib.hid ((HD2.out.trans d3).alloc (.cells #[.slice none 0 0, .slice none 0 0] 25))
    clear d3 HD2 hdd HDP HPD
    go_wp2_with fail
    refine (HU.out _ HD3.out).mono ?_
    cases huu : C.unpB okN okP s.data.toList with
    | none =>
      intro e4 w4 hr
      obtain ⟨d4, rfl⟩ := hr
      have HD4 := Lib.hid (HD3.out.trans d4)
      clear d4 huu
      go_wp2_with fail
      go_ret
      exact ⟨rfl, HD4.out⟩
    | some l =>
      rintro e4 w4 ⟨d4, A, n, c, rfl, hn, hM⟩
      have HD4 := Lib.hid (HD3.out.trans d4)
      obtain ⟨hpk, hmm⟩ := pack_back huu
      have HPK := Lib.hid (Pack_any l A c n w4 hn hM.newOld (mems_sizes hmm).1 (by have := (mems_sizes hmm).2; omega) (HG.out.ext HD4.out))
      rw [hpk] at HPK
      have HPN := Lib.hid (HUP.out _ huu)
      rw [HPN.out] at HPU
      clear d4 hn hM hpk hmm huu HUP HPN
      go_wp2_with fail
      refine HPK.out.mono ?_
      rintro e5 w5 ⟨rfl, d5⟩
      have HD5 := Lib.hid (HD4.out.trans d5)
      clear d5
      go_wp2_with fail
      refine (HPU.out _ HD5.out).mono ?_
      intro e6 w6 hr
      obtain ⟨d6, rfl⟩ := hr
      have HD6 := Lib.hid (HD5.out.trans d6)
      clear d6
      go_wp2_with fail
      go_ret
      exact ⟨rfl, HD6.out⟩
  | some o =>
    rintro e3 w3 ⟨d3, A, n, c, B, m, d, rfl, hn, hm, hS, hT⟩
    obtain ⟨hen, hck⟩ := enc_back hdd
    have huu : C.unpB okN okP s.data.toList = none := by
      cases h : C.unpB okN okP s.data.toList with
      | none => rfl
      | some l => exact (C.not_both okN okP hdd h).elim
    rw [huu] at HU
    have HPN := Lib.hid (HDP.out _ hdd)
    rw [HPN.out] at HPD
    obtain ⟨W3, hW3⟩ : ∃ W3, W3 = w3.alloc (.cells #[.slice A n c, .slice B m d] 25) := ⟨_, rfl⟩
    have E3 : Ext w3 W3 := by rw [hW3]; exact (Ext.refl _).alloc _
    have a0 : W3.cell? ⟨w3.heap.size, 0, none⟩ = some (.slice A n c) := by rw [hW3]; exact cell_new w3 #[.slice A n c, .slice B m d] 25 0
    have a1 : W3.cell? ⟨w3.heap.size, 1, none⟩ = some (.slice B m d) := by rw [hW3]; exact cell_new w3 #[.slice A n c, .slice B m d] 25 1
    have HX3 := Lib.hid ((HD2.out.trans d3).trans E3)
    have HEN := Lib.hid (fun W (h : Ext W3 W) => Encode_any o A B c d n m W hn (hS.newOld.ext (E3.trans h)) hm (hT.newOld.ext (E3.trans h)) (check_names9 hck) (HG.out.ext (HX3.out.trans h)))
    have HCK := Lib.hid (fun W (h : Ext W3 W) => Check_any o A B c d n m W hn (hS.newOld.ext (E3.trans h)) hm (hT.newOld.ext (E3.trans h)) (check_names9 hck))
    rw [hen] at HEN
    rw [hck, show chk true = 0 from rfl] at HCK
    have KA0 := Lib.hid a0
    have KA1 := Lib.hid a1
    clear d3 hn hm hS hT hen hck hdd huu HPN HDP HUP HPU a0 a1 E3 HD2 HD
    go_wp2_with fail
    rw [← hW3]
    clear hW3
    refine (HEN.out _ (Ext.refl _)).mono ?_
    rintro e4 w4 ⟨rfl, d4⟩
    have HD4 := Lib.hid d4
    clear d4
    go_wp2_with fail
    refine (HPD.out _ (HX3.out.trans HD4.out)).mono ?_
    intro e5 w5 hr
    obtain ⟨d5, rfl⟩ := hr
    have HD5 := Lib.hid ((HD4.out.trans d5).alloc (.cells #[.slice none 0 0, .slice none 0 0] 25))
    have a0 := HD5.out.keepc KA0.out
    have a1 := HD5.out.keepc KA1.out
    clear d5 HD4
    go_wp2_with fail
    refine (HCK.out _ HD5.out).mono ?_
    rintro e6 w6 ⟨rfl, d6⟩
    have HD6 := Lib.hid (HX3.out.trans (HD5.out.trans d6))
    clear d6 a0 a1
    go_wp2_with fail
    refine (HU.out _ HD6.out).mono ?_
    intro e7 w7 hr
    obtain ⟨d7, rfl⟩ := hr
    have HD7 := Lib.hid (HD6.out.trans d7)
    clear d7
    go_wp2_with fail
    go_ret
    exact ⟨rfl, HD7.out⟩

end Go.Proofs.YtjimgkefacnamaaGreatDoor

/- What comes in reads so, with bounds by the form's own reach: strings and slices take at most 2^47 - 4096 bytes. For any program. -/
namespace Go.Proofs.YtjimgkefacnamaaGreatDoor
open Go.RowKit
section
variable {H : Type} {enc : TypeId × Value → H} {P : Program} {w : World}
theorem reach_is : reachBytes = 140737488351232 := rfl
/-- Type t's values read as r says, and bd holds of them, where nothing in them passes the reach. -/
def OpensB (enc : TypeId × Value → H) (P : Program) (w : World) (t : TypeId) {α : Type} (r : Rep α) (bd : α → Prop) : Prop :=
  P.cellsOf t = r.size ∧ ∀ (fuel : Nat) (cs : List Value) (x : DataW H × List MemPlace), DataW.trod enc P w 0 (fun _ => true) true fuel t cs = some x → (∀ n ∈ x.1.weights P t, n ≤ reachBytes) → ∃ a, r.is w (Old w) a cs ∧ bd a
theorem Opens.toB {t : TypeId} {α : Type} {r : Rep α} (h : Opens enc P w t r) : OpensB enc P w t r (fun _ => True) :=
  ⟨h.1, fun fuel cs x hx _ => by obtain ⟨a, ha⟩ := h.2 fuel cs x hx; exact ⟨a, ha, trivial⟩⟩
theorem OpensB.str {t : TypeId} (ht : P.underlying t = some .string) (hc : P.cellsOf t = 1) : OpensB enc P w t strR (fun s => s.size ≤ 140737488351232) :=
  ⟨hc, fun _ _ x h hz => by
    obtain ⟨s, rfl, hx, hs⟩ := DataW.trod_string ht h
    refine ⟨s, ⟨rfl, hs⟩, ?_⟩
    have hx1 : x.1 = .lit (.string s.data.toList) := by rw [hx]
    have := hz s.size (by rw [hx1]; simp [DataW.weights])
    rwa [reach_is] at this⟩
theorem weightsAll_mem {e : TypeId} : ∀ {l : List (DataW H)} {d : DataW H}, d ∈ l → ∀ n ∈ d.weights P e, n ∈ DataW.weightsAll P e l
  | _ :: _, _, hd, n, hn => by
    unfold DataW.weightsAll
    rcases List.mem_cons.1 hd with rfl | hd
    · exact List.mem_append_left _ hn
    · exact List.mem_append_right _ (weightsAll_mem hd n hn)
theorem OpensB.slice {t e : TypeId} {α : Type} {r : Rep α} {bd : α → Prop} (ht : P.underlying t = some (.slice e)) (hc : P.cellsOf t = 1) (hpos : 0 < r.size) (hby : 0 < P.bytesOf e) (he : OpensB enc P w e r bd) :
    OpensB enc P w t (sliceR r) (fun l => l.length ≤ 140737488351232 ∧ ∀ a ∈ l, bd a) := by
  refine ⟨hc, fun fuel cs x h hz => ?_⟩
  rcases Go.Deep.open_slice ht h with ⟨rfl, _⟩ | ⟨a, len, cap, m, n, D, Pl, rfl, _, hl, hm, hmm, hx, hall⟩
  · exact ⟨[], ⟨none, 0, rfl, SliceAt.nil _ _ _ _ _ (by omega)⟩, by simp, fun _ h => by cases h⟩
  · simp only [ite_true] at hmm
    have hx1 : x.1 = .slice ((List.range len).map D) ((List.range (m - len)).map fun j => D (len + j)) := by rw [hx]
    rw [hx1] at hz
    unfold DataW.weights at hz
    rw [ht] at hz
    simp only at hz
    have hcap : len ≤ 140737488351232 := by
      have h1 := hz _ (List.mem_cons_self)
      rw [reach_is] at h1
      simp only [List.length_map, List.length_range] at h1
      have h2 : len + (m - len) ≤ (len + (m - len)) * P.bytesOf e := Nat.le_mul_of_pos_right _ hby
      omega
    have hex : ∀ i, i < len → ∃ y, (∃ us, r.is w (Old w) y us ∧ us.length = r.size ∧ ∀ j, j < r.size → w.cell? ((a.add (i * r.size)).add j) = us[j]?) ∧ bd y := by
      intro i hi
      obtain ⟨cs', h1, h2⟩ := hall i (by omega)
      rw [he.1] at h1
      obtain ⟨y, hy, hby⟩ := he.2 _ _ _ h2 fun k hk => hz k (List.mem_cons_of_mem _ (List.mem_append_left _ (weightsAll_mem (List.mem_map.2 ⟨i, List.mem_range.2 hi, rfl⟩) k hk)))
      obtain ⟨_, g2, g3⟩ := World.cells?_some h1
      exact ⟨y, ⟨cs', hy, g2, g3⟩, hby⟩
    obtain ⟨l, hlen, hp⟩ := list_of_lt hex
    refine ⟨l, ⟨some a, cap, by rw [hlen], by omega, by unfold maxLen at hm; omega, fun hne => ?_⟩, by omega, fun y hy => ?_⟩
    · have hlpos : 0 < l.length := List.length_pos_iff.2 hne
      obtain ⟨⟨us, _, hul, hc0⟩, _⟩ := hp 0 hlpos
      have hc00 := hc0 0 hpos
      obtain ⟨u0, hu0⟩ : ∃ u0, us[0]? = some u0 := ⟨us[0]'(by omega), by simp [hul, hpos]⟩
      rw [hu0] at hc00
      have hc00' : w.cell? a = some u0 := by simpa [Addr.add] using hc00
      have hspot := World.cell?_spot hc00'
      have hblk := World.block_lt_of_cell? w _ hc00'
      obtain ⟨b, off, sp⟩ := a
      simp only at hspot
      subst hspot
      refine ⟨b, off, rfl, hblk, fun i hi => ?_⟩
      obtain ⟨⟨us, h1, h2, h3⟩, _⟩ := hp i hi
      refine ⟨us, h1, fun j u hj => ?_⟩
      have hj' : j < r.size := by
        rcases Nat.lt_or_ge j us.length with h | h
        · omega
        · rw [List.getElem?_eq_none h] at hj; cases hj
      have := h3 j hj'
      rw [hj] at this
      have e : ((⟨b, off, none⟩ : Addr).add (i * r.size)).add j = ⟨b, off + (i * r.size + j), none⟩ := by
        rw [Go.Deep.add_add]
        unfold Addr.add
        split
        · rename_i h0; rw [h0]; rfl
        · rfl
      rwa [e] at this
    · obtain ⟨i, hi, rfl⟩ := List.getElem_of_mem hy
      exact (hp i hi).2
/-- The fields from number k on, at offset o. -/
def OpensFieldsB (enc : TypeId × Value → H) (P : Program) (w : World) (fs : List Field) (o : Nat) {α : Type} (r : Rep α) (bd : α → Prop) : Prop :=
  ∀ (fuel : Nat) (cs : List Value) (xs : List (DataW H × List MemPlace)), cs.length = o + r.size →
    (∀ (i : Nat) (f : Field), fs[i]? = some f → DataW.trod enc P w 0 (fun _ => true) true fuel f.type ((cs.drop f.offset).take (P.cellsOf f.type)) = xs[i]?) → fs.length ≤ xs.length →
    (∀ n ∈ DataW.weightsEach P (fs.map (·.type)) (xs.map (·.1)), n ≤ reachBytes) → ∃ a, r.is w (Old w) a (cs.drop o) ∧ bd a
theorem OpensFieldsB.one {f : Field} {o : Nat} {α : Type} {r : Rep α} {bd : α → Prop} (h : OpensB enc P w f.type r bd) (ho : f.offset = o) : OpensFieldsB enc P w [f] o r bd := by
  intro fuel cs xs hl hf hx hz
  have h0 := hf 0 f rfl
  cases xs with
  | nil => simp at hx
  | cons x xs =>
    rw [List.getElem?_cons_zero, ho, h.1, List.take_of_length_le (by rw [List.length_drop]; omega)] at h0
    refine h.2 _ _ _ h0 fun n hn => hz n ?_
    simp only [List.map_cons, DataW.weightsEach]
    exact List.mem_append_left _ hn
theorem OpensFieldsB.cons {f : Field} {fs : List Field} {o : Nat} {α β : Type} {r : Rep α} {s : Rep β} {bd : α → Prop} {be : β → Prop} (h : OpensB enc P w f.type r bd) (ho : f.offset = o) (hs : OpensFieldsB enc P w fs (o + r.size) s be) : OpensFieldsB enc P w (f :: fs) o (prodR r s) (fun p => bd p.1 ∧ be p.2) := by
  intro fuel cs xs hl hf hx hz
  have h0 := hf 0 f rfl
  cases xs with
  | nil => simp at hx
  | cons x xs =>
    rw [List.getElem?_cons_zero, ho, h.1] at h0
    simp only [List.map_cons, DataW.weightsEach] at hz
    obtain ⟨a, ha, hba⟩ := h.2 _ _ _ h0 fun n hn => hz n (List.mem_append_left _ hn)
    have hl' : cs.length = o + (r.size + s.size) := hl
    obtain ⟨b, hb, hbb⟩ := hs fuel cs xs (by omega) (fun i g hg => by have := hf (i + 1) g (by simpa using hg); simpa using this) (by simp at hx; omega) fun n hn => hz n (List.mem_append_right _ hn)
    refine ⟨(a, b), ⟨_, _, ?_, ha, hb⟩, hba, hbb⟩
    rw [← List.drop_drop]
    exact (List.take_append_drop _ _).symm
theorem OpensB.struct {t : TypeId} {fs : Array Field} {α : Type} {r : Rep α} {bd : α → Prop} (ht : P.underlying t = some (.struct fs)) (hc : P.cellsOf t = r.size) (h : OpensFieldsB enc P w fs.toList 0 r bd) : OpensB enc P w t r bd := by
  refine ⟨hc, fun fuel cs x hx hz => ?_⟩
  obtain ⟨xs, n, _, hx1, hl, hxl, hf⟩ := DataW.trod_struct ht hx
  have hx2 : x.1 = .agg (xs.map (·.1)) := by rw [hx1]
  rw [hx2] at hz
  unfold DataW.weights at hz
  rw [ht] at hz
  simp only at hz
  have := h n cs xs (by omega) (fun i f hi => hf i f (by simpa using hi)) (by simp [hxl]) hz
  simpa using this
/-- An argument of the row, opened. -/
theorem OpensB.arg {t : TypeId} {α : Type} {r : Rep α} {bd : α → Prop} (h : OpensB enc P w t r bd) {v : Value} {d : DataW H} {p : List MemPlace} (ht : DataW.Trod enc P w 0 (fun _ => true) true t v d p) (hz : ∀ n ∈ d.weights P t, n ≤ reachBytes) (hv : r.size = 1 → v.cells = #[v]) : ∃ a, r.val w a v ∧ bd a := by
  obtain ⟨fuel, hf⟩ := ht
  obtain ⟨a, ha, hb⟩ := h.2 _ _ _ hf hz
  exact ⟨a, ⟨ha, hv⟩, hb⟩
/-- The weights of argument j. -/
theorem weights_at {ts : List TypeId} {ds : List (DataW H)} (h : (DataW.weightsEach P ts ds).all (· ≤ reachBytes) = true) (j : Nat) {t : TypeId} {d : DataW H} (ht : ts[j]? = some t) (hd : ds[j]? = some d) : ∀ n ∈ d.weights P t, n ≤ reachBytes := by
  intro n hn
  have := List.all_eq_true.1 h n (DataW.weights_mem_each ht hd n hn)
  simpa using this
theorem wrap_sized {a : Assume} {C : Checked} {os : Os} {f : FuncId} {fn : Func} {s : ChangeSpec} {conds : List PathCond} {apart fresh handsOn again : Bool} {X : World → Array Value → Prop}
    (hX : ∀ (w w' : World) (args : Array Value), w.heap = w'.heap → X w args → X w' args)
    (own : ownKnob C.prog.godebug = none) (started : os.Started) (noInit : C.prog.inits.idxOf? f = none) (hfn : C.prog.funcs[f]? = some fn)
    (witness : ∃ (w : World) (tape : Tape) (i : Input), w.os = os ∧ (w.forCall tape i).Shaped C.prog ∧ i.vars = [] ∧ Input.okWide C.prog (w.forCall tape i) .any w.heap.size f i ∧
      ((s.pre enc C.prog fn conds apart (w.forCall tape i).memory i.args ∧ X (w.forCall tape i).memory i.args) ∧ sizedMet enc C.prog fn (OpenSpec.ofChange s) apart (w.forCall tape i).memory i.args) ∧ a.holds C.prog (lone (Frame.enter C.prog f i.args .normal) [] (w.forCall tape i)))
    (contract : ∀ (W : World) (base : Nat) (args : Array Value) (ds gs : List (DataW H)) (before : List MemPlace),
      (∀ (j : Nat) t v, fn.params[j]? = some t → args[j]? = some v → Value.okWide C.prog W .any base t v) →
      DataW.Whole enc C.prog fn.params.toList s.vars apart W args.toList ds gs before →
      conds.all (PathCond.test C.prog ⟨fn.params.toList, ds, s.plain.varTypes C.prog, gs⟩) = true →
      X W args → W.ShapedOpen C.prog →
      (DataW.weightsEach C.prog (fn.params.toList ++ (OpenSpec.ofChange s).bare.plain.varTypes C.prog) (ds ++ gs)).all (· ≤ reachBytes) = true →
      Calls C.prog f args W fun e W' => ∃ v, e = .returned v ∧ s.post enc C.prog fn apart fresh handsOn again W args v W') :
    ReturnsInHanded a C os f .any (fun w args => (s.pre enc C.prog fn conds apart w args ∧ X w args) ∧ sizedMet enc C.prog fn (OpenSpec.ofChange s) apart w args) (s.post enc C.prog fn apart fresh handsOn again) := by
  refine returnsInHanded_of_calls own started noInit witness ?_
  intro w tape i _ hsh _ hok hpre _
  obtain ⟨_, _, _, fn', hfn', _, _, _, _, hval⟩ := hok
  have e : fn' = fn := Option.some.inj (hfn'.symm.trans hfn)
  subst e
  obtain ⟨⟨⟨ds, gs, before, hw, hc⟩, hx⟩, hsz⟩ := hpre
  have hw' := DataW.Whole.of_heap (w' := w.forCall tape i) (by rfl) hw
  refine (contract (w.forCall tape i) w.heap.size i.args ds gs before hval hw' hc (hX _ _ _ (by rfl) hx) hsh (sizedMet.weights hsz hw)).mono fun e W' ⟨v, he, hp⟩ => ?_
  subst he
  exact ChangeSpec.post_blind hp
theorem laidMetH_laidAll {P : Program} {os : Os} {laid : List (String × DataW Unit)} (args : Array Value) (hp : (laid.filter fun x => x.2.handleName?.isSome) = [])
    (hf : (World.holding P os ⟨#[], #[], []⟩).layFits P laid [] = true)
    (hi : (World.holding P os ⟨#[], #[], []⟩).layIfaces P laid (World.laidAll P os laid) = true) :
    laidMetH P laid ((World.laidAll P os laid).forCall (fun _ _ => 0) ⟨#[], args, []⟩).memory := by
  unfold laidMetH
  rw [hp]
  exact laidMet_laidAll args hf hi
end
end Go.Proofs.YtjimgkefacnamaaGreatDoor

/- What the arguments read as; the laid variables: the frame of the cards of chapter 10. -/
namespace Go.Proofs.YtjimgkefacnamaaGreatDoor
open Go.RowKit

theorem OpensB.mono {H : Type} {enc : TypeId × Value → H} {P : Program} {w : World} {t : TypeId} {α : Type} {r : Rep α} {bd be : α → Prop} (h : OpensB enc P w t r bd) (hb : ∀ a, bd a → be a) : OpensB enc P w t r be :=
  ⟨h.1, fun fuel cs x hx hz => by obtain ⟨a, ha, hba⟩ := h.2 fuel cs x hx hz; exact ⟨a, ha, hb a hba⟩⟩
section
variable {H : Type} {enc : TypeId × Value → H} {w : World}
theorem op9 : OpensB enc Tryz.prog w 9 strR (fun s => s.size ≤ 140737488351232) := OpensB.str Tryz.underlying9 (by kernel_rfl)
theorem op3 : OpensB enc Tryz.prog w 3 (intR .i64) (fun _ => True) := (Opens.int Tryz.underlying3 (by kernel_rfl)).toB
theorem op53 : OpensB enc Tryz.prog w 53 (intR .u16) (fun _ => True) := (Opens.int Tryz.underlying53 (by kernel_rfl)).toB
theorem op29 : OpensB enc Tryz.prog w 29 symR (fun p => p.1.size ≤ 140737488351232 ∧ True ∧ True) :=
  (OpensB.struct Tryz.underlying29 (by kernel_rfl) (.cons op9 rfl (.cons op3 rfl (.one op3 rfl)))).mono fun _ h => h
theorem op87 : OpensB enc Tryz.prog w 87 relR (fun p => True ∧ p.2.size ≤ 140737488351232) :=
  (OpensB.struct Tryz.underlying87 (by kernel_rfl) (.cons op3 rfl (.one op9 rfl))).mono fun _ h => h
theorem op22 : OpensB enc Tryz.prog w 22 (sliceR symR) (fun l => l.length ≤ 140737488351232) := (OpensB.slice Tryz.underlying22 (by kernel_rfl) (by decide) (of_decide_eq_true (by kernel_rfl)) op29).mono fun _ h => h.1
theorem op83 : OpensB enc Tryz.prog w 83 (sliceR relR) (fun l => l.length ≤ 140737488351232) := (OpensB.slice Tryz.underlying83 (by kernel_rfl) (by decide) (of_decide_eq_true (by kernel_rfl)) op87).mono fun _ h => h.1
theorem op85 : OpensB enc Tryz.prog w 85 secR (fun p => True ∧ p.2.1.size ≤ 140737488351232 ∧ p.2.2.length ≤ 140737488351232) :=
  (OpensB.struct Tryz.underlying85 (by kernel_rfl) (.cons op3 rfl (.cons op9 rfl (.one op83 rfl)))).mono fun _ h => h
theorem op23 : OpensB enc Tryz.prog w 23 (sliceR secR) (fun l => l.length ≤ 140737488351232 ∧ ∀ s ∈ l, s.2.1.size ≤ 140737488351232 ∧ s.2.2.length ≤ 140737488351232) := (OpensB.slice Tryz.underlying23 (by kernel_rfl) (by decide) (of_decide_eq_true (by kernel_rfl)) op85).mono fun _ h => ⟨h.1, fun s hs => (h.2 s hs).2⟩
theorem op25 : OpensB enc Tryz.prog w 25 objR BdO :=
  (OpensB.struct Tryz.underlying25 (by kernel_rfl) (.cons op22 rfl (.one op23 rfl))).mono fun _ h => ⟨h.1, h.2.1, h.2.2⟩
theorem op52 : OpensB enc Tryz.prog w 52 memR (fun p => BdO p.2) :=
  (OpensB.struct Tryz.underlying52 (by kernel_rfl) (.cons op9 rfl (.one op25 rfl))).mono fun _ h => h.2
theorem op43 : OpensB enc Tryz.prog w 43 (sliceR memR) BdM := (OpensB.slice Tryz.underlying43 (by kernel_rfl) (by decide) (of_decide_eq_true (by kernel_rfl)) op52).mono fun _ h => h
end
theorem tab_third {P : Program} {W : World} {name n1 n2 : String} {x y : DataW Unit} {k : IntKind} {zs : List Int} {rest : List (String × DataW Unit)} {g : Nat} {t e : TypeId} {n : Nat}
    (hg : P.globalNamed name = some g) (hty : (P.globals[g]?).map (·.type) = some t) (ht : P.underlying t = some (.array n e)) (he : P.underlying e = some (.int k)) (hce : P.cellsOf e = 1) (hct : P.cellsOf t = n)
    (h : laidMet P ((n1, x) :: (n2, y) :: (name, Lib.tabData k zs) :: rest) W) : Lib.TabIs P W name k zs := by
  obtain ⟨ps, ⟨_, _, _, _, _, _, _, _, _, _, ⟨_, _, _, _, _, _, _, _, _, _, ⟨g', t', cs, fuel, p, q, hg', ht', hvar, hd, _, _⟩, _⟩, _⟩, _⟩ := h
  obtain rfl := Option.some.inj (hg.symm.trans hg')
  obtain rfl := Option.some.inj (hty.symm.trans ht')
  unfold Lib.TabIs
  rw [hvar, ← Lib.cells_of_tab ht he hce hct hd]
theorem gl_of {W : World} {n1 n2 : String} {x y z : DataW Unit} {rest : List (String × DataW Unit)} (h : W.ShapedOpen Tryz.prog) (hf : ((n1, x) :: (n2, y) :: ("internal/strconv.uint64pow10", z) :: rest).filter (fun x => x.2.handleName?.isSome) = [])
    (hl : laidMetH Tryz.prog ((n1, x) :: (n2, y) :: ("internal/strconv.uint64pow10", z) :: rest) W) (hz : z = Lib.tabData .u64 Lib.pow10Tab) : Gl W := by
  refine ⟨Tryz.laysM219.s1_3 W h, ?_⟩
  subst hz
  have hL : laidMet Tryz.prog ((n1, x) :: (n2, y) :: ("internal/strconv.uint64pow10", Lib.tabData .u64 Lib.pow10Tab) :: rest) W := by
    unfold laidMetH at hl
    rw [hf] at hl
    exact hl
  exact tab_third (g := 0) (t := 282) (e := 185) (n := 20) (by kernel_rfl) (by kernel_rfl) Tryz.underlying282 Tryz.underlying185 (by kernel_rfl) (by kernel_rfl) hL

end Go.Proofs.YtjimgkefacnamaaGreatDoor
