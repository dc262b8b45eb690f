/- The texts Eb Ec Ed Ra Rb of the seat, joined. -/
import Derived.Test.YtjimgkefacnamaaGreatDoorG7
import Derived.WalkMore
import Derived.Deep.LoopGhost
/- Encode: what stands while it writes. -/
namespace Go.Proofs.YtjimgkefacnamaaGreatDoor
open Go.RowKit Go.Maps Go.ChangeMaps Go.Sort

theorem WKeep.heap {b : Nat} {w w' : World} (h : WKeep b w w') {k : Nat} {ob : Go.Obj} (hk : w.heap[k]? = some ob) (hb : k ≠ b) (ht : ∀ cur fz, ob ≠ .cells cur 5 fz) : w'.heap[k]? = some ob := by
  have hlt : k < w.heap.size := (Array.getElem?_eq_some_iff.1 hk).1
  rw [h.2 k hlt hb (by rw [hk]; intro cur fz e; exact ht cur fz (Option.some.inj e)), hk]
theorem Ext.heap {w w' : World} (h : Ext w w') {k : Nat} {ob : Go.Obj} (hk : w.heap[k]? = some ob) : w'.heap[k]? = some ob :=
  (h.block k (Array.getElem?_eq_some_iff.1 hk).1).trans hk
/-- The writer holds L; the map of names and the object's own block stand. -/
def ESt (w : World) (l : List C.Sym) (cs : Array Value) (bw bm : Nat) (L : C.Bs) (wr : World) : Prop :=
  Wst w bw L wr ∧ MapTo wr bm l l.length ∧ wr.heap[w.heap.size]? = some (.cells cs 25 (0, 0)) ∧ w.heap.size < bw ∧ bm < bw
section
variable {w : World} {l : List C.Sym} {cs : Array Value} {bw bm : Nat} {L : C.Bs} {wr : World}
theorem ESt.ext (h : ESt w l cs bw bm L wr) {w' : World} (d : Ext wr w') : ESt w l cs bw bm L w' := ⟨h.1.ext d, h.2.1.ext d, d.heap h.2.2.1, h.2.2.2.1, h.2.2.2.2⟩
theorem ESt.step (h : ESt w l cs bw bm L wr) {L' : C.Bs} {w' : World} (h' : Wst w bw L' w') (k : WKeep bw wr w') : ESt w l cs bw bm L' w' := by
  obtain ⟨h1, ⟨es, clock, hb, r⟩, h3, h4, h5⟩ := h
  exact ⟨h', ⟨es, clock, k.heap hb (by omega) (by intro _ _ h; cases h), r⟩, k.heap h3 (by omega) (by intro _ _ h; cases h), h4, h5⟩
theorem ESt.lt (h : ESt w l cs bw bm L wr) : bw < wr.heap.size := by
  rcases h.1.2 with ⟨_, v, hb, _⟩ | ⟨_, v, hb, _⟩ <;> exact (Array.getElem?_eq_some_iff.1 hb).1
theorem ESt.cell (h : ESt w l cs bw bm L wr) (i : Nat) : wr.cell? ⟨w.heap.size, i, none⟩ = cs[i]? := cell_of_row wr _ _ cs 25 (0, 0) h.2.2.1
theorem text_e (h : ESt w l cs bw bm L wr) (hg : Gl w) (hl : L.length ≤ 100000000) (s : ByteArray) (hs : s.size ≤ 9223372036854775807) :
    Calls Tryz.prog 49 #[.pointer (some ⟨bw, 0, none⟩), .string s] wr fun e w' => e = .returned (.tuple #[]) ∧ ESt w l cs bw bm (L ++ (txtB s).data.toList) w' ∧ WKeep bw wr w' := by
  refine (text_st w bw L s wr h.1 hg hl hs).mono ?_
  rintro e w' ⟨rfl, h1, h2⟩
  exact ⟨rfl, h.step h1 h2, h2⟩
theorem nums_e (h : ESt w l cs bw bm L wr) (hg : Gl w) (hl : L.length ≤ 100000000) (zs : List Int) (hz : zs.length ≤ 1000) :
    Calls Tryz.prog 50 #[.pointer (some ⟨bw, 0, none⟩), .slice (some ⟨wr.heap.size, 0, none⟩) zs.length zs.length] (wr.alloc (.cells (zs.map (Value.int .i64)).toArray 3)) fun e w' => e = .returned (.tuple #[]) ∧ ESt w l cs bw bm (L ++ numsL zs) w' ∧ WKeep bw wr w' := by
  have hlt := h.lt
  have E1 : Ext wr (wr.alloc (.cells (zs.map (Value.int .i64)).toArray 3)) := (Ext.refl wr).alloc _
  have h1 := h.ext E1
  refine (number_st w bw L zs wr.heap.size 0 zs.length zs.length _ rfl h1.1 hg hl hz (fun j hj => ?_) (by omega) ?_).mono ?_
  · rw [Nat.zero_add, cell_new]
    simp [hj]
  · intro cur fz
    rw [heap_alloc_new]
    intro e
    cases e
  · rintro e w' ⟨rfl, h2, h3⟩
    exact ⟨rfl, h1.step h2 h3, (E1.wkeep bw).trans h3⟩
theorem num1_e (h : ESt w l cs bw bm L wr) (hg : Gl w) (hl : L.length ≤ 100000000) (n : Int) :
    Calls Tryz.prog 50 #[.pointer (some ⟨bw, 0, none⟩), .slice (some ⟨wr.heap.size, 0, none⟩) 1 1] (wr.alloc (.cells #[.int .i64 n] 3)) fun e w' => e = .returned (.tuple #[]) ∧ ESt w l cs bw bm (L ++ numsL [n]) w' ∧ WKeep bw wr w' :=
  nums_e h hg hl [n] (by simp)
theorem num2_e (h : ESt w l cs bw bm L wr) (hg : Gl w) (hl : L.length ≤ 100000000) (n m : Int) :
    Calls Tryz.prog 50 #[.pointer (some ⟨bw, 0, none⟩), .slice (some ⟨wr.heap.size, 0, none⟩) 2 2] (wr.alloc (.cells #[.int .i64 n, .int .i64 m] 3)) fun e w' => e = .returned (.tuple #[]) ∧ ESt w l cs bw bm (L ++ numsL [n, m]) w' ∧ WKeep bw wr w' :=
  nums_e h hg hl [n, m] (by simp)
theorem num1_g (g : Nat) (hgz : g = wr.heap.size) (h : ESt w l cs bw bm L wr) (hg : Gl w) (hl : L.length ≤ 100000000) (n : Int) :
    Calls Tryz.prog 50 #[.pointer (some ⟨bw, 0, none⟩), .slice (some ⟨g, 0, none⟩) 1 1] (wr.alloc (.cells #[.int .i64 n] 3)) fun e w' => e = .returned (.tuple #[]) ∧ ESt w l cs bw bm (L ++ numsL [n]) w' ∧ WKeep bw wr w' := by
  subst hgz; exact num1_e h hg hl n
theorem num2_g (g : Nat) (hgz : g = wr.heap.size) (h : ESt w l cs bw bm L wr) (hg : Gl w) (hl : L.length ≤ 100000000) (n m : Int) :
    Calls Tryz.prog 50 #[.pointer (some ⟨bw, 0, none⟩), .slice (some ⟨g, 0, none⟩) 2 2] (wr.alloc (.cells #[.int .i64 n, .int .i64 m] 3)) fun e w' => e = .returned (.tuple #[]) ∧ ESt w l cs bw bm (L ++ numsL [n, m]) w' ∧ WKeep bw wr w' := by
  subst hgz; exact num2_e h hg hl n m
theorem len_e (h : ESt w l cs bw bm L wr) : Calls Tryz.prog 51 #[.pointer (some ⟨bw, 0, none⟩)] wr fun e w' => e = .returned (.int .i64 L.length) ∧ w' = wr := by
  have := Len_w w.heap.size bw (Lib.byteCells L) wr h.1.2
  rwa [Lib.byteCells_length] at this
theorem string_e (h : ESt w l cs bw bm L wr) (h0 : L ≠ []) : Calls Tryz.prog 52 #[.pointer (some ⟨bw, 0, none⟩)] wr fun e w' => e = .returned (.string (mkB L)) ∧ Ext w w' := by
  refine (String_w w.heap.size bw L wr h.1.2 h0).mono ?_
  rintro e w' ⟨rfl, h1⟩
  exact ⟨rfl, Below.trans h.1.1 h1⟩
end
/-- What Encode gives. -/
def encV (o : C.Obj) : Value := if C.checkB okN o then (if (C.encObj o).length ≤ 65536 then .tuple #[.string (mkB (C.encObj o)), .int .i64 0] else .tuple #[.string ⟨#[]⟩, .int .i64 10]) else .tuple #[.string ⟨#[]⟩, .int .i64 1]
theorem encV_bad {o : C.Obj} (h : C.checkB okN o = false) : encV o = .tuple #[.string ⟨#[]⟩, .int .i64 1] := by unfold encV; rw [h]; rfl
theorem encV_big {o : C.Obj} (h : C.checkB okN o = true) (h2 : ¬ (C.encObj o).length ≤ 65536) : encV o = .tuple #[.string ⟨#[]⟩, .int .i64 10] := by unfold encV; rw [h, if_pos rfl, if_neg h2]
theorem encV_good {o : C.Obj} (h : C.checkB okN o = true) (h2 : (C.encObj o).length ≤ 65536) : encV o = .tuple #[.string (mkB (C.encObj o)), .int .i64 0] := by unfold encV; rw [h, if_pos rfl, if_pos h2]

end Go.Proofs.YtjimgkefacnamaaGreatDoor

/- object.Encode. -/
namespace Go.Proofs.YtjimgkefacnamaaGreatDoor
open Go.RowKit Go.Maps Go.ChangeMaps Go.Sort

set_option maxRecDepth 100000 in
set_option maxHeartbeats 8000000 in
theorem Encode_any (o : C.Obj) (SA SB : Option Addr) (sc sd sn sm : Nat) (w : World) (hsn : sn = o.1.length) (hS : SliceAt symR w (Old w) SA sc o.1) (hsm : sm = o.2.length) (hT : SliceAt secR w (Old w) SB sd o.2) (hs : ∀ s ∈ o.1, s.1.size ≤ 9000000) (hg : Gl w) :
    Calls Tryz.prog 21 #[.agg #[.slice SA sn sc, .slice SB sm sd]] w (Al (encV o) w) := by
  have E0 : Ext w (w.alloc (.cells #[.slice SA sn sc, .slice SB sm sd] 25)) := (Ext.refl w).alloc _
  have b0 : (w.alloc (.cells #[.slice SA sn sc, .slice SB sm sd] 25)).cell? ⟨w.heap.size, 0, none⟩ = some (.slice SA sn sc) := cell_new w #[.slice SA sn sc, .slice SB sm sd] 25 0
  have b1 : (w.alloc (.cells #[.slice SA sn sc, .slice SB sm sd] 25)).cell? ⟨w.heap.size, 1, none⟩ = some (.slice SB sm sd) := cell_new w #[.slice SA sn sc, .slice SB sm sd] 25 1
  have BH := Lib.hid (heap_alloc_new w (.cells #[.slice SA sn sc, .slice SB sm sd] 25))
  have HCK := Lib.hid (fun w' (h : Ext w w') => Check_any o SA SB sc sd sn sm w' hsn (hS.ext h) hsm (hT.ext h) hs)
  have hsn2 : sn ≤ 9223372036854775807 := by have := hS.1; have := hS.2.1; omega
  have hsm2 : sm ≤ 9223372036854775807 := by have := hT.1; have := hT.2.1; omega
  rcases (Bool.eq_false_or_eq_true (C.checkB okN o)).symm with hck | hck
  · rw [encV_bad hck]
    rw [hck] at HCK
    have E0' := Lib.hid E0
    clear hsn hS hsm hT hs hck E0
    go_enter Tryz.func21, Tryz.ntmps21
    go_wp2_with fail
    refine (HCK.out _ E0'.out).mono ?_
    rintro e w1 ⟨rfl, d1⟩
    go_wp2_with fail
    go_ret2
    exact ⟨rfl, E0'.out.trans d1⟩
  · have V := Lib.hid (validO hck)
    have hn128 : sn ≤ 128 := by rw [hsn]; exact V.out.ln
    have hm128 : sm ≤ 128 := by rw [hsm]; exact V.out.ls
    have FB := Lib.hid (encV_big hck)
    have FG := Lib.hid (encV_good hck)
    generalize encV o = R at FB FG ⊢
    rw [hck] at HCK
    have HIX := Lib.hid (fun w' (h : Ext w w') => index_any o.1 SA SB sc sd sn sm w' hsn (hS.ext h) hs (by omega))
    have E0' := Lib.hid E0
    have HSN := Lib.hid hsn
    have HSM := Lib.hid hsm
    have HS := Lib.hid hS
    have HT := Lib.hid hT
    have HG := Lib.hid hg
    clear hsn hS hsm hT hs hck E0 hg
    go_enter Tryz.func21, Tryz.ntmps21
    go_wp2_with fail
    refine (HCK.out _ E0'.out).mono ?_
    rintro e w1 ⟨rfl, d1⟩
    have b0' := d1.keepc b0
    have b1' := d1.keepc b1
    have BH1 := Lib.hid (d1.heap BH.out)
    have HX1 := Lib.hid (E0'.out.trans d1)
    clear b0 b1 d1
    go_wp2_with fail
    refine (HIX.out _ HX1.out).mono ?_
    rintro e w2 ⟨d2, hh⟩
    have hnb := V.out.names
    rcases hh with ⟨hb, rfl⟩ | ⟨_, bm, hbs, rfl, hmt⟩
    · rw [hnb] at hb; cases hb
    have BH2 := Lib.hid (d2.heap BH1.out)
    have HX2 := Lib.hid (HX1.out.trans d2)
    have HMT := Lib.hid hmt
    clear b0' b1' d2 hmt hbs hnb
    have hes : ESt w o.1 #[.slice SA sn sc, .slice SB sm sd] w2.heap.size bm [] (w2.alloc (.cells #[.pointer none, .slice none 0 0] 107)) := by
      have e2 : Ext w2 (w2.alloc (.cells #[.pointer none, .slice none 0 0] 107)) := (Ext.refl w2).alloc _
      have hz := HX2.out.size
      have hb25 := BH2.out
      have hlt := (Array.getElem?_eq_some_iff.1 hb25).1
      refine ⟨⟨HX2.out.trans e2, ?_⟩, HMT.out.ext e2, e2.heap hb25, hlt, ?_⟩
      · exact .inl ⟨hz, .slice none 0 0, heap_alloc_new w2 _, World.ownsRow_nil _ _ _ _, by simp [Value.ownBlock]⟩
      · exact World.ownsMap.lt HMT.out
    have HES := Lib.hid hes
    clear hes
    go_wp2_with fail
    refine (text_e HES.out HG.out (by simp) _ (by decide)).mono ?_
    rintro e w3 ⟨rfl, h3, k3⟩
    have b0' := h3.cell 0
    have b1' := h3.cell 1
    have HES3 := Lib.hid h3
    clear h3 k3
    go_wp2_with fail
    refine (num1_e HES3.out HG.out (by have := txtB_len ⟨#[111, 98, 106, 101, 99, 116]⟩; simp only [List.nil_append]; exact Nat.le_trans this (by decide)) _).mono ?_
    rintro e w4 ⟨rfl, h4, k4⟩
    have HA : Hid (ESt w o.1 #[.slice SA sn sc, .slice SB sm sd] w2.heap.size bm (encS o 0) w4) := by
      unfold Hid
      have e1 : [] ++ (txtB ⟨#[111, 98, 106, 101, 99, 116]⟩).data.toList ++ numsL [(sn : Int)] = encS o 0 := by
        rw [List.nil_append, txtB_in (by decide), nums1, numB_in (by omega), Int.toNat_natCast, HSN.out, encS_zero]
        rfl
      rw [← e1]
      exact h4
    clear h4 k4 b0' b1'
    have b0' := HA.out.cell 0
    have b1' := HA.out.cell 1
    go_wp2_with fail
    go_loopw [34] (fun i wr => ∃ k : Nat, k ≤ sn ∧ i = .int .i64 k ∧ Hid (ESt w o.1 #[.slice SA sn sc, .slice SB sm sd] w2.heap.size bm (encS o k) wr)) (fun i _ => sn - (intOf i).toNat)
    case atStart => exact ⟨0, Nat.zero_le _, rfl, HA⟩
    case round =>
      obtain ⟨k, hk, rfl, HK⟩ := hrel
      by_cases hlt : k < sn
      · have hkz : k < o.1.length := by rw [← HSN.out]; exact hlt
        obtain ⟨b, off, s, md, q, rfl, hgo, hs1, hwm, hwq, hc⟩ := sym_get HS.out hkz
        have hgk : o.1[k] = (s, md, q) := by rw [List.getElem?_eq_getElem hkz] at hgo; simpa using hgo
        obtain ⟨v1, v2, v3, v4, v5⟩ := V.out.sym k hkz
        rw [hgk] at v1 v2 v3 v4 v5
        simp only at v1 v2 v3 v4 v5
        have hstep := encS_step V.out hkz hgk
        have HSTEP := Lib.hid hstep
        have hlen := encS_len V.out k
        have HLEN := Lib.hid hlen
        obtain ⟨c1, c2, c3⟩ := hc wr HK.out.1.1
        clear hc hgo hgk hstep hlen b0' b1'
        go_wp2_with fail
        refine (text_e (HK.out.ext ((Ext.refl wr).alloc _)) HG.out (by have := HLEN.out; omega) s hs1).mono ?_
        rintro e w5 ⟨rfl, h5, k5⟩
        have hbx := k5.heap (heap_alloc_new wr (.cells #[.string s, .int .i64 md, .int .i64 q] 29)) (by have := HK.out.lt; omega) (by intro _ _ h; cases h)
        have y1 := cell_of_row w5 wr.heap.size 1 _ _ _ hbx
        have y2 := cell_of_row w5 wr.heap.size 2 _ _ _ hbx
        have H5 := Lib.hid h5
        clear h5 k5 hbx
        go_wp2_with fail
        refine (num2_e H5.out HG.out (by have := HLEN.out; have := txtB_len s; rw [List.length_append]; omega) md (q + 1)).mono ?_
        rintro e w6 ⟨rfl, h6, k6⟩
        rw [HSTEP.out] at h6
        have H6 := Lib.hid h6
        clear h6 k6 y1 y2
        go_wp2_with fail
        go_roundw
        case rel => exact ⟨k + 1, by omega, by go_num, H6⟩
        case measure => simp [intOf]; omega
      · have hkn : k = sn := by omega
        clear b0' b1'
        have b0' := HK.out.cell 0
        have b1' := HK.out.cell 1
        go_wp2_with fail
        refine (num1_e HK.out HG.out (by have := encS_len V.out k; omega) _).mono ?_
        rintro e w5 ⟨rfl, h5, k5⟩
        have HB : Hid (ESt w o.1 #[.slice SA sn sc, .slice SB sm sd] w2.heap.size bm (encT o 0) w5) := by
          unfold Hid
          have e1 : encS o k ++ numsL [(sm : Int)] = encT o 0 := by
            rw [nums1, numB_in (by omega), Int.toNat_natCast, encT_zero, HSM.out]
            exact encS_end (by have := HSN.out; omega)
          rw [← e1]
          exact h5
        clear h5 k5 b0' b1'
        have b0' := HB.out.cell 0
        have b1' := HB.out.cell 1
        go_wp2_with fail
        clear b0' b1'
        go_loopw [60] (fun i wr => ∃ k : Nat, k ≤ sm ∧ i = .int .i64 k ∧ Hid (ESt w o.1 #[.slice SA sn sc, .slice SB sm sd] w2.heap.size bm (encT o k) wr)) (fun i _ => sm - (intOf i).toNat)
        case atStart => exact ⟨0, Nat.zero_le _, rfl, HB⟩
        case round =>
          clear hkn HK
          obtain ⟨k, hk, rfl, HK⟩ := hrel
          by_cases hlt : k < sm
          · have hkz : k < o.2.length := by rw [← HSM.out]; exact hlt
            obtain ⟨b, off, kd, d, rs, A2, c2, rfl, hgk, hwk, hds, hrs, hc⟩ := sec_get HT.out hkz
            obtain ⟨nr, hnr⟩ : ∃ nr, nr = rs.length := ⟨_, rfl⟩
            rw [← hnr] at hc
            have hzero := encU_zero V.out hkz hgk
            rw [← hnr] at hzero
            have HZ := Lib.hid hzero
            have HSTEP := Lib.hid (fun j (hj : j < rs.length) a s (hr : rs[j] = (a, s)) => encU_step V.out hkz hgk hj hr)
            have HEND := Lib.hid (encU_end hkz hgk (j := nr) (by omega))
            have HLEN := Lib.hid (encT_len V.out k)
            have HULEN := Lib.hid (fun j => encU_len V.out hkz hgk j)
            have hv := V.out.sec k hkz
            rw [hgk] at hv
            simp only at hv
            obtain ⟨v1, v2, v3, v4, _⟩ := hv
            have HV4 := Lib.hid v4
            have HNR := Lib.hid hnr
            have HRS := Lib.hid hrs
            obtain ⟨c1, c2', c3⟩ := hc wr HK.out.1.1
            have hnr2 : nr ≤ 2048 := by omega
            clear hc hgk hzero hnr hrs v4
            have x0 := cell_new wr #[.int .i64 kd, .string d, .slice A2 nr c2] 85 0
            go_wp2_with fail
            refine (num1_g (wr.heap.size + 1) (by simp) (HK.out.ext ((Ext.refl wr).alloc (.cells #[.int .i64 kd, .string d, .slice A2 nr c2] 85))) HG.out (by have := HLEN.out; omega) kd).mono ?_
            rintro e w6 ⟨rfl, h6, k6⟩
            have hbx := k6.heap (heap_alloc_new wr (.cells #[.int .i64 kd, .string d, .slice A2 nr c2] 85)) (by have := HK.out.lt; omega) (by intro _ _ h; cases h)
            have HBX := Lib.hid hbx
            have y1 := cell_of_row w6 wr.heap.size 1 _ _ _ hbx
            have H6 := Lib.hid h6
            clear h6 k6 hbx x0
            go_wp2_with fail
            refine (text_e H6.out HG.out (by have := HLEN.out; have := numB_len kd; rw [List.length_append, nums1]; omega) d hds).mono ?_
            rintro e w7 ⟨rfl, h7, k7⟩
            have hbx := k7.heap HBX.out (by have := HK.out.lt; omega) (by intro _ _ h; cases h)
            have HBX7 := Lib.hid hbx
            have y2 := cell_of_row w7 wr.heap.size 2 _ _ _ hbx
            have H7 := Lib.hid h7
            clear h7 k7 hbx y1
            go_wp2_with fail
            refine (num1_e H7.out HG.out (by have := HLEN.out; have := numB_len kd; have := txtB_len d; rw [List.length_append, List.length_append, nums1]; omega) (nr : Int)).mono ?_
            rintro e w8 ⟨rfl, h8, k8⟩
            rw [HZ.out] at h8
            have hbx := k8.heap HBX7.out (by have := HK.out.lt; omega) (by intro _ _ h; cases h)
            have y3 := cell_of_row w8 wr.heap.size 2 _ _ _ hbx
            have H8 := Lib.hid h8
            clear h8 k8 hbx y2
            go_wp2_with fail
            go_loopw [82] (fun i wr => ∃ j : Nat, j ≤ nr ∧ i = .int .i64 j ∧ Hid (ESt w o.1 #[.slice SA sn sc, .slice (some ⟨b, off, none⟩) sm sd] w2.heap.size bm (encU o k (kd, d, rs) j) wr)) (fun i _ => nr - (intOf i).toNat)
            case atStart => exact ⟨0, Nat.zero_le _, rfl, H8⟩
            case round =>
              obtain ⟨j, hj, rfl, HJ⟩ := hrel
              by_cases hjt : j < nr
              · have hjz : j < rs.length := by rw [← HNR.out]; exact hjt
                obtain ⟨b3, off3, a, s, rfl, hgj, hwa, hs, hc⟩ := rel_get HRS.out hjz
                obtain ⟨c1, c2⟩ := hc wr HJ.out.1.1
                have HST := Lib.hid (HSTEP.out j hjz a s hgj)
                have hkey : keyOf Tryz.prog 9 (.string s) = some (.string s.data.toList) := WideMaps.keyOf_string_mk Tryz.underlying9 (by unfold maxLen; omega)
                have hown : World.ownsMap (wr.alloc (.cells #[.int .i64 a, .string s] 87)) Tryz.prog 9 (plainElem Tryz.prog 3) bm o.1.length (mapD o.1 o.1.length) := HJ.out.2.1.ext ((Ext.refl _).alloc _)
                have HMV := Lib.hid (mapD_all V.out.names s.data.toList)
                clear hc hgj
                go_wp2_with (at_lookup; refine wpList_lookup_own_int _ rfl _ _ 91 rfl 9 3 .i64 (string_keyed Tryz.underlying9) Tryz.underlying91 Tryz.underlying3 (zero3 _) bm o.1.length _ rfl hown _ _ rfl hkey ?_; intro cz hat hwc; rw [HMV.out] at hat; simp only [DataW.lit.injEq, Lit.int.injEq, true_and] at hat; subst hat)
                refine (num2_g (wr.heap.size + 1) (by simp) (HJ.out.ext ((Ext.refl wr).alloc (.cells #[.int .i64 a, .string s] 87))) HG.out (by have := HULEN.out j; omega) a _).mono ?_
                rintro e w9 ⟨rfl, h9, k9⟩
                rw [HST.out] at h9
                have H9 := Lib.hid h9
                clear h9 k9
                go_wp2_with fail
                go_roundw
                case rel => exact ⟨j + 1, by omega, by go_num, H9⟩
                case measure => simp [intOf]; omega
              · have hjn : j = nr := by omega
                subst hjn
                have H9 : Hid (ESt w o.1 #[.slice SA sn sc, .slice (some ⟨b, off, none⟩) sm sd] w2.heap.size bm (encT o (k + 1)) wr) := by
                  unfold Hid
                  rw [← HEND.out]
                  exact HJ.out
                go_wp2_with fail
                go_roundw
                case rel => exact ⟨k + 1, by omega, by go_num, H9⟩
                case measure => simp [intOf]; omega
          · have hkn : k = sm := by omega
            subst hkn
            have h9 := HK.out
            rw [encT_end (by have := HSM.out; omega)] at h9
            have H9 := Lib.hid h9
            clear h9
            have HNE : Hid (C.encObj o ≠ []) := by
              unfold Hid C.encObj C.txt
              intro h
              have := congrArg List.length h
              simp at this
            generalize C.encObj o = X at H9 FB FG HNE
            go_wp2_with fail
            refine (len_e H9.out).mono ?_
            rintro e w9 ⟨rfl, rfl⟩
            by_cases hbig : X.length ≤ 65536
            · have HR := Lib.hid (FG.out hbig)
              go_wp2_with fail
              refine (string_e H9.out HNE.out).mono ?_
              rintro e w10 ⟨rfl, d10⟩
              go_wp2_with fail
              go_ret2
              exact ⟨by rw [HR.out]; rfl, d10⟩
            · have HR := Lib.hid (FB.out hbig)
              go_wp2_with fail
              go_ret2
              exact ⟨by rw [HR.out]; rfl, H9.out.1.1⟩

end Go.Proofs.YtjimgkefacnamaaGreatDoor

/- The reference's Encode. -/
namespace Go.Proofs.YtjimgkefacnamaaGreatDoor
open Go.RowKit Go.Maps Go.ChangeMaps Go.Sort

theorem bs_add (x y : ByteArray) : (x ++ y).data.toList = x.data.toList ++ y.data.toList := by simp
theorem bs_size {x : ByteArray} {l : C.Bs} (h : x.data.toList = l) : x.size = l.length := by rw [← h]; simp
theorem txtB_size (s : ByteArray) : (txtB s).size ≤ 65560 := by
  unfold txtB
  split
  · have := txt_len s (by assumption)
    rw [mkB_size]
    omega
  · decide

theorem idxI_getD {o : C.Obj} {x : C.Bs} (h : (C.idx o.1 x).isSome = true) : idxI (C.idx o.1 x) = (((C.idx o.1 x).getD 0 : Nat) : Int) := by
  obtain ⟨i, hi⟩ := Option.isSome_iff_exists.1 h
  rw [hi]
  rfl
theorem encHead_zero {o : C.Obj} (h : ValidO o) {k : Nat} (hk : k < o.2.length) {kd : Int} {d : ByteArray} {rs : List C.Rel} (hg : o.2[k] = (kd, d, rs)) (u : ByteArray) (hu : u.data.toList = encT o k) :
    (u ++ numB kd ++ txtB d ++ numB (rs.length : Int)).data.toList = encU o k (kd, d, rs) 0 := by
  rw [← encU_zero h hk hg, bs_add, bs_add, bs_add, hu, nums1, nums1]
theorem encRel_one {o : C.Obj} (h : ValidO o) {k : Nat} (hk : k < o.2.length) {kd : Int} {d : ByteArray} {rs : List C.Rel} (hg : o.2[k] = (kd, d, rs)) {j : Nat} (hj : j < rs.length) {a : Int} {s : ByteArray} (hr : rs[j] = (a, s)) (u : ByteArray) (hu : u.data.toList = encU o k (kd, d, rs) j) :
    (u ++ numB a ++ numB (idxI (C.idx o.1 s.data.toList))).data.toList = encU o k (kd, d, rs) (j + 1) := by
  have h5 := (h.sec k hk).2.2.2.2
  rw [hg] at h5
  obtain ⟨h1, h2, h3⟩ := h5 j hj
  simp only [hr] at h3
  rw [idxI_getD h3, ← encU_step h hk hg hj hr, bs_add, bs_add, hu, nums2, List.append_assoc]
theorem encSym_one {o : C.Obj} (h : ValidO o) {k : Nat} (hk : k < o.1.length) {s : ByteArray} {m q : Int} (hg : o.1[k] = (s, m, q)) (u : ByteArray) (hu : u.data.toList = encS o k) :
    (u ++ txtB s ++ numB m ++ numB (q + 1)).data.toList = encS o (k + 1) := by
  rw [← encS_step h hk hg, bs_add, bs_add, bs_add, hu, nums2]
  simp

set_option maxRecDepth 100000 in
set_option maxHeartbeats 8000000 in
theorem rEncode_any (o : C.Obj) (SA SB : Option Addr) (sc sd sn sm : Nat) (w : World) (hsn : sn = o.1.length) (hS : SliceAt symR w (Old w) SA sc o.1) (hsm : sm = o.2.length) (hT : SliceAt secR w (Old w) SB sd o.2) (hs : ∀ s ∈ o.1, s.1.size ≤ 9000000) :
    Calls Tryz.prog 22 #[.agg #[.slice SA sn sc, .slice SB sm sd]] w (Al (encV o) w) := by
  have E0 : Ext w (w.alloc (.cells #[.slice SA sn sc, .slice SB sm sd] 25)) := (Ext.refl w).alloc _
  have b0 : (w.alloc (.cells #[.slice SA sn sc, .slice SB sm sd] 25)).cell? ⟨w.heap.size, 0, none⟩ = some (.slice SA sn sc) := cell_new w #[.slice SA sn sc, .slice SB sm sd] 25 0
  have b1 : (w.alloc (.cells #[.slice SA sn sc, .slice SB sm sd] 25)).cell? ⟨w.heap.size, 1, none⟩ = some (.slice SB sm sd) := cell_new w #[.slice SA sn sc, .slice SB sm sd] 25 1
  have HCK := Lib.hid (fun w' (h : Ext w w') => rCheck_any o SA SB sc sd sn sm w' hsn (hS.ext h) hsm (hT.ext h) hs)
  have hsn2 : sn ≤ 9223372036854775807 := by have := hS.1; have := hS.2.1; omega
  have hsm2 : sm ≤ 9223372036854775807 := by have := hT.1; have := hT.2.1; omega
  rcases (Bool.eq_false_or_eq_true (C.checkB okN o)).symm with hck | hck
  · rw [encV_bad hck]
    rw [hck] at HCK
    have E0' := Lib.hid E0
    clear hsn hS hsm hT hs hck E0
    go_enter Tryz.func22, Tryz.ntmps22
    go_wp2_with fail
    refine (HCK.out _ E0'.out).mono ?_
    rintro e w1 ⟨rfl, d1⟩
    go_wp2_with fail
    go_ret2
    exact ⟨rfl, E0'.out.trans d1⟩
  · have V := Lib.hid (validO hck)
    have hn128 : sn ≤ 128 := by rw [hsn]; exact V.out.ln
    have hm128 : sm ≤ 128 := by rw [hsm]; exact V.out.ls
    have FB := Lib.hid (encV_big hck)
    have FG := Lib.hid (encV_good hck)
    generalize encV o = R at FB FG ⊢
    rw [hck] at HCK
    have HIX := Lib.hid (fun w' (h : Ext w w') x (hx : x.size ≤ 9223372036854775807) => Index_any o.1 SA SB sc sd sn sm x w' hsn (hS.ext h) (by omega) hx)
    have E0' := Lib.hid E0
    have HSN := Lib.hid hsn
    have HSM := Lib.hid hsm
    have HS := Lib.hid hS
    have HT := Lib.hid hT
    have B0 := Lib.hid b0
    have B1 := Lib.hid b1
    clear hsn hS hsm hT hs hck E0
    obtain ⟨wb, hwb⟩ : ∃ wb, wb = w.alloc (.cells #[.slice SA sn sc, .slice SB sm sd] 25) := ⟨_, rfl⟩
    go_enter Tryz.func22, Tryz.ntmps22
    go_wp2_with fail
    rw [← hwb] at E0' B0 B1 b0 b1 ⊢
    clear hwb
    refine (HCK.out _ E0'.out).mono ?_
    rintro e w1 ⟨rfl, d1⟩
    have HX1 := Lib.hid d1
    clear b0 b1 d1
    have b0 := HX1.out.keepc B0.out
    have b1 := HX1.out.keepc B1.out
    go_wp2_with fail
    have hsz : (txtB ⟨#[111, 98, 106, 101, 99, 116]⟩).size ≤ 65560 := txtB_size _
    have hnz : (numB (sn : Int)).size ≤ 17 := numB_size _
    have HT0 := Lib.hid (fun w' => text_ref ⟨#[111, 98, 106, 101, 99, 116]⟩ w' (by decide))
    have HN0 := Lib.hid (number_ref (sn : Int))
    have HU0 : Hid ((txtB ⟨#[111, 98, 106, 101, 99, 116]⟩ ++ numB (sn : Int)).data.toList = encS o 0) := by
      unfold Hid
      rw [bs_add, txtB_in (by decide), numB_in (by omega), Int.toNat_natCast, HSN.out, encS_zero]
      rfl
    generalize txtB ⟨#[111, 98, 106, 101, 99, 116]⟩ = t0 at hsz HT0 HU0
    generalize numB (sn : Int) = t1 at hnz HN0 HU0
    have fx : ∀ x : Lat (Ext w1), x.w'.cell? ⟨w.heap.size, 0, none⟩ = some (.slice SA sn sc) := fun x => x.h.keepc b0
    have hne := Lat.some (Φ := Ext w1) ((Ext.refl w1).drew)
    refine wp_region_lat [0, 4] (Ext w1) ((Ext.refl w1).drew) (by kernel_rfl) (by kernel_rfl) (by kernel_rfl) ?_
    refine lex_eff rfl ?_
    go_wp2_with fail
    refine (HT0.out _).mono ?_
    rintro e w2 ⟨rfl, d2⟩
    have D2 := Lib.hid ((Ext.refl w1).drew.trans d2)
    clear d2
    go_wp2_with fail
    refine ⟨⟨⟨w2, D2.out⟩, rfl⟩, ?_⟩
    repeat (refine lex_pure rfl rfl rfl ?_; intro K hK; go_big_quiet_op; go_big_quiet_on)
    refine lex_eff rfl ?_
    go_wp2_with fail
    refine (HN0.out _).mono ?_
    rintro e w3 ⟨rfl, d3⟩
    have D3 := Lib.hid (D2.out.trans d3)
    clear d3
    go_wp2_with fail
    refine ⟨⟨⟨w3, D3.out⟩, rfl⟩, ?_⟩
    repeat (refine lex_pure rfl rfl rfl ?_; intro K hK; go_big_quiet_op; go_big_quiet_on)
    refine lex_nil ?_
    clear fx hne b0 b1
    have b0 := D3.out.keepc (HX1.out.keepc B0.out)
    have b1 := D3.out.keepc (HX1.out.keepc B1.out)
    have HX3 := Lib.hid (HX1.out.trans D3.out)
    go_wp2_with fail
    have HR0 : Hid ((t0 ++ t1).data.toList = encS o 0 ∧ Ext wb w3) := ⟨HU0.out, HX3.out⟩
    have hu0 : (t0 ++ t1).size ≤ 20000 := by rw [bs_size HU0.out]; exact encS_len V.out 0
    generalize t0 ++ t1 = u0 at HR0 hu0
    clear hsz hnz HT0 HN0 HU0
    go_loopw [4, 23] (fun st i wr => ∃ (k : Nat) (u : ByteArray), k ≤ sn ∧ i = .int .i64 k ∧ st = .string u ∧ u.size ≤ 20000 ∧ Hid (u.data.toList = encS o k ∧ Ext wb wr)) (fun _ i _ => sn - (intOf i).toNat)
    case atStart => exact ⟨0, _, Nat.zero_le _, rfl, rfl, hu0, HR0⟩
    case round =>
      clear hu0 HR0 b0 b1
      obtain ⟨k, u, hk, rfl, rfl, hu, HK⟩ := hrel
      by_cases hlt : k < sn
      · have hkz : k < o.1.length := by rw [← HSN.out]; exact hlt
        obtain ⟨b, off, s, md, q, rfl, hgo, hs1, hwm, hwq, hc⟩ := sym_get HS.out hkz
        have hgk : o.1[k] = (s, md, q) := by rw [List.getElem?_eq_getElem hkz] at hgo; simpa using hgo
        obtain ⟨v1, v2, v3, v4, v5⟩ := V.out.sym k hkz
        rw [hgk] at v1 v2 v3 v4 v5
        simp only at v1 v2 v3 v4 v5
        have HSTEP := Lib.hid (encSym_one V.out hkz hgk u HK.out.1)
        have hl9 : (u ++ txtB s ++ numB md ++ numB (q + 1)).size ≤ 20000 := by rw [bs_size HSTEP.out]; exact encS_len V.out (k + 1)
        have HL9 := Lib.hid hl9
        obtain ⟨c1, c2, c3⟩ := hc wr (E0'.out.trans HK.out.2)
        have g1 := txtB_size s
        have g2 := numB_size md
        have g3 := numB_size (q + 1)
        have T1 := Lib.hid (fun w' => text_ref s w' hs1)
        have T2 := Lib.hid (fun w' => number_ref md w')
        have T3 := Lib.hid (fun w' => number_ref (q + 1) w')
        obtain ⟨W1, hW1⟩ : ∃ W1, W1 = wr.alloc (.cells #[.string s, .int .i64 md, .int .i64 q] 29) := ⟨_, rfl⟩
        have y0 : W1.cell? ⟨wr.heap.size, 0, none⟩ = some (.string s) := by rw [hW1]; exact cell_new wr _ 29 0
        have y1 : W1.cell? ⟨wr.heap.size, 1, none⟩ = some (.int .i64 md) := by rw [hW1]; exact cell_new wr _ 29 1
        have y2 : W1.cell? ⟨wr.heap.size, 2, none⟩ = some (.int .i64 q) := by rw [hW1]; exact cell_new wr _ 29 2
        have HW1 : Hid (Ext wb W1) := by unfold Hid; rw [hW1]; exact HK.out.2.alloc _
        clear hc hgo hgk hl9
        go_wp2_with fail
        rw [← hW1]
        clear hW1 c1 c2 c3
        generalize txtB s = t1 at g1 T1 HSTEP HL9
        generalize numB md = t2 at g2 T2 HSTEP HL9
        have hq1 : IntKind.i64.wrap (q + 1) = q + 1 := IntWalk.i64_in _ (by omega)
        generalize numB (q + 1) = t3 at g3 T3 HSTEP HL9
        have fx0 : ∀ x : Lat (Ext W1), x.w'.cell? ⟨wr.heap.size, 0, none⟩ = some (.string s) := fun x => x.h.keepc y0
        have fx1 : ∀ x : Lat (Ext W1), x.w'.cell? ⟨wr.heap.size, 1, none⟩ = some (.int .i64 md) := fun x => x.h.keepc y1
        have fx2 : ∀ x : Lat (Ext W1), x.w'.cell? ⟨wr.heap.size, 2, none⟩ = some (.int .i64 q) := fun x => x.h.keepc y2
        have hne := Lat.some (Φ := Ext W1) ((Ext.refl W1).drew)
        refine wp_region_lat [3, 7, 12] (Ext W1) ((Ext.refl W1).drew) (by kernel_rfl) (by kernel_rfl) (by kernel_rfl) ?_
        repeat (refine lex_pure rfl rfl rfl ?_; intro K hK; go_big_quiet_op; go_big_quiet_on)
        refine lex_eff rfl ?_
        go_wp2_with fail
        refine (T1.out _).mono ?_
        rintro e w5 ⟨rfl, d5⟩
        have D5 := Lib.hid ((Ext.refl W1).drew.trans d5)
        clear d5
        go_wp2_with fail
        refine ⟨⟨⟨w5, D5.out⟩, rfl⟩, ?_⟩
        repeat (refine lex_pure rfl rfl rfl ?_; intro K hK; go_big_quiet_op; go_big_quiet_on)
        refine lex_eff rfl ?_
        go_wp2_with fail
        refine (T2.out _).mono ?_
        rintro e w6 ⟨rfl, d6⟩
        have D6 := Lib.hid (D5.out.trans d6)
        clear d6
        go_wp2_with fail
        refine ⟨⟨⟨w6, D6.out⟩, rfl⟩, ?_⟩
        repeat (refine lex_pure rfl rfl rfl ?_; intro K hK; go_big_quiet_op; go_big_quiet_on)
        refine lex_eff rfl ?_
        go_wp2_with fail
        refine (T3.out _).mono ?_
        rintro e w7 ⟨rfl, d7⟩
        have D7 := Lib.hid (D6.out.trans d7)
        clear d7
        go_wp2_with fail
        refine ⟨⟨⟨w7, D7.out⟩, rfl⟩, ?_⟩
        repeat (refine lex_pure rfl rfl rfl ?_; intro K hK; go_big_quiet_op; go_big_quiet_on)
        refine lex_nil ?_
        have H9 : Hid ((u ++ t1 ++ t2 ++ t3).data.toList = encS o (k + 1) ∧ Ext wb w7) := ⟨HSTEP.out, HW1.out.trans D7.out⟩
        clear fx0 fx1 fx2 hne y0 y1 y2 hq1
        have h20 := HL9.out
        generalize u ++ t1 ++ t2 ++ t3 = u9 at H9 h20
        clear HL9 HSTEP
        go_wp2_with fail
        go_roundw
        case rel => exact ⟨k + 1, u9, by omega, by go_num, rfl, h20, H9⟩
        case measure => simp [intOf]; omega
      · have hkn : k = sn := by omega
        have b1 := HK.out.2.keepc B1.out
        have g1 := numB_size (sm : Int)
        have T1 := Lib.hid (fun w' => number_ref (sm : Int) w')
        have HU1 : Hid ((u ++ numB (sm : Int)).data.toList = encT o 0) := by
          unfold Hid
          rw [bs_add, HK.out.1, numB_in (by omega), Int.toNat_natCast, encT_zero, HSM.out]
          exact encS_end (by have := HSN.out; omega)
        generalize numB (sm : Int) = t1 at g1 T1 HU1
        go_wp2_with fail
        refine (T1.out _).mono ?_
        rintro e w5 ⟨rfl, d5⟩
        have HR1 : Hid ((u ++ t1).data.toList = encT o 0 ∧ Ext wb w5) := ⟨HU1.out, HK.out.2.trans d5⟩
        have hu1 : (u ++ t1).size ≤ 20000000 := by rw [bs_size HU1.out]; exact encT_len V.out 0
        clear b1 d5 T1 HU1
        have b1 := HR1.out.2.keepc B1.out
        go_wp2_with fail
        clear g1 b1
        generalize u ++ t1 = u1 at HR1 hu1
        go_loopw [4, 51] (fun st i wr => ∃ (k : Nat) (u : ByteArray), k ≤ sm ∧ i = .int .i64 k ∧ st = .string u ∧ u.size ≤ 20000000 ∧ Hid (u.data.toList = encT o k ∧ Ext wb wr)) (fun _ i _ => sm - (intOf i).toNat)
        case atStart => exact ⟨0, _, Nat.zero_le _, rfl, rfl, hu1, HR1⟩
        case round =>
          clear hkn HK hu HR1 hu1
          obtain ⟨k, u, hk, rfl, rfl, hu, HK⟩ := hrel
          by_cases hlt : k < sm
          · have hkz : k < o.2.length := by rw [← HSM.out]; exact hlt
            obtain ⟨b, off, kd, d, rs, A2, c2, rfl, hgk, hwk, hds, hrs, hc⟩ := sec_get HT.out hkz
            obtain ⟨nr, hnr⟩ : ∃ nr, nr = rs.length := ⟨_, rfl⟩
            rw [← hnr] at hc
            have hzero := encHead_zero V.out hkz hgk u HK.out.1
            rw [← hnr] at hzero
            have HZ := Lib.hid hzero
            have HSTEP := Lib.hid (fun j (hj : j < rs.length) a s (hr : rs[j] = (a, s)) => encRel_one V.out hkz hgk hj hr)
            have HEND := Lib.hid (encU_end hkz hgk (j := nr) (by omega))
            have HULEN := Lib.hid (fun j => encU_len V.out hkz hgk j)
            have hv := V.out.sec k hkz
            rw [hgk] at hv
            simp only at hv
            obtain ⟨v1, v2, v3, v4, _⟩ := hv
            have hnr2 : nr ≤ 2048 := by omega
            have HNR := Lib.hid hnr
            have HRS := Lib.hid hrs
            obtain ⟨c1, c2', c3⟩ := hc wr (E0'.out.trans HK.out.2)
            have g1 := txtB_size d
            have g2 := numB_size kd
            have g3 := numB_size (nr : Int)
            have T1 := Lib.hid (fun w' => text_ref d w' hds)
            have T2 := Lib.hid (fun w' => number_ref kd w')
            have T3 := Lib.hid (fun w' => number_ref (nr : Int) w')
            obtain ⟨W1, hW1⟩ : ∃ W1, W1 = wr.alloc (.cells #[.int .i64 kd, .string d, .slice A2 nr c2] 85) := ⟨_, rfl⟩
            have y0 : W1.cell? ⟨wr.heap.size, 0, none⟩ = some (.int .i64 kd) := by rw [hW1]; exact cell_new wr _ 85 0
            have y1 : W1.cell? ⟨wr.heap.size, 1, none⟩ = some (.string d) := by rw [hW1]; exact cell_new wr _ 85 1
            have y2 : W1.cell? ⟨wr.heap.size, 2, none⟩ = some (.slice A2 nr c2) := by rw [hW1]; exact cell_new wr _ 85 2
            have HW1 : Hid (Ext wb W1) := by unfold Hid; rw [hW1]; exact HK.out.2.alloc _
            clear hc hgk hzero hnr hrs v4
            go_wp2_with fail
            rw [← hW1]
            clear hW1 c1 c2' c3
            generalize txtB d = t1 at g1 T1 HZ
            generalize numB kd = t2 at g2 T2 HZ
            generalize numB (nr : Int) = t3 at g3 T3 HZ
            have fx0 : ∀ x : Lat (Ext W1), x.w'.cell? ⟨wr.heap.size, 0, none⟩ = some (.int .i64 kd) := fun x => x.h.keepc y0
            have fx1 : ∀ x : Lat (Ext W1), x.w'.cell? ⟨wr.heap.size, 1, none⟩ = some (.string d) := fun x => x.h.keepc y1
            have fx2 : ∀ x : Lat (Ext W1), x.w'.cell? ⟨wr.heap.size, 2, none⟩ = some (.slice A2 nr c2) := fun x => x.h.keepc y2
            have hne := Lat.some (Φ := Ext W1) ((Ext.refl W1).drew)
            refine wp_region_lat [3, 7, 12] (Ext W1) ((Ext.refl W1).drew) (by kernel_rfl) (by kernel_rfl) (by kernel_rfl) ?_
            repeat (refine lex_pure rfl rfl rfl ?_; intro K hK; go_big_quiet_op; go_big_quiet_on)
            refine lex_eff rfl ?_
            go_wp2_with fail
            refine (T2.out _).mono ?_
            rintro e w5 ⟨rfl, d5⟩
            have D5 := Lib.hid ((Ext.refl W1).drew.trans d5)
            clear d5
            go_wp2_with fail
            refine ⟨⟨⟨w5, D5.out⟩, rfl⟩, ?_⟩
            repeat (refine lex_pure rfl rfl rfl ?_; intro K hK; go_big_quiet_op; go_big_quiet_on)
            refine lex_eff rfl ?_
            go_wp2_with fail
            refine (T1.out _).mono ?_
            rintro e w6 ⟨rfl, d6⟩
            have D6 := Lib.hid (D5.out.trans d6)
            clear d6
            go_wp2_with fail
            refine ⟨⟨⟨w6, D6.out⟩, rfl⟩, ?_⟩
            repeat (refine lex_pure rfl rfl rfl ?_; intro K hK; go_big_quiet_op; go_big_quiet_on)
            refine lex_eff rfl ?_
            go_wp2_with fail
            refine (T3.out _).mono ?_
            rintro e w7 ⟨rfl, d7⟩
            have D7 := Lib.hid (D6.out.trans d7)
            clear d7
            go_wp2_with fail
            refine ⟨⟨⟨w7, D7.out⟩, rfl⟩, ?_⟩
            repeat (refine lex_pure rfl rfl rfl ?_; intro K hK; go_big_quiet_op; go_big_quiet_on)
            refine lex_nil ?_
            have H9 : Hid ((u ++ t2 ++ t1 ++ t3).data.toList = encU o k (kd, d, rs) 0 ∧ Ext wb w7) := ⟨HZ.out, HW1.out.trans D7.out⟩
            have h20 : (u ++ t2 ++ t1 ++ t3).size ≤ 30000000 := by rw [bs_size HZ.out]; exact HULEN.out 0
            have z2 := D7.out.keepc y2
            clear fx0 fx1 fx2 hne y0 y1 y2 HZ D5 D6 D7
            generalize u ++ t2 ++ t1 ++ t3 = u9 at H9 h20
            go_wp2_with fail
            clear g1 g2 g3 T1 T2 T3 hu
            go_loopw [4, 72] (fun st i wr => ∃ (j : Nat) (u : ByteArray), j ≤ nr ∧ i = .int .i64 j ∧ st = .string u ∧ u.size ≤ 30000000 ∧ Hid (u.data.toList = encU o k (kd, d, rs) j ∧ Ext wb wr)) (fun _ i _ => nr - (intOf i).toNat)
            case atStart => exact ⟨0, _, Nat.zero_le _, rfl, rfl, h20, H9⟩
            case round =>
              clear h20 H9
              obtain ⟨j, u, hj, rfl, rfl, hu, HJ⟩ := hrel
              by_cases hjt : j < nr
              · have hjz : j < rs.length := by rw [← HNR.out]; exact hjt
                obtain ⟨b3, off3, a, s, rfl, hgj, hwa, hs, hc⟩ := rel_get HRS.out hjz
                obtain ⟨c1, c2⟩ := hc wr (E0'.out.trans HJ.out.2)
                have HST := Lib.hid (HSTEP.out j hjz a s hgj u HJ.out.1)
                have HI := Lib.hid (fun w' (h : Ext w w') => HIX.out w' h s hs)
                obtain ⟨ix, hix⟩ : ∃ ix, ix = idxI (C.idx o.1 s.data.toList) := ⟨_, rfl⟩
                rw [← hix] at HST HI
                have g1 := numB_size a
                have g2 := numB_size ix
                have T1 := Lib.hid (fun w' => number_ref a w')
                have T2 := Lib.hid (fun w' => number_ref ix w')
                obtain ⟨W1, hW1⟩ : ∃ W1, W1 = wr.alloc (.cells #[.int .i64 a, .string s] 87) := ⟨_, rfl⟩
                have y0 : W1.cell? ⟨wr.heap.size, 0, none⟩ = some (.int .i64 a) := by rw [hW1]; exact cell_new wr _ 87 0
                have y1 : W1.cell? ⟨wr.heap.size, 1, none⟩ = some (.string s) := by rw [hW1]; exact cell_new wr _ 87 1
                have HW1 : Hid (Ext wb W1) := by unfold Hid; rw [hW1]; exact HJ.out.2.alloc _
                have hl9 : (u ++ numB a ++ numB ix).size ≤ 30000000 := by rw [bs_size HST.out]; exact HULEN.out (j + 1)
                have HL9 := Lib.hid hl9
                clear hc hgj hix hl9
                go_wp2_with fail
                rw [← hW1]
                clear hW1 c1 c2
                generalize numB a = t1 at g1 T1 HST HL9
                generalize numB ix = t2 at g2 T2 HST HL9
                have z0 := HW1.out.keepc B0.out
                have z1 := HW1.out.keepc B1.out
                have fx0 : ∀ x : Lat (Ext W1), x.w'.cell? ⟨wr.heap.size, 0, none⟩ = some (.int .i64 a) := fun x => x.h.keepc y0
                have fx1 : ∀ x : Lat (Ext W1), x.w'.cell? ⟨wr.heap.size, 1, none⟩ = some (.string s) := fun x => x.h.keepc y1
                have fz0 : ∀ x : Lat (Ext W1), x.w'.cell? ⟨w.heap.size, 0, none⟩ = some (.slice SA sn sc) := fun x => x.h.keepc z0
                have fz1 : ∀ x : Lat (Ext W1), x.w'.cell? ⟨w.heap.size, 1, none⟩ = some (.slice (some ⟨b, off, none⟩) sm sd) := fun x => x.h.keepc z1
                have hne := Lat.some (Φ := Ext W1) ((Ext.refl W1).drew)
                refine wp_region_lat [3, 8, 9] (Ext W1) ((Ext.refl W1).drew) (by kernel_rfl) (by kernel_rfl) (by kernel_rfl) ?_
                repeat (refine lex_pure rfl rfl rfl ?_; intro K hK; go_big_quiet_op; go_big_quiet_on)
                refine lex_eff rfl ?_
                go_wp2_with fail
                refine (T1.out _).mono ?_
                rintro e w5 ⟨rfl, d5⟩
                have D5 := Lib.hid ((Ext.refl W1).drew.trans d5)
                clear d5
                go_wp2_with fail
                refine ⟨⟨⟨w5, D5.out⟩, rfl⟩, ?_⟩
                repeat (refine lex_pure rfl rfl rfl ?_; intro K hK; go_big_quiet_op; go_big_quiet_on)
                refine lex_eff rfl ?_
                go_wp2_with fail
                refine (HI.out _ (E0'.out.trans (HW1.out.trans D5.out))).mono ?_
                rintro e w6 ⟨rfl, d6⟩
                have D6 := Lib.hid (D5.out.trans d6)
                clear d6
                go_wp2_with fail
                refine ⟨⟨⟨w6, D6.out⟩, rfl⟩, ?_⟩
                repeat (refine lex_pure rfl rfl rfl ?_; intro K hK; go_big_quiet_op; go_big_quiet_on)
                refine lex_eff rfl ?_
                go_wp2_with fail
                refine (T2.out _).mono ?_
                rintro e w7 ⟨rfl, d7⟩
                have D7 := Lib.hid (D6.out.trans d7)
                clear d7
                go_wp2_with fail
                refine ⟨⟨⟨w7, D7.out⟩, rfl⟩, ?_⟩
                repeat (refine lex_pure rfl rfl rfl ?_; intro K hK; go_big_quiet_op; go_big_quiet_on)
                refine lex_nil ?_
                have H9 : Hid ((u ++ t1 ++ t2).data.toList = encU o k (kd, d, rs) (j + 1) ∧ Ext wb w7) := ⟨HST.out, HW1.out.trans D7.out⟩
                have h20 := HL9.out
                clear fx0 fx1 fz0 fz1 hne y0 y1 z0 z1 HST HL9
                generalize u ++ t1 ++ t2 = u9 at H9 h20
                go_wp2_with fail
                go_roundw
                case rel => exact ⟨j + 1, u9, by omega, by go_num, rfl, h20, H9⟩
                case measure => simp [intOf]; omega
              · have hjn : j = nr := by omega
                subst hjn
                have H9 : Hid (u.data.toList = encT o (k + 1) ∧ Ext wb wr) := by
                  unfold Hid
                  rw [← HEND.out]
                  exact HJ.out
                have h20 : u.size ≤ 20000000 := by rw [bs_size H9.out.1]; exact encT_len V.out (k + 1)
                go_wp2_with fail
                go_roundw
                case rel => exact ⟨k + 1, u, by omega, by go_num, rfl, h20, H9⟩
                case measure => simp [intOf]; omega
          · have hkn : k = sm := by omega
            subst hkn
            have HU : Hid (u = mkB (C.encObj o)) := by
              unfold Hid
              have h1 := HK.out.1
              rw [encT_end (by have := HSM.out; omega)] at h1
              rw [← h1, mkB_self]
            have hul : Hid (u.size = (C.encObj o).length) := by unfold Hid; rw [HU.out, mkB_size]
            generalize C.encObj o = X at HU FB FG hul
            by_cases hbig : X.length ≤ 65536
            · have HR := Lib.hid (FG.out hbig)
              have hb2 : u.size ≤ 65536 := by rw [hul.out]; exact hbig
              go_wp2_with fail
              go_ret2
              exact ⟨by rw [HR.out, HU.out]; rfl, E0'.out.trans HK.out.2⟩
            · have HR := Lib.hid (FB.out hbig)
              have hb2 : ¬ u.size ≤ 65536 := by rw [hul.out]; exact hbig
              go_wp2_with fail
              go_ret2
              exact ⟨by rw [HR.out]; rfl, E0'.out.trans HK.out.2⟩

end Go.Proofs.YtjimgkefacnamaaGreatDoor

/- Readers: what they read; codec's count. -/
namespace Go.Proofs.YtjimgkefacnamaaGreatDoor
open Go.RowKit Go.Maps Go.ChangeMaps

theorem vint {k : IntKind} {a b : Int} (h : a = b) : Value.int k a = Value.int k b := by rw [h]
/-- One byte more of a number: the ways. -/
theorem cnt_ways {e : UInt8} (he : e.toNat < 48 ∨ 57 < e.toNat) {most : Nat} {r : ByteArray} {i n : Nat} (hi : i < r.size) :
    (0 < i ∧ ((r[i].toNat : Int) == (e.toNat : Int)) = true ∧ Hid (C.cnt e most (r.data.toList.drop i) i n = some (n, r.data.toList.drop (i + 1)))) ∨
    ((i = 0 ∨ ((r[i].toNat : Int) == (e.toNat : Int)) = false) ∧ r[i].toNat < 48 ∧ Hid (C.cnt e most (r.data.toList.drop i) i n = none)) ∨
    ((i = 0 ∨ ((r[i].toNat : Int) == (e.toNat : Int)) = false) ∧ 57 < r[i].toNat ∧ Hid (C.cnt e most (r.data.toList.drop i) i n = none)) ∨
    (((r[i].toNat : Int) == (e.toNat : Int)) = false ∧ 48 ≤ r[i].toNat ∧ r[i].toNat ≤ 57 ∧ i = 1 ∧ n = 0 ∧ Hid (C.cnt e most (r.data.toList.drop i) i n = none)) ∨
    (((r[i].toNat : Int) == (e.toNat : Int)) = false ∧ 48 ≤ r[i].toNat ∧ r[i].toNat ≤ 57 ∧ (i ≠ 1 ∨ n ≠ 0) ∧ most < 10 * n + (r[i].toNat - 48) ∧ Hid (C.cnt e most (r.data.toList.drop i) i n = none)) ∨
    (((r[i].toNat : Int) == (e.toNat : Int)) = false ∧ 48 ≤ r[i].toNat ∧ r[i].toNat ≤ 57 ∧ (i ≠ 1 ∨ n ≠ 0) ∧ 10 * n + (r[i].toNat - 48) ≤ most ∧ Hid (C.cnt e most (r.data.toList.drop i) i n = C.cnt e most (r.data.toList.drop (i + 1)) (i + 1) (10 * n + (r[i].toNat - 48)))) := by
  have hl : r.data.toList.length = r.size := by simp
  have hd : r.data.toList.drop i = r[i] :: r.data.toList.drop (i + 1) := List.drop_eq_getElem_cons (by omega)
  rw [hd, C.cnt]
  generalize hc : r[i] = c
  unfold Hid
  by_cases h1 : c = e
  · have h1' : ((c.toNat : Int) == (e.toNat : Int)) = true := by rw [h1]; simp
    by_cases h2 : 0 < i
    · exact .inl ⟨h2, h1', by rw [if_pos ⟨h1, h2⟩]⟩
    · have h0 : i = 0 := by omega
      rw [if_neg (by omega)]
      rw [h1]
      rcases he with h | h
      · exact .inr (.inl ⟨.inl h0, h, by rw [if_pos (.inl h)]⟩)
      · exact .inr (.inr (.inl ⟨.inl h0, h, by rw [if_pos (.inr (.inl h))]⟩))
  · have h1' : ((c.toNat : Int) == (e.toNat : Int)) = false := beq_eq_false_iff_ne.2 fun h => h1 (UInt8.toNat_inj.1 (by omega))
    rw [if_neg (fun h => h1 h.1)]
    by_cases h2 : c.toNat < 48
    · exact .inr (.inl ⟨.inr h1', h2, by rw [if_pos (.inl h2)]⟩)
    · by_cases h3 : 57 < c.toNat
      · exact .inr (.inr (.inl ⟨.inr h1', h3, by rw [if_pos (.inr (.inl h3))]⟩))
      · by_cases h4 : i = 1 ∧ n = 0
        · exact .inr (.inr (.inr (.inl ⟨h1', by omega, by omega, h4.1, h4.2, by rw [if_pos (.inr (.inr h4))]⟩)))
        · rw [if_neg (by omega)]
          by_cases h5 : most < 10 * n + (c.toNat - 48)
          · exact .inr (.inr (.inr (.inr (.inl ⟨h1', by omega, by omega, by omega, h5, by rw [if_pos h5]⟩))))
          · exact .inr (.inr (.inr (.inr (.inr ⟨h1', by omega, by omega, by omega, by omega, by rw [if_neg h5]⟩))))
/-- What count gives: a number and where it ends, or an error. -/
def RetCnt (l : C.Bs) (o : Option (Nat × C.Bs)) (e : Ending) : Prop := match o with
  | some (n, q) => ∃ k : Nat, k ≤ l.length ∧ l.drop k = q ∧ e = .returned (.tuple #[.int .i64 n, .int .i64 k, .int .i64 0])
  | none => ∃ er : Int, (er = 13 ∨ er = 17) ∧ e = .returned (.tuple #[.int .i64 0, .int .i64 0, .int .i64 er])
theorem retCnt_some {l q : C.Bs} {o : Option (Nat × C.Bs)} {n k : Nat} (h : o = some (n, q)) (hk : k ≤ l.length) (hd : l.drop k = q) : RetCnt l o (.returned (.tuple #[.int .i64 n, .int .i64 k, .int .i64 0])) := by
  rw [h]; exact ⟨k, hk, hd, rfl⟩
theorem retCnt_none {l : C.Bs} {o : Option (Nat × C.Bs)} {er : Int} (h : o = none) (he : er = 13 ∨ er = 17) : RetCnt l o (.returned (.tuple #[.int .i64 0, .int .i64 0, .int .i64 er])) := by
  rw [h]; exact ⟨er, he, rfl⟩

set_option maxRecDepth 8000 in
set_option maxHeartbeats 4000000 in
theorem count_any (e : UInt8) (he : e.toNat < 48 ∨ 57 < e.toNat) (most : Nat) (hm : most ≤ 281474976710656) (r : ByteArray) (er : Int) (b : Nat) (w : World) (hb : w.heap[b]? = some (.cells #[.string r, .int .i64 er] 152 (0, 0))) (hr : r.size ≤ 9000000000000000000) :
    Calls Tryz.prog 90 #[.pointer (some ⟨b, 0, none⟩), .int .i64 most, .int .u8 e.toNat] w fun en w' => RetCnt r.data.toList (C.cnt e most r.data.toList 0 0) en ∧ w = w' := by
  have c0 := cell_of_row w b 0 _ _ _ hb
  have hl : r.data.toList.length = r.size := by simp
  have HL := Lib.hid hl
  have HE := Lib.hid he
  obtain ⟨O, hO⟩ : ∃ O, O = C.cnt e most r.data.toList 0 0 := ⟨_, rfl⟩
  rw [← hO]
  have HO : Hid (C.cnt e most (r.data.toList.drop 0) 0 0 = O) := by rw [List.drop_zero]; exact hO.symm
  have heb : e.toNat ≤ 255 := by have := e.toNat_lt; omega
  clear hb hl he hO
  go_enter Tryz.func90, Tryz.ntmps90
  go_wp2_with fail
  go_step3
  go_wp2_with fail
  go_step3
  go_wp2_with fail
  go_loop [9, 10] (fun nv iv => ∃ n i : Nat, i ≤ r.size ∧ n ≤ most ∧ nv = .int .i64 n ∧ iv = .int .i64 i ∧ Hid (C.cnt e most (r.data.toList.drop i) i n = O)) (fun _ iv => r.size - (intOf iv).toNat)
  case atStart => exact ⟨0, 0, Nat.zero_le _, Nat.zero_le _, rfl, rfl, HO⟩
  case round =>
    obtain ⟨n, i, hi, hn, rfl, rfl, HK⟩ := hrel
    by_cases hlt : i < r.size
    · have hb0 : r[i].toNat ≤ 255 := by have := r[i].toNat_lt; omega
      rcases cnt_ways HE.out (most := most) (n := n) hlt with ⟨h1, h2, h3⟩ | ⟨h1, h2, h3⟩ | ⟨h1, h2, h3⟩ | ⟨h1, h2, h3, rfl, rfl, h4⟩ | ⟨h1, h2, h3, h4, h5, h6⟩ | ⟨h1, h2, h3, h4, h5, h6⟩
      · have HS : Hid (O = some (n, r.data.toList.drop (i + 1))) := HK.out.symm.trans h3.out
        clear h3
        go_wp2_with fail
        refine bodyPost_ret (v := .tuple #[.int .i64 n, .int .i64 ((i + 1 : Nat) : Int), .int .i64 0]) (by simp [results, Tryz.results90, go_sem]) rfl ⟨retCnt_some HS.out (by have := HL.out; omega) rfl, rfl⟩
      · have HS : Hid (O = none) := HK.out.symm.trans h3.out
        clear h3
        rcases h1 with rfl | h1
        all_goals
          go_wp2_with fail
          all_goals refine bodyPost_ret (v := .tuple #[.int .i64 0, .int .i64 0, .int .i64 17]) (by simp [results, Tryz.results90, go_sem]) rfl ⟨retCnt_none HS.out (by omega), rfl⟩
      · have HS : Hid (O = none) := HK.out.symm.trans h3.out
        clear h3
        rcases h1 with rfl | h1
        all_goals
          go_wp2_with fail
          all_goals refine bodyPost_ret (v := .tuple #[.int .i64 0, .int .i64 0, .int .i64 17]) (by simp [results, Tryz.results90, go_sem]) rfl ⟨retCnt_none HS.out (by omega), rfl⟩
      · have HS : Hid (O = none) := HK.out.symm.trans h4.out
        clear h4
        go_wp2_with fail
        refine bodyPost_ret (v := .tuple #[.int .i64 0, .int .i64 0, .int .i64 17]) (by simp [results, Tryz.results90, go_sem]) rfl ⟨retCnt_none HS.out (by omega), rfl⟩
      · have HS : Hid (O = none) := HK.out.symm.trans h6.out
        clear h6
        rcases h4 with h4 | h4
        all_goals
          go_wp2_with fail
          all_goals refine bodyPost_ret (v := .tuple #[.int .i64 0, .int .i64 0, .int .i64 17]) (by simp [results, Tryz.results90, go_sem]) rfl ⟨retCnt_none HS.out (by omega), rfl⟩
      · have HS : Hid (C.cnt e most (r.data.toList.drop (i + 1)) (i + 1) (10 * n + (r[i].toNat - 48)) = O) := h6.out.symm.trans HK.out
        clear h6
        by_cases hi1 : i = 1
        · subst hi1
          have h4' : ((n : Int) == 0) = false := beq_eq_false_iff_ne.2 (by omega)
          clear h4
          go_wp2_with fail
          exact ⟨⟨10 * n + (r[1].toNat - 48), 2, by omega, h5, vint (by omega), vint rfl, HS⟩, by simp [intOf]; omega⟩
        · clear h4
          go_wp2_with fail
          exact ⟨⟨10 * n + (r[i].toNat - 48), i + 1, by omega, h5, vint (by omega), vint (by omega), HS⟩, by simp [intOf]; omega⟩
    · have HS : Hid (O = none) := by
        unfold Hid
        have := HK.out
        rw [List.drop_eq_nil_of_le (by have := HL.out; omega)] at this
        rw [← this, C.cnt]
      have hin : i = r.size := by omega
      subst hin
      go_wp2_with fail
      refine bodyPost_ret (v := .tuple #[.int .i64 0, .int .i64 0, .int .i64 13]) (by simp [results, Tryz.results90, go_sem]) rfl ⟨retCnt_none HS.out (by omega), rfl⟩

end Go.Proofs.YtjimgkefacnamaaGreatDoor

/- codec's Reader: Number, Text, Err, Close. -/
namespace Go.Proofs.YtjimgkefacnamaaGreatDoor
open Go.RowKit Go.Maps Go.ChangeMaps

/-- A reader that has these bytes left, or an error. -/
def RdT (T : TypeId) (w : World) (b : Nat) (st : Option C.Bs) : Prop := ∃ (r : ByteArray) (er : Int), w.heap[b]? = some (.cells #[.string r, .int .i64 er] T (0, 0)) ∧ r.size ≤ 9000000000000000000 ∧ match st with
  | some l => er = 0 ∧ r.data.toList = l
  | none => er ≠ 0
theorem RdT.keep {T : TypeId} {w w' : World} {b : Nat} {st : Option C.Bs} (h : RdT T w b st) (k : w'.heap[b]? = w.heap[b]?) : RdT T w' b st := by
  obtain ⟨r, er, hb, h2⟩ := h
  exact ⟨r, er, k.trans hb, h2⟩
theorem RdT.lt {T : TypeId} {w : World} {b : Nat} {st : Option C.Bs} (h : RdT T w b st) : b < w.heap.size := by
  obtain ⟨r, er, hb, _⟩ := h
  exact (Array.getElem?_eq_some_iff.1 hb).1
theorem RdT.ext {T : TypeId} {w w' : World} {b : Nat} {st : Option C.Bs} (h : RdT T w b st) (d : Ext w w') : RdT T w' b st := h.keep (d.block b h.lt)
/-- What reading a number gives, a text; and what is left. -/
def nN (low high : Int) : Option C.Bs → Int × Option C.Bs
  | none => (0, none)
  | some l => match C.pNum low high l with
    | some (n, q) => ((n : Int), some q)
    | none => (0, none)
def nT (most : Nat) : Option C.Bs → C.Bs × Option C.Bs
  | none => ([], none)
  | some l => match C.pTxt most l with
    | some (s, q) => (s, some q)
    | none => ([], none)
theorem heap_set0 {w : World} {b : Nat} {x y : Value} {T : TypeId} (h : w.heap[b]? = some (.cells #[x, y] T (0, 0))) (u : Value) : (w.setCell ⟨b, 0, none⟩ u).heap[b]? = some (.cells #[u, y] T (0, 0)) := by
  simp [World.setCell, Array.getElem?_modify, h]
theorem heap_set1 {w : World} {b : Nat} {x y : Value} {T : TypeId} (h : w.heap[b]? = some (.cells #[x, y] T (0, 0))) (u : Value) : (w.setCell ⟨b, 1, none⟩ u).heap[b]? = some (.cells #[x, u] T (0, 0)) := by
  simp [World.setCell, Array.getElem?_modify, h]
theorem grown_set (w : World) (b o : Nat) (u : Value) : w.grownBy (w.setCell ⟨b, o, none⟩ u) (some b) := grownBy_setCells b [u] o w
theorem grownBy_trans {a b c : World} {row : Option Nat} (h : a.grownBy b row) (k : b.grownBy c row) : a.grownBy c row :=
  ⟨k.os.trans h.os, k.tape.trans h.tape, k.output.trans h.output, Nat.le_trans h.size k.size, fun j hj hne => (k.block j (Nat.lt_of_lt_of_le hj h.size) hne).trans (h.block j hj hne)⟩
theorem grownBy_ext {a b : World} (h : Ext a b) (row : Option Nat) : a.grownBy b row := ⟨h.os, h.tape, h.output, h.size, fun j hj _ => h.block j hj⟩

set_option maxHeartbeats 1000000 in
theorem fail_rd (er : Int) (he : er ≠ 0) (l : C.Bs) (b : Nat) (w : World) (h : RdT 152 w b (some l)) :
    Calls Tryz.prog 91 #[.pointer (some ⟨b, 0, none⟩), .int .i64 er] w fun en w' => en = .returned (.tuple #[]) ∧ RdT 152 w' b none ∧ w.grownBy w' (some b) := by
  obtain ⟨r, er0, hb, _, rfl, _⟩ := h
  have c0 : w.cell? ⟨b, 0, none⟩ = some (.string r) := cell_of_row w b 0 _ _ _ hb
  have c1 : w.cell? ⟨b, 1, none⟩ = some (.int .i64 0) := cell_of_row w b 1 _ _ _ hb
  have f0 : w.frozen? ⟨b, 0, none⟩ = false := Lib.frozen_of_heap hb 0
  have f1 : w.frozen? ⟨b, 1, none⟩ = false := Lib.frozen_of_heap hb 1
  have HB := Lib.hid hb
  clear hb
  go_enter Tryz.func91, Tryz.ntmps91
  go_wp2_with fail
  go_end0
  exact ⟨rfl, ⟨_, er, heap_set0 (heap_set1 HB.out _) _, by decide, he⟩, grownBy_trans (grown_set _ _ _ _) (grown_set _ _ _ _)⟩

theorem pNum_none {low high : Int} {l : C.Bs} (h : C.cnt 59 281474976710656 l 0 0 = none) : nN low high (some l) = (0, none) := by simp only [nN, C.pNum, h]
theorem pNum_some {low high : Int} {l q : C.Bs} {n : Nat} (h : C.cnt 59 281474976710656 l 0 0 = some (n, q)) (h2 : low ≤ (n : Int) ∧ (n : Int) ≤ high) : nN low high (some l) = ((n : Int), some q) := by
  simp only [nN, C.pNum, h, if_pos h2]
theorem pNum_range {low high : Int} {l q : C.Bs} {n : Nat} (h : C.cnt 59 281474976710656 l 0 0 = some (n, q)) (h2 : ¬ (low ≤ (n : Int) ∧ (n : Int) ≤ high)) : nN low high (some l) = (0, none) := by
  simp only [nN, C.pNum, h, if_neg h2]
def RetN (T : TypeId) (w : World) (b : Nat) (x : Int × Option C.Bs) (en : Ending) (w' : World) : Prop := en = .returned (.int .i64 x.1) ∧ RdT T w' b x.2 ∧ w.grownBy w' (some b)

set_option maxRecDepth 8000 in
set_option maxHeartbeats 4000000 in
theorem Number_rd (low high : Int) (st : Option C.Bs) (b : Nat) (w : World) (h : RdT 152 w b st) :
    Calls Tryz.prog 57 #[.pointer (some ⟨b, 0, none⟩), .int .i64 low, .int .i64 high] w (RetN 152 w b (nN low high st)) := by
  cases st with
  | none =>
    have HH := Lib.hid h
    obtain ⟨r, er, hb, hr, hE⟩ := h
    have c1 : w.cell? ⟨b, 1, none⟩ = some (.int .i64 er) := cell_of_row w b 1 _ _ _ hb
    have he : (er != 0) = true := by simpa using hE
    clear hb hE
    go_enter Tryz.func57, Tryz.ntmps57
    go_wp2_with fail
    go_ret
    exact ⟨rfl, HH.out, World.grownBy.refl w _⟩
  | some l =>
    have HH := Lib.hid h
    obtain ⟨r, er, hb, hr, rfl, hl⟩ := h
    have c0 : w.cell? ⟨b, 0, none⟩ = some (.string r) := cell_of_row w b 0 _ _ _ hb
    have c1 : w.cell? ⟨b, 1, none⟩ = some (.int .i64 0) := cell_of_row w b 1 _ _ _ hb
    have f0 : w.frozen? ⟨b, 0, none⟩ = false := Lib.frozen_of_heap hb 0
    have HC := Lib.hid (count_any 59 (by decide) 281474976710656 (by decide) r 0 b w hb hr)
    have HF := Lib.hid (fun er he => fail_rd er he l b w HH.out)
    have HB := Lib.hid hb
    have hlen : r.data.toList.length = r.size := by simp
    have HLEN := Lib.hid hlen
    rw [hl] at HC
    have HL := Lib.hid hl
    clear hb hl hlen
    cases hcnt : C.cnt 59 281474976710656 l 0 0 with
    | none =>
      have HN := Lib.hid (pNum_none (low := low) (high := high) hcnt)
      rw [hcnt] at HC
      clear hcnt
      generalize nN low high (some l) = R at HN ⊢
      go_enter Tryz.func57, Tryz.ntmps57
      go_wp2_with fail
      refine HC.out.mono ?_
      rintro e w1 ⟨⟨er, her, rfl⟩, rfl⟩
      have hz : (er == 0) = false := by rcases her with rfl | rfl <;> rfl
      have hz2 : (er != 0) = true := by rcases her with rfl | rfl <;> rfl
      have hz3 : er ≠ 0 := by rcases her with rfl | rfl <;> decide
      have HZ := Lib.hid hz3
      clear her hz3
      go_wp2_with fail
      refine (HF.out er HZ.out).mono ?_
      rintro e w2 ⟨rfl, h2, h3⟩
      have H2 := Lib.hid h2
      have H3 := Lib.hid h3
      clear h2 h3
      go_wp2_with fail
      go_ret
      unfold RetN
      rw [HN.out]
      exact ⟨rfl, H2.out, H3.out⟩
    | some x =>
      obtain ⟨n, q⟩ := x
      have hn2 : n ≤ 281474976710656 := (C.cnt_read hcnt).2
      by_cases hin : low ≤ (n : Int) ∧ (n : Int) ≤ high
      · have HN := Lib.hid (pNum_some hcnt hin)
        rw [hcnt] at HC
        obtain ⟨hi1, hi2⟩ := hin
        clear hcnt
        generalize nN low high (some l) = R at HN ⊢
        go_enter Tryz.func57, Tryz.ntmps57
        go_wp2_with fail
        refine HC.out.mono ?_
        rintro e w1 ⟨⟨k, hk, hq, rfl⟩, rfl⟩
        have hk2 : k ≤ r.size := by rw [← HL.out] at hk; have := HLEN.out; omega
        have HQ := Lib.hid hq
        clear hk hq
        go_wp2_with fail
        go_ret
        unfold RetN
        rw [HN.out]
        refine ⟨rfl, ⟨_, 0, heap_set0 HB.out _, ?_, rfl, ?_⟩, grown_set _ _ _ _⟩
        · have := ByteArray.size_extract (a := r) (b := k) (e := r.size); omega
        · rw [Lib.extract_data, HL.out, HQ.out, List.take_of_length_le]
          rw [← HQ.out, List.length_drop, ← HL.out]
          have := HLEN.out
          omega
      · have HN := Lib.hid (pNum_range hcnt hin)
        rw [hcnt] at HC
        clear hcnt
        generalize nN low high (some l) = R at HN ⊢
        have hin2 : (n : Int) < low ∨ (low ≤ (n : Int) ∧ high < (n : Int)) := by omega
        clear hin
        rcases hin2 with h1 | ⟨h1, h2⟩
        all_goals
          go_enter Tryz.func57, Tryz.ntmps57
          go_wp2_with fail
          refine HC.out.mono ?_
          rintro e w1 ⟨⟨k, hk, hq, rfl⟩, rfl⟩
          clear hk hq
          go_wp2_with fail
          refine (HF.out 3 (by decide)).mono ?_
          rintro e w2 ⟨rfl, h2, h3⟩
          have H2 := Lib.hid h2
          have H3 := Lib.hid h3
          clear h2 h3
          go_wp2_with fail
          go_ret
          unfold RetN
          rw [HN.out]
          exact ⟨rfl, H2.out, H3.out⟩


/-! ### Text -/
theorem pTxt_none {most : Nat} {l : C.Bs} (h : C.cnt 58 65536 l 0 0 = none) : nT most (some l) = ([], none) := by simp only [nT, C.pTxt, h]
theorem pTxt_short {most : Nat} {l q : C.Bs} {n : Nat} (h : C.cnt 58 65536 l 0 0 = some (n, q)) (h2 : q.length ≤ n) : nT most (some l) = ([], none) := by simp only [nT, C.pTxt, h, if_pos h2]
theorem pTxt_bad {most : Nat} {l q : C.Bs} {n : Nat} (h : C.cnt 58 65536 l 0 0 = some (n, q)) (h2 : ¬ q.length ≤ n) (h3 : q[n]? ≠ some 44) : nT most (some l) = ([], none) := by simp only [nT, C.pTxt, h, if_neg h2, if_pos h3]
theorem pTxt_long {most : Nat} {l q : C.Bs} {n : Nat} (h : C.cnt 58 65536 l 0 0 = some (n, q)) (h2 : ¬ q.length ≤ n) (h3 : q[n]? = some 44) (h4 : most < n) : nT most (some l) = ([], none) := by
  simp only [nT, C.pTxt, h, if_neg h2, if_neg (show ¬ q[n]? ≠ some 44 from fun h => h h3), if_pos h4]
theorem pTxt_good {most : Nat} {l q : C.Bs} {n : Nat} (h : C.cnt 58 65536 l 0 0 = some (n, q)) (h2 : ¬ q.length ≤ n) (h3 : q[n]? = some 44) (h4 : ¬ most < n) : nT most (some l) = (q.take n, some (q.drop (n + 1))) := by
  simp only [nT, C.pTxt, h, if_neg h2, if_neg (show ¬ q[n]? ≠ some 44 from fun h => h h3), if_neg h4]
def RetT (T : TypeId) (w : World) (b : Nat) (x : C.Bs × Option C.Bs) (en : Ending) (w' : World) : Prop := en = .returned (.string (mkB x.1)) ∧ RdT T w' b x.2 ∧ w.grownBy w' (some b)
theorem clone_any (s : ByteArray) (w : World) (hs : s.size ≤ 281474976710656) : Calls Tryz.prog 92 #[.string s] w (Al (.string s) w) := by
  have H := Lib.hid (Tryz.stringslite_Clone s w hs)
  go_enter Tryz.func92, Tryz.ntmps92
  go_wp2_with fail
  refine H.out.mono ?_
  rintro e w1 ⟨rfl, d1⟩
  go_wp2_with fail
  go_ret
  exact ⟨rfl, d1⟩

set_option maxRecDepth 8000 in
set_option maxHeartbeats 4000000 in
theorem Text_rd (most : Nat) (hmost : most ≤ 9000000000000000000) (st : Option C.Bs) (b : Nat) (w : World) (h : RdT 152 w b st) :
    Calls Tryz.prog 59 #[.pointer (some ⟨b, 0, none⟩), .int .i64 most] w (RetT 152 w b (nT most st)) := by
  cases st with
  | none =>
    have HH := Lib.hid h
    obtain ⟨r, er, hb, hr, hE⟩ := h
    have c1 : w.cell? ⟨b, 1, none⟩ = some (.int .i64 er) := cell_of_row w b 1 _ _ _ hb
    have he : (er != 0) = true := by simpa using hE
    clear hb hE
    go_enter Tryz.func59, Tryz.ntmps59
    go_wp2_with fail
    go_ret
    exact ⟨rfl, HH.out, World.grownBy.refl w _⟩
  | some l =>
    have HH := Lib.hid h
    obtain ⟨r, er, hb, hr, rfl, hl⟩ := h
    have c0 : w.cell? ⟨b, 0, none⟩ = some (.string r) := cell_of_row w b 0 _ _ _ hb
    have c1 : w.cell? ⟨b, 1, none⟩ = some (.int .i64 0) := cell_of_row w b 1 _ _ _ hb
    have f0 : w.frozen? ⟨b, 0, none⟩ = false := Lib.frozen_of_heap hb 0
    have HC := Lib.hid (count_any 58 (by decide) 65536 (by decide) r 0 b w hb hr)
    have HF := Lib.hid (fun er he => fail_rd er he l b w HH.out)
    have HB := Lib.hid hb
    have hlen : r.data.toList.length = r.size := by simp
    have HLEN := Lib.hid hlen
    rw [hl] at HC
    have HL := Lib.hid hl
    clear hb hl hlen
    cases hcnt : C.cnt 58 65536 l 0 0 with
    | none =>
      have HN := Lib.hid (pTxt_none (most := most) hcnt)
      rw [hcnt] at HC
      clear hcnt
      generalize nT most (some l) = R at HN ⊢
      go_enter Tryz.func59, Tryz.ntmps59
      go_wp2_with fail
      refine HC.out.mono ?_
      rintro e w1 ⟨⟨er, her, rfl⟩, rfl⟩
      have hz : (er == 0) = false := by rcases her with rfl | rfl <;> rfl
      have hz2 : (er != 0) = true := by rcases her with rfl | rfl <;> rfl
      have hz3 : er ≠ 0 := by rcases her with rfl | rfl <;> decide
      have HZ := Lib.hid hz3
      clear her hz3
      go_wp2_with fail
      refine (HF.out er HZ.out).mono ?_
      rintro e w2 ⟨rfl, h2, h3⟩
      have H2 := Lib.hid h2
      have H3 := Lib.hid h3
      clear h2 h3
      go_wp2_with fail
      go_ret
      unfold RetT
      rw [HN.out]
      exact ⟨rfl, H2.out, H3.out⟩
    | some x =>
      obtain ⟨n, q⟩ := x
      have hn2 : n ≤ 65536 := (C.cnt_read hcnt).2
      rw [hcnt] at HC
      obtain ⟨R, hR⟩ : ∃ R, R = nT most (some l) := ⟨_, rfl⟩
      rw [← hR]
      have HSH := Lib.hid (fun h2 => hR.trans (pTxt_short (most := most) hcnt h2))
      have HBD := Lib.hid (fun h2 h3 => hR.trans (pTxt_bad (most := most) hcnt h2 h3))
      have HLG := Lib.hid (fun h2 h3 h4 => hR.trans (pTxt_long (most := most) hcnt h2 h3 h4))
      have HGD := Lib.hid (fun h2 h3 h4 => hR.trans (pTxt_good (most := most) hcnt h2 h3 h4))
      clear hcnt hR
      go_enter Tryz.func59, Tryz.ntmps59
      go_wp2_with fail
      refine HC.out.mono ?_
      rintro e w1 ⟨⟨k, hk, hq, rfl⟩, rfl⟩
      have hk2 : k ≤ r.size := by rw [← HL.out] at hk; have := HLEN.out; omega
      have hql : q.length = r.size - k := by rw [← hq, List.length_drop, ← HL.out, HLEN.out]
      have HQL := Lib.hid hql
      have HQ := Lib.hid hq
      clear hk hq hql
      by_cases h2 : q.length ≤ n
      · have HN := Lib.hid (HSH.out h2)
        have h2' : r.size ≤ k + n := by have := HQL.out; omega
        clear h2
        go_wp2_with fail
        refine (HF.out 13 (by decide)).mono ?_
        rintro e w2 ⟨rfl, h2, h3⟩
        have H2 := Lib.hid h2
        have H3 := Lib.hid h3
        clear h2 h3
        go_wp2_with fail
        go_ret
        unfold RetT
        rw [HN.out]
        exact ⟨rfl, H2.out, H3.out⟩
      · have h2' : k + n < r.size := by have := HQL.out; omega
        have hqn : q[n]? = some r[k + n] := by
          rw [← HQ.out, List.getElem?_drop, ← HL.out, List.getElem?_eq_getElem (by have := HLEN.out; omega)]
          rfl
        have hb0 : r[k + n].toNat ≤ 255 := by have := r[k + n].toNat_lt; omega
        by_cases h3 : r[k + n] = 44
        · have e1 : ((r[k + n].toNat : Int) == 44) = true := by rw [h3]; rfl
          have e2 : ((r[k + n].toNat : Int) != 44) = false := by rw [h3]; rfl
          rw [h3] at hqn
          by_cases h4 : most < n
          · have HN := Lib.hid (HLG.out h2 hqn h4)
            clear h2 h3 hqn
            go_wp2_with fail
            refine (HF.out 10 (by decide)).mono ?_
            rintro e w2 ⟨rfl, h2, h3⟩
            have H2 := Lib.hid h2
            have H3 := Lib.hid h3
            clear h2 h3
            go_wp2_with fail
            go_ret
            unfold RetT
            rw [HN.out]
            exact ⟨rfl, H2.out, H3.out⟩
          · have HN := Lib.hid (HGD.out h2 hqn h4)
            clear h2 h3 hqn
            have hsz : (r.extract k (k + n)).size ≤ 65536 := by have := ByteArray.size_extract (a := r) (b := k) (e := k + n); omega
            have HCL := Lib.hid (clone_any (r.extract k (k + n)) w (by omega))
            go_wp2_with fail
            refine HCL.out.mono ?_
            rintro e w2 ⟨rfl, d2⟩
            have c0' := d2.keepc c0
            have hlt := (Array.getElem?_eq_some_iff.1 HB.out).1
            have f0' := d2.keepf (p := ⟨b, 0, none⟩) hlt f0
            have HB2 := Lib.hid (d2.heap HB.out)
            have D2 := Lib.hid d2
            clear d2 c0 f0 c1 hlt
            go_wp2_with fail
            go_ret
            unfold RetT
            rw [HN.out]
            refine ⟨?_, ⟨_, 0, heap_set0 HB2.out _, ?_, rfl, ?_⟩, grownBy_trans (grownBy_ext D2.out _) (grown_set _ _ _ _)⟩
            · have : r.extract k (k + n) = mkB (q.take n) := by
                rw [← mkB_self (r.extract k (k + n)), Lib.extract_data, HL.out, HQ.out, show k + n - k = n by omega]
              rw [← this]
              rfl
            · have := ByteArray.size_extract (a := r) (b := k + n + 1) (e := r.size); omega
            · rw [Lib.extract_data, HL.out, ← HQ.out, List.drop_drop, List.take_of_length_le]
              · rw [show k + n + 1 = k + (n + 1) by omega]
              · rw [List.length_drop, ← HL.out]
                have := HLEN.out
                omega
        · have e1 : ((r[k + n].toNat : Int) == 44) = false := beq_eq_false_iff_ne.2 fun h => h3 (UInt8.toNat_inj.1 (by show r[k + n].toNat = 44; omega))
          have e2 : ((r[k + n].toNat : Int) != 44) = true := by unfold bne; rw [e1]; rfl
          have HN := Lib.hid (HBD.out h2 (by rw [hqn]; intro h; exact h3 (Option.some.inj h)))
          clear h2 h3 hqn
          go_wp2_with fail
          refine (HF.out 17 (by decide)).mono ?_
          rintro e w2 ⟨rfl, h2, h3⟩
          have H2 := Lib.hid h2
          have H3 := Lib.hid h3
          clear h2 h3
          go_wp2_with fail
          go_ret
          unfold RetT
          rw [HN.out]
          exact ⟨rfl, H2.out, H3.out⟩


/-! ### Err, Close, NewReader -/
def rdErr : Option C.Bs → Bool
  | none => true
  | some _ => false
/-- Whether nothing is left, and there was no error. -/
def rdEnd : Option C.Bs → Bool
  | some [] => true
  | _ => false
set_option maxHeartbeats 1000000 in
theorem Err_rd (st : Option C.Bs) (b : Nat) (w : World) (h : RdT 152 w b st) :
    Calls Tryz.prog 58 #[.pointer (some ⟨b, 0, none⟩)] w fun e w' => (∃ er : Int, e = .returned (.int .i64 er) ∧ ((er = 0 ∧ rdErr st = false) ∨ (er ≠ 0 ∧ rdErr st = true))) ∧ w = w' := by
  obtain ⟨r, er, hb, hr, hE⟩ := h
  have c1 : w.cell? ⟨b, 1, none⟩ = some (.int .i64 er) := cell_of_row w b 1 _ _ _ hb
  have HE : Hid ((er = 0 ∧ rdErr st = false) ∨ (er ≠ 0 ∧ rdErr st = true)) := by
    cases st with
    | none => exact .inr ⟨hE, rfl⟩
    | some l => exact .inl ⟨hE.1, rfl⟩
  clear hb hE hr
  generalize rdErr st = B at HE ⊢
  go_enter Tryz.func58, Tryz.ntmps58
  go_wp2_with fail
  go_ret
  exact ⟨⟨er, rfl, HE.out⟩, rfl⟩
set_option maxHeartbeats 1000000 in
theorem Close_rd (st : Option C.Bs) (b : Nat) (w : World) (h : RdT 152 w b st) :
    Calls Tryz.prog 61 #[.pointer (some ⟨b, 0, none⟩)] w fun e w' => (∃ er : Int, e = .returned (.int .i64 er) ∧ ((er = 0 ∧ rdEnd st = true) ∨ (er ≠ 0 ∧ rdEnd st = false))) ∧ w = w' := by
  obtain ⟨r, er, hb, hr, hE⟩ := h
  have c0 : w.cell? ⟨b, 0, none⟩ = some (.string r) := cell_of_row w b 0 _ _ _ hb
  have c1 : w.cell? ⟨b, 1, none⟩ = some (.int .i64 er) := cell_of_row w b 1 _ _ _ hb
  cases st with
  | none =>
    have he : (er == 0) = false := by simpa using hE
    have HE := Lib.hid hE
    clear hb hE hr
    go_enter Tryz.func61, Tryz.ntmps61
    go_wp2_with fail
    go_ret
    exact ⟨⟨er, rfl, .inr ⟨HE.out, rfl⟩⟩, rfl⟩
  | some l =>
    obtain ⟨rfl, hl⟩ := hE
    cases l with
    | nil =>
      have e1 : r.toList = [] := by rw [ByteArray.toList_eq, hl]
      have e2 : r.toList.isEmpty = true := by rw [e1]; rfl
      clear hb hr hl
      go_enter Tryz.func61, Tryz.ntmps61
      go_wp2_with fail
      go_ret
      exact ⟨⟨0, rfl, .inl ⟨rfl, rfl⟩⟩, rfl⟩
    | cons x l =>
      have e2 : r.toList.isEmpty = false := by rw [ByteArray.toList_eq, hl]; rfl
      have e3 : (!r.toList.isEmpty) = true := by rw [e2]; rfl
      have e4 : r.toList ≠ [] := by rw [ByteArray.toList_eq, hl]; simp
      clear hb hr hl
      go_enter Tryz.func61, Tryz.ntmps61
      go_wp2_with fail
      go_ret
      exact ⟨⟨17, rfl, .inr ⟨by decide, rfl⟩⟩, rfl⟩
set_option maxHeartbeats 1000000 in
theorem NewReader_any (s : ByteArray) (w : World) (hs : s.size ≤ 9000000000000000000) :
    Calls Tryz.prog 55 #[.string s] w fun e w' => e = .returned (.pointer (some ⟨w.heap.size, 0, none⟩)) ∧ RdT 152 w' w.heap.size (some s.data.toList) ∧ Ext w w' := by
  have H : Hid (RdT 152 (w.alloc (.cells #[.string s, .int .i64 0] 152)) w.heap.size (some s.data.toList) ∧ Ext w (w.alloc (.cells #[.string s, .int .i64 0] 152))) :=
    ⟨⟨s, 0, heap_alloc_new w _, hs, rfl, rfl⟩, (Ext.refl w).alloc _⟩
  go_enter Tryz.func55, Tryz.ntmps55
  go_wp2_with fail
  go_ret
  exact ⟨rfl, H.out.1, H.out.2⟩

end Go.Proofs.YtjimgkefacnamaaGreatDoor
