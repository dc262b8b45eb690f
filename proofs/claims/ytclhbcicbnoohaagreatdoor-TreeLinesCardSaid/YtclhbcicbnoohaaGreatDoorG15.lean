/- The texts Jg of the seat, joined. -/
import Derived.Test.YtclhbcicbnoohaaGreatDoorG14
/- tree.Replace. -/
namespace Go.Proofs.YtclhbcicbnoohaaGreatDoor
open Go.RowKit
set_option linter.unusedVariables false

set_option maxRecDepth 100000 in
set_option maxHeartbeats 8000000 in
theorem Replace_any (t : T.Tr) (A : Option Addr) (c n : Nat) (lp x : ByteArray) (N : Int) (w : World) (hn : n = t.length) (hA : SliceAt fileR w (Old w) A c t) (hp : ∀ f ∈ t, f.1.size ≤ 1000000) (hg : Gl w) (hx : x.size ≤ 100000) (hN1 : -9223372036854775808 ≤ N) (hN2 : N ≤ 9223372036854775807) :
    Calls Tryz.prog 35 #[.slice A n c, .agg #[.string lp, .int .i64 N], .string x] w (RetTr w (replE t lp N x)) := by
  have hX0 : Ext w (w.alloc (.cells #[.string lp, .int .i64 N] 45)) := (Ext.refl w).alloc _
  have hck : Hid (Calls Tryz.prog 24 #[.slice A n c] (w.alloc (.cells #[.string lp, .int .i64 N] 45)) (Al (.int .i64 (T.checkE okB t)) (w.alloc (.cells #[.string lp, .int .i64 N] 45)))) := Check_any t A c n _ hn (hA.ext hX0) hp (hg.ext hX0)
  have HFD : Hid (∀ W, Ext w W → Calls Tryz.prog 44 #[.slice A n c, .string lp] W (Al (.int .i64 (idxI (T.idxT t lp.data.toList))) W)) := fun W hW => index_any t A c n lp W hn (hA.ext hW)
  have HG := Lib.hid hg
  obtain ⟨Z, hZ⟩ : ∃ Z, Z = replE t lp N x := ⟨_, rfl⟩
  rw [← hZ]
  have HZ := Lib.hid hZ
  have HN := Lib.hid hn
  have HA := Lib.hid hA
  have HX0 := Lib.hid hX0
  have HP := Lib.hid hp
  clear hZ hn hA hp hX0 hg
  by_cases h0 : T.checkE okB t = 0
  · rw [h0] at hck
    have hok := checkE_ok h0
    cases hf : T.findT t lp.data.toList with
    | none =>
      have HF : Hid (Z = ([], 7)) := by unfold Hid; rw [HZ.out, replE, if_neg (by rw [h0]; simp), hf]
      have hfv : idxI (T.idxT t lp.data.toList) = -1 := by
        cases hx9 : T.idxT t lp.data.toList with
        | none => rfl
        | some i => obtain ⟨_, _, _, h9⟩ := T.idxT_some hx9; rw [hf] at h9; cases h9
      rw [hfv] at HFD
      clear HZ hok h0 hf hfv
      go_enter Tryz.func35, Tryz.ntmps35
      go_wp2_with fail
      refine hck.out.mono ?_
      rintro e w1 ⟨rfl, d1⟩
      have e0 := d1.keepc (cell_new w #[.string lp, .int .i64 N] 45 0)
      go_wp2_with fail
      refine (HFD.out _ (HX0.out.trans d1)).mono ?_
      rintro e w2 ⟨rfl, d2⟩
      go_wp2_with fail
      go_ret2
      exact ⟨_, by rw [HF.out]; rfl, by rw [HF.out]; exact own_files_nil _ _, HX0.out.trans (d1.trans d2)⟩
    | some f =>
      obtain ⟨hfm, hfp⟩ := find_path hf
      have hfd : f.2.size ≤ 65536 := hok.size f hfm
      obtain ⟨i, hix⟩ : ∃ i, T.idxT t lp.data.toList = some i := by
        cases hx9 : T.idxT t lp.data.toList with
        | none => have h9 := (T.idxT_no hx9).2; rw [hf] at h9; cases h9
        | some i => exact ⟨i, rfl⟩
      obtain ⟨hil, hie, _, hif⟩ := T.idxT_some hix
      have hti : t[i] = f := by rw [hf] at hif; exact (Option.some.inj hif).symm
      rw [hix] at HFD
      have hfv : idxI (some i) = (i : Int) := rfl
      rw [hfv] at HFD
      have hin : i < n := by rw [HN.out]; exact hil
      have hn64 : n ≤ 64 := by rw [HN.out]; exact hok.few
      have HCC : Hid (∀ W, Ext w W → ∃ b off, A = some ⟨b, off, none⟩ ∧ W.cell? ⟨b, off + i * 2 + 1, none⟩ = some (.string f.2)) := fun W hW => by
        obtain ⟨b, off, hAe, _, _, c1, _, _⟩ := file_get (HA.out.ext hW) hil
        rw [← Nat.add_assoc, hti] at c1
        exact ⟨b, off, hAe, c1⟩
      have HINS : Hid (∀ d : ByteArray, T.insT t (lp, d) = t.set i (lp, d)) := fun d => (T.set_ins hok.sorted hil (show T.pth t[i] = T.pth (lp, d) from hie)).symm
      have HTI : Hid (t[i]? = some (lp, f.2)) := by
        unfold Hid
        rw [List.getElem?_eq_getElem hil, hti, ← hfp]
      have HCL : Hid (∀ W, Ext w W → Calls Tryz.prog 48 #[.slice A n c] W (RetT W t)) := fun W hW => CloneF_any t A c n W HN.out (HA.out.ext hW) (by omega)
      have HZ2 : Hid (Z = if (linesE f.2).2 ≠ 0 then ([], (linesE f.2).2) else if N < 0 ∨ ((linesE f.2).1.length : Int) ≤ N then ([], 3) else if hasNl x = true then ([], 1)
          else if (joinE ((linesE f.2).1.set N.toNat x)).2 ≠ 0 then ([], (joinE ((linesE f.2).1.set N.toNat x)).2) else (T.insT t (lp, (joinE ((linesE f.2).1.set N.toNat x)).1), 0)) := by
        unfold Hid
        rw [HZ.out, replE, if_neg (by rw [h0]; simp), hf]
      have HLN : Hid (∀ W, Ext w W → Calls Tryz.prog 31 #[.string f.2] W (RetL W (linesE f.2))) := fun W hW => Lines_any f.2 W (by omega) (HG.out.ext hW)
      have hlz : ∀ s ∈ (linesE f.2).1, s.size ≤ 65536 := fun s hs => by
        unfold linesE at hs
        split at hs
        · cases hs
        · have := parts_sizes 10 f.2 s hs; omega
      have hlc : (linesE f.2).1.length ≤ 1024 := by
        unfold linesE
        split
        · simp
        · rename_i h; exact Nat.le_of_not_lt fun h2 => h (.inr h2)
      have hle : (linesE f.2).2 = 10 ∨ (linesE f.2).2 = 0 := by
        unfold linesE
        split
        · exact .inl rfl
        · exact .inr rfl
      clear HZ hok h0 hf hfv hfm hfp hti hif hie hix hil
      generalize f.2 = fd at *
      generalize hLL : linesE fd = R at *
      obtain ⟨ls, er⟩ := R
      clear hLL
      simp only at hlz hlc hle HZ2
      rcases hle with rfl | rfl
      · have HF : Hid (Z = ([], 10)) := by unfold Hid; rw [HZ2.out, if_pos (by simp)]
        clear HZ2
        go_enter Tryz.func35, Tryz.ntmps35
        go_wp2_with fail
        refine hck.out.mono ?_
        rintro e w1 ⟨rfl, d1⟩
        have e0 := d1.keepc (cell_new w #[.string lp, .int .i64 N] 45 0)
        go_wp2_with fail
        refine (HFD.out _ (HX0.out.trans d1)).mono ?_
        rintro e w2 ⟨rfl, d2⟩
        obtain ⟨bq, oq, hAq, cq⟩ := HCC.out w2 (HX0.out.trans (d1.trans d2))
        subst hAq
        go_wp2_with fail
        refine (HLN.out _ (HX0.out.trans (d1.trans d2))).mono ?_
        rintro e w3 ⟨v, rfl, ho, d3⟩
        go_wp2_with fail
        go_ret2
        exact ⟨_, by rw [HF.out]; rfl, by rw [HF.out]; exact own_files_nil _ _, HX0.out.trans (d1.trans (d2.trans d3))⟩
      · have HZ3 : Hid (Z = if N < 0 ∨ ((ls.length : Nat) : Int) ≤ N then ([], 3) else if hasNl x = true then ([], 1) else if (joinE (ls.set N.toNat x)).2 ≠ 0 then ([], (joinE (ls.set N.toNat x)).2) else (T.insT t (lp, (joinE (ls.set N.toNat x)).1), 0)) := by
          unfold Hid
          rw [HZ2.out, if_neg (by simp)]
        clear HZ2
        have HSP : Hid (∀ W, Ext w W → Calls Tryz.prog 41 #[.string x, .string ⟨#[10]⟩] W fun e w' => e = .returned (.bool (hasNl x)) ∧ w' = W) := fun W hW => by
          obtain ⟨⟨m, hm⟩, _⟩ := HG.out.ext hW
          have h9 := Tryz.strings_Contains x ⟨#[10]⟩ m W (by omega) hm
          rwa [show Lib.contains x.data.toList (⟨#[10]⟩ : ByteArray).data.toList = hasNl x from contains_nl x] at h9
        by_cases hr1 : N < 0
        · have HF : Hid (Z = ([], 3)) := by unfold Hid; rw [HZ3.out, if_pos (.inl hr1)]
          have hdn : decide (N < 0) = true := decide_eq_true hr1
          clear HZ3
          go_enter Tryz.func35, Tryz.ntmps35
          go_wp2_with fail
          refine hck.out.mono ?_
          rintro e w1 ⟨rfl, d1⟩
          have e0 := d1.keepc (cell_new w #[.string lp, .int .i64 N] 45 0)
          have e1 := d1.keepc (cell_new w #[.string lp, .int .i64 N] 45 1)
          go_wp2_with fail
          refine (HFD.out _ (HX0.out.trans d1)).mono ?_
          rintro e w2 ⟨rfl, d2⟩
          obtain ⟨bq, oq, hAq, cq⟩ := HCC.out w2 (HX0.out.trans (d1.trans d2))
          subst hAq
          replace e0 := d2.keepc e0
          replace e1 := d2.keepc e1
          go_wp2_with fail
          refine (HLN.out _ (HX0.out.trans (d1.trans d2))).mono ?_
          rintro e w3 ⟨v, rfl, ho, d3⟩
          replace e0 := d3.keepc e0
          replace e1 := d3.keepc e1
          have X3 : Hid (Ext w w3) := HX0.out.trans (d1.trans (d2.trans d3))
          have HB3 : Hid (w.heap.size < w2.heap.size) := by have h8 := (d1.trans d2).size; unfold Hid; simp at h8; omega
          clear d1 d2 d3
          obtain ⟨As, cs, rfl, _⟩ := StrsAt.of_own ho
          clear ho
          go_wp2_with fail
          go_ret2
          exact ⟨_, by rw [HF.out]; rfl, by rw [HF.out]; exact own_files_nil _ _, X3.out⟩
        · obtain ⟨k, rfl⟩ : ∃ k : Nat, N = (k : Int) := ⟨N.toNat, by omega⟩
          have hkn : ((k : Int)).toNat = k := by omega
          rw [hkn] at HZ3
          have hdn : decide ((k : Int) < 0) = false := decide_eq_false (by omega)
          clear hr1 hkn
          by_cases hr2 : ls.length ≤ k
          · have HF : Hid (Z = ([], 3)) := by unfold Hid; rw [HZ3.out, if_pos (.inr (by omega))]
            clear HZ3
            go_enter Tryz.func35, Tryz.ntmps35
            go_wp2_with fail
            refine hck.out.mono ?_
            rintro e w1 ⟨rfl, d1⟩
            have e0 := d1.keepc (cell_new w #[.string lp, .int .i64 (k : Int)] 45 0)
            have e1 := d1.keepc (cell_new w #[.string lp, .int .i64 (k : Int)] 45 1)
            go_wp2_with fail
            refine (HFD.out _ (HX0.out.trans d1)).mono ?_
            rintro e w2 ⟨rfl, d2⟩
            obtain ⟨bq, oq, hAq, cq⟩ := HCC.out w2 (HX0.out.trans (d1.trans d2))
            subst hAq
            replace e0 := d2.keepc e0
            replace e1 := d2.keepc e1
            go_wp2_with fail
            refine (HLN.out _ (HX0.out.trans (d1.trans d2))).mono ?_
            rintro e w3 ⟨v, rfl, ho, d3⟩
            replace e0 := d3.keepc e0
            replace e1 := d3.keepc e1
            have X3 : Hid (Ext w w3) := HX0.out.trans (d1.trans (d2.trans d3))
            have HB3 : Hid (w.heap.size < w2.heap.size) := by have h8 := (d1.trans d2).size; unfold Hid; simp at h8; omega
            clear d1 d2 d3
            obtain ⟨As, cs, rfl, _⟩ := StrsAt.of_own ho
            clear ho
            generalize ls.length = L at *
            have hd4 : decide (L ≤ k) = true := decide_eq_true hr2
            go_wp2_with fail
            go_ret2
            exact ⟨_, by rw [HF.out]; rfl, by rw [HF.out]; exact own_files_nil _ _, X3.out⟩
          · have HZ4 : Hid (Z = if hasNl x = true then ([], 1) else if (joinE (ls.set k x)).2 ≠ 0 then ([], (joinE (ls.set k x)).2) else (T.insT t (lp, (joinE (ls.set k x)).1), 0)) := by
              unfold Hid
              rw [HZ3.out, if_neg (by omega)]
            clear HZ3
            cases hnl : hasNl x
            · rw [hnl, if_neg (by simp)] at HZ4
              rw [hnl] at HSP
              clear hnl
              go_enter Tryz.func35, Tryz.ntmps35
              go_wp2_with fail
              refine hck.out.mono ?_
              rintro e w1 ⟨rfl, d1⟩
              have e0 := d1.keepc (cell_new w #[.string lp, .int .i64 (k : Int)] 45 0)
              have e1 := d1.keepc (cell_new w #[.string lp, .int .i64 (k : Int)] 45 1)
              go_wp2_with fail
              refine (HFD.out _ (HX0.out.trans d1)).mono ?_
              rintro e w2 ⟨rfl, d2⟩
              obtain ⟨bq, oq, hAq, cq⟩ := HCC.out w2 (HX0.out.trans (d1.trans d2))
              subst hAq
              replace e0 := d2.keepc e0
              replace e1 := d2.keepc e1
              go_wp2_with fail
              refine (HLN.out _ (HX0.out.trans (d1.trans d2))).mono ?_
              rintro e w3 ⟨v, rfl, ho, d3⟩
              replace e0 := d3.keepc e0
              replace e1 := d3.keepc e1
              have X3 : Hid (Ext w w3) := HX0.out.trans (d1.trans (d2.trans d3))
              have HB3 : Hid (w.heap.size < w2.heap.size) := by have h8 := (d1.trans d2).size; unfold Hid; simp at h8; omega
              clear d1 d2 d3
              obtain ⟨g, off, cap, cur, rfl, hO⟩ := ownZ_of (show OwnAt w3 w2.heap.size 9 1 v ls.length (strs ls) from ho) (by omega)
              clear ho
              obtain ⟨L, hL⟩ : ∃ L, L = ls.length := ⟨_, rfl⟩
              rw [← hL] at hO hr2 hlc ⊢
              have HL := Lib.hid hL
              clear hL
              have hd4 : decide (L ≤ k) = false := decide_eq_false hr2
              have hkL : k < L := by omega
              go_wp2_with fail
              refine (HSP.out _ X3.out).mono ?_
              rintro e w3' ⟨rfl, hw3⟩
              subst hw3
              have E0 := Lib.hid e0
              obtain ⟨xx, hxx⟩ := Option.isSome_iff_exists.1 (hO.there (j := k) (by have := hO.room; omega))
              have hfz := hO.free (off + k)
              have HOS := Lib.hid (hO.setOne HL.out hkL x)
              have HLOW : Hid (w.heap.size ≤ g ∧ g ≠ w.heap.size) := by have h8 := hO.low; have h9 := HB3.out; unfold Hid; omega
              have HE5 : Hid (Ext w (w3'.setCells g (off + k) [.string x])) := X3.out.grownNew HLOW.out.1 (grownBy_setCells g _ _ w3')
              have HB5 : Hid ((w3'.setCells g (off + k) [.string x]).cell? ⟨w.heap.size, 0, none⟩ = some (.string lp)) := by
                refine (World.cell?_of_block ((grownBy_setCells g [.string x] (off + k) w3').block w.heap.size ?_ (fun e => HLOW.out.2 (Option.some.inj e).symm))).trans E0.out
                exact World.block_lt_of_cell? w3' _ E0.out
              clear hO e0 HSP
              have HRJ : Hid (Calls Tryz.prog 33 #[.slice (some ⟨g, off, none⟩) L cap] (w3'.setCell ⟨g, off + k, none⟩ (.string x)) (Al (joinV (ls.set k x)) (w3'.setCells g (off + k) [.string x]))) := by
                have hlz2 : ∀ s ∈ ls.set k x, s.size ≤ 100000 := fun s hs => by
                  rcases List.mem_or_eq_of_mem_set hs with h | h
                  · have := hlz s h; omega
                  · rw [h]; exact hx
                obtain ⟨A9, c9, e9, hs9⟩ := own_strs_slice HOS.out fun s hs => by have := hlz2 s hs; omega
                rw [List.length_set, ← HL.out] at e9
                cases e9
                exact Join_any (ls.set k x) _ cap L _ (by rw [List.length_set]; exact HL.out) hs9 (by omega) hlz2 (HG.out.ext HE5.out)
              have HJD := Lib.hid (@joinE_data (ls.set k x))
              have hjv : joinV (ls.set k x) = .tuple #[.string (joinE (ls.set k x)).1, .int .i64 (joinE (ls.set k x)).2] := rfl
              rw [hjv] at HRJ
              clear HOS hjv hlz
              generalize joinE (ls.set k x) = J at *
              obtain ⟨js, je⟩ := J
              simp only at HRJ HJD HZ4
              go_wp2_with fail
              refine HRJ.out.mono ?_
              rintro e w6 ⟨rfl, d6⟩
              have e0 := d6.keepc HB5.out
              have X6 : Hid (Ext w w6) := HE5.out.trans d6
              clear d6 HRJ HB5 HE5 hxx hfz
              by_cases hj : je = 0
              · subst hj
                have HF : Hid (Z = (t.set i (lp, js), 0)) := by unfold Hid; rw [HZ4.out, if_neg (by simp), HINS.out]
                clear HZ4 HJD HINS
                go_wp2_with fail
                refine (HCL.out _ X6.out).mono ?_
                rintro e w7 ⟨v7, rfl, ho7, d7⟩
                have HSZ6 : Hid (w.heap.size ≤ w6.heap.size) := X6.out.size
                obtain ⟨g7, o7, c7, cur7, rfl, hO7⟩ := own1_of ho7 (by rw [← HN.out]; omega)
                have X7 : Hid (Ext w w7) := X6.out.trans d7
                rw [← HN.out] at hO7 ⊢
                obtain ⟨yy, hyy⟩ := Option.isSome_iff_exists.1 (hO7.there (j := i * 2 + 1) (by have := hO7.room; omega))
                have hf2 := hO7.free (o7 + i * 2 + 1)
                rw [← Nat.add_assoc] at hyy
                have HW : Hid (OwnFiles (w7.setCells g7 (o7 + (i * 2 + 1)) [.string js]) w6.heap.size (.slice (some ⟨g7, o7, none⟩) n c7) (t.set i (lp, js))) := by
                  unfold Hid OwnFiles
                  rw [List.length_set, ← HN.out]
                  have hil : i < t.length := by rw [← HN.out]; exact hin
                  have hti : t[i] = (lp, fd) := by have h9 := HTI.out; rw [List.getElem?_eq_getElem hil] at h9; exact Option.some.inj h9
                  have hget : ∀ j, j < n * 2 → (fcells (t.set i (lp, js)))[j]? = if j = i * 2 + 1 then some (.string js) else (fcells t)[j]? := fun j hj => by
                    have hjl : j / 2 < t.length := by rw [← HN.out]; omega
                    have h1 := fcells_get t (j / 2) hjl
                    have h2 := fcells_get (t.set i (lp, js)) (j / 2) (by rw [List.length_set]; exact hjl)
                    by_cases he : j / 2 = i
                    · have hs1 : (t.set i (lp, js))[j / 2]'(by rw [List.length_set]; exact hjl) = (lp, js) := by simp [he]
                      have hs2 : t[j / 2] = (lp, fd) := by simp only [he]; exact hti
                      rw [hs1] at h2
                      rw [hs2] at h1
                      rcases Nat.mod_two_eq_zero_or_one j with e | e
                      · rw [show j / 2 * 2 = j by omega] at h1 h2
                        rw [if_neg (by omega), h1.1, h2.1]
                      · rw [show j / 2 * 2 + 1 = j by omega] at h1 h2
                        rw [if_pos (by omega), h2.2]
                    · have hs1 : (t.set i (lp, js))[j / 2]'(by rw [List.length_set]; exact hjl) = t[j / 2] := List.getElem_set_ne (fun e => he e.symm) _
                      rw [hs1] at h2
                      rw [if_neg (by omega)]
                      rcases Nat.mod_two_eq_zero_or_one j with e | e
                      · rw [show j / 2 * 2 = j by omega] at h1 h2
                        rw [h1.1, h2.1]
                      · rw [show j / 2 * 2 + 1 = j by omega] at h1 h2
                        rw [h1.2, h2.2]
                  refine (hO7.write (i * 2 + 1) [.string js] (by have := hO7.room; simp; omega) n hO7.room _ (by rw [fcells_len, List.length_set, ← HN.out]) (fun j hj h1 => ?_) (fun j hj h1 h2 => ?_) (fun j hj h1 => ?_)).own
                  · rw [hget j hj, if_neg (by omega), hO7.at' j hj]
                  · simp only [List.length_cons, List.length_nil] at h2
                    obtain rfl : j = i * 2 + 1 := by omega
                    rw [hget _ hj, if_pos rfl, Nat.sub_self]
                    rfl
                  · simp only [List.length_cons, List.length_nil] at h1
                    rw [hget j hj, if_neg (by omega), hO7.at' j hj]
                have HE7 : Hid (Ext w (w7.setCells g7 (o7 + (i * 2 + 1)) [.string js])) := X7.out.grownNew (by have h8 := hO7.low; have h9 := HSZ6.out; omega) (grownBy_setCells g7 _ _ w7)
                rw [← Nat.add_assoc] at HW HE7
                clear hO7 ho7 d7
                go_wp2_with fail
                go_ret2
                exact ⟨_, by rw [HF.out]; rfl, by rw [HF.out]; exact HW.out.mono HSZ6.out, HE7.out⟩
              · have HF : Hid (Z = ([], je)) := by unfold Hid; rw [HZ4.out, if_pos hj]
                have hj1 : (je == 0) = false := by simp [hj]
                have hj2 : (!(je == 0)) = true := by rw [hj1]; rfl
                clear HZ4 HJD HINS
                go_wp2_with fail
                go_ret2
                exact ⟨_, by rw [HF.out]; rfl, by rw [HF.out]; exact own_files_nil _ _, X6.out⟩
            · have HF : Hid (Z = ([], 1)) := by unfold Hid; rw [HZ4.out, if_pos hnl]
              rw [hnl] at HSP
              clear HZ4 hnl
              go_enter Tryz.func35, Tryz.ntmps35
              go_wp2_with fail
              refine hck.out.mono ?_
              rintro e w1 ⟨rfl, d1⟩
              have e0 := d1.keepc (cell_new w #[.string lp, .int .i64 (k : Int)] 45 0)
              have e1 := d1.keepc (cell_new w #[.string lp, .int .i64 (k : Int)] 45 1)
              go_wp2_with fail
              refine (HFD.out _ (HX0.out.trans d1)).mono ?_
              rintro e w2 ⟨rfl, d2⟩
              obtain ⟨bq, oq, hAq, cq⟩ := HCC.out w2 (HX0.out.trans (d1.trans d2))
              subst hAq
              replace e0 := d2.keepc e0
              replace e1 := d2.keepc e1
              go_wp2_with fail
              refine (HLN.out _ (HX0.out.trans (d1.trans d2))).mono ?_
              rintro e w3 ⟨v, rfl, ho, d3⟩
              replace e0 := d3.keepc e0
              replace e1 := d3.keepc e1
              have X3 : Hid (Ext w w3) := HX0.out.trans (d1.trans (d2.trans d3))
              have HB3 : Hid (w.heap.size < w2.heap.size) := by have h8 := (d1.trans d2).size; unfold Hid; simp at h8; omega
              clear d1 d2 d3
              obtain ⟨As, cs, rfl, _⟩ := StrsAt.of_own ho
              clear ho
              generalize ls.length = L at *
              have hd4 : decide (L ≤ k) = false := decide_eq_false hr2
              go_wp2_with fail
              refine (HSP.out _ X3.out).mono ?_
              rintro e w4 ⟨rfl, rfl⟩
              go_wp2_with fail
              go_ret2
              exact ⟨_, by rw [HF.out]; rfl, by rw [HF.out]; exact own_files_nil _ _, X3.out⟩
  · have HF : Hid (Z = ([], 1)) := by unfold Hid; rw [HZ.out, replE, if_pos h0]
    have hd0 : ((T.checkE okB t) == 0) = false := by simp [h0]
    generalize T.checkE okB t = y at hck h0 hd0
    have hd2 : (!(y == 0)) = true := by rw [hd0]; rfl
    clear HZ
    go_enter Tryz.func35, Tryz.ntmps35
    go_wp2_with fail
    refine hck.out.mono ?_
    rintro e w1 ⟨rfl, d1⟩
    go_wp2_with fail
    go_ret2
    exact ⟨_, by rw [HF.out]; rfl, by rw [HF.out]; exact own_files_nil _ _, HX0.out.trans d1⟩
end Go.Proofs.YtclhbcicbnoohaaGreatDoor
