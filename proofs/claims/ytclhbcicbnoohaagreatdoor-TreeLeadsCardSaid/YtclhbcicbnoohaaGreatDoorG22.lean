/- The texts Xl of the seat, joined. -/
import Derived.Test.YtclhbcicbnoohaaGreatDoorG21
/- The walk of TreeReplaces. -/
namespace Go.Proofs.YtclhbcicbnoohaaGreatDoor
open Go.RowKit

theorem OwnZ.keep {w w' : World} {base g off cap n : Nat} {cur : Array Value} {xs : List Value} (h : OwnZ w base g off cap cur n xs) (he : Ext w w') : OwnZ w' base g off cap cur n xs := by
  have hlt : g < w.heap.size := by
    rcases Nat.lt_or_ge g w.heap.size with h1 | h1
    · exact h1
    · have := h.row; rw [Array.getElem?_eq_none h1] at this; cases this
  exact ⟨h.len, h.low, (he.block g hlt).trans h.row, h.room, h.big, h.fits, h.at'⟩
theorem OwnZ.lt {w : World} {base g off cap n : Nat} {cur : Array Value} {xs : List Value} (h : OwnZ w base g off cap cur n xs) : g < w.heap.size := by
  rcases Nat.lt_or_ge g w.heap.size with h1 | h1
  · exact h1
  · have := h.row; rw [Array.getElem?_eq_none h1] at this; cases this
theorem OwnZ.slice {w : World} {base g off cap n : Nat} {cur : Array Value} {l : List ByteArray} (h : OwnZ w base g off cap cur n (strs l)) (hn : n = l.length) (hz : ∀ s ∈ l, s.size ≤ 9223372036854775807) : SliceAt strR w (Old w) (some ⟨g, off, none⟩) cap l := by
  obtain ⟨A, c, he, hs⟩ := own_strs_slice (show OwnStrs w base (.slice (some ⟨g, off, none⟩) n cap) l from by unfold OwnStrs; rw [← hn]; exact h.own) hz
  injection he with h1 h2 h3
  subst h1 h3
  exact hs
theorem line_val {w : World} {v : Value} {q : ByteArray × Int} (hs : ∃ cs, v = .agg cs) (h : (prodR strR (intR .i64)).val w q v) : v = .agg #[.string q.1, .int .i64 q.2] ∧ q.1.size ≤ 9223372036854775807 ∧ (Lit.int .i64 q.2).wf = true := by
  obtain ⟨cs, rfl⟩ := hs
  obtain ⟨⟨x, y, he, ⟨rfl, z1⟩, ⟨rfl, z2⟩⟩, _⟩ := h
  refine ⟨?_, z1, z2⟩
  have : cs.toList = [.string q.1, .int .i64 q.2] := he
  rw [show cs = cs.toList.toArray from Array.toArray_toList.symm, this]
theorem ok_sizes' {t : T.Tr} (h : T.Ok okB t) : ∀ f ∈ t, f.1.size ≤ 1000000 := fun f hf => by have := okB_size (h.path f hf); omega
/-- The line is put back. -/
theorem repl_back {t : T.Tr} {lp : ByteArray} {f : T.File} {L : List ByteArray} {k : Nat} {x dd : ByteArray} (hok : T.Ok okB t) (hf : T.findT t lp.data.toList = some f) (hfp : f.1 = lp) (hL : linesE f.2 = (L, 0)) (hk : k < L.length)
    (hj : joinE (L.set k x) = (dd, 0)) (hU : T.Ok okB (T.insT t (lp, dd))) :
    ∃ i, ∃ hi : i < t.length, t[i] = f ∧ T.insT t (lp, dd) = t.set i (lp, dd) ∧ replE (T.insT t (lp, dd)) lp k L[k] = (t, 0) := by
  obtain ⟨i, hix⟩ : ∃ i, T.idxT t lp.data.toList = some i := by
    cases hx9 : T.idxT t lp.data.toList with
    | none => have h9 := (T.idxT_no hx9).2; rw [hf] at h9; cases h9
    | some i => exact ⟨i, rfl⟩
  obtain ⟨hil, hie, _, hif⟩ := T.idxT_some hix
  have hti : t[i] = f := by rw [hf] at hif; exact (Option.some.inj hif).symm
  have hset : T.insT t (lp, dd) = t.set i (lp, dd) := (T.set_ins hok.sorted hil (show T.pth t[i] = T.pth (lp, dd) from hie)).symm
  refine ⟨i, hil, hti, hset, ?_⟩
  obtain ⟨hjl, hlp, hs1, hs2⟩ := join_lines hL
  have hld : linesE dd = (L.set k x, 0) := by
    have := lines_join (l := L.set k x) (by rw [hj])
    rwa [hj] at this
  have hlc : (L.set k x).length = L.length := List.length_set
  have hback : (L.set k x).set k L[k] = L := by
    rw [List.set_set]
    exact List.set_getElem_self hk
  have hcl : hasNl L[k] = false := parts_clean f.2 _ (by rw [← hlp]; exact List.getElem_mem hk)
  have hins : T.insT (T.insT t (lp, dd)) (lp, f.2) = t := by
    have hsr := hU.sorted
    rw [hset] at hsr ⊢
    have hi2 : i < (t.set i (lp, dd)).length := by rw [List.length_set]; exact hil
    rw [← T.set_ins hsr hi2 (show T.pth (t.set i (lp, dd))[i] = T.pth (lp, f.2) by rw [List.getElem_set_self]; rfl), List.set_set]
    have e : (lp, f.2) = t[i] := by rw [hti, ← hfp]
    rw [e]
    exact List.set_getElem_self hil
  unfold replE
  rw [if_neg (by rw [(T.ok_iff okB).2 hU]; simp), show T.findT (T.insT t (lp, dd)) lp.data.toList = some (lp, dd) from T.find_ins t (lp, dd)]
  simp only
  rw [hld]
  simp only
  rw [if_neg (by simp), if_neg (by rw [hlc]; omega), if_neg (by rw [hcl]; simp), Int.toNat_natCast, hback, hjl]
  simp only
  rw [if_neg (by simp), hins]

set_option maxRecDepth 100000 in
set_option maxHeartbeats 8000000 in
theorem treeReplaces_walk (v0 v1 v2 : Value) (t : T.Tr) (ln : ByteArray × Int) (x : ByteArray) (w : World) (hg : Gl w) (h1 : ∃ cs, v1 = .agg cs) (r0 : (sliceR fileR).val w t v0) (r1 : (prodR strR (intR .i64)).val w ln v1) (r2 : strR.val w x v2) (hb : BdT t) :
    Calls Tryz.prog 9 #[v0, v1, v2] w (Al (.bool true) w) := by
  obtain ⟨A, c, rfl, hS⟩ := val_slice r0
  obtain ⟨rfl, z1, z2⟩ := line_val h1 r1
  obtain ⟨rfl, hx⟩ := val_str r2
  obtain ⟨lp, N⟩ := ln
  simp only at z1 z2
  simp only
  obtain ⟨hN1, hN2⟩ := wf_i64 z2
  obtain ⟨n, hn⟩ : ∃ n, n = t.length := ⟨_, rfl⟩
  rw [← hn]
  have hn63 : n ≤ 9223372036854775807 := by have h8 := hS.1; have h9 := hS.2.1; omega
  have HG := Lib.hid hg
  have HN := Lib.hid hn
  have HS := Lib.hid hS
  have HAW := Lib.hid (fun W (h : Ext w W) => awake_any W (hg.ext h))
  have HFW := Lib.hid (fun W (h : Ext w W) => few_one t A n c W hn (hS.ext h) hb)
  have HR1 := Lib.hid (fun (hf : FewT t) (h2 : x.size ≤ 300) W (h : Ext w W) => Replace_any t A c n lp x N W hn (hS.ext h) hf.paths (hg.ext h) (by omega) hN1 hN2)
  have HRZ := Lib.hid (repl_szF t lp N x)
  have HF1 := Lib.hid (fun W (h : Ext w W) => Find_any t A c n lp W hn (hS.ext h))
  have HRC := Lib.hid (repl_cases t lp N x)
  obtain ⟨W1, hW1⟩ : ∃ W1, W1 = w.alloc (.cells #[.string lp, .int .i64 N] 45) := ⟨_, rfl⟩
  have a0 : W1.cell? ⟨w.heap.size, 0, none⟩ = some (.string lp) := by rw [hW1]; exact cell_new w #[.string lp, .int .i64 N] 45 0
  have a1 : W1.cell? ⟨w.heap.size, 1, none⟩ = some (.int .i64 N) := by rw [hW1]; exact cell_new w #[.string lp, .int .i64 N] 45 1
  have X1 : Ext w W1 := by rw [hW1]; exact (Ext.refl w).alloc _
  have HX1 := Lib.hid X1
  have KA0 := Lib.hid a0
  have KA1 := Lib.hid a1
  clear hn hS h1 r0 r1 r2 hg hb X1 z2
  go_enter Tryz.func9, Tryz.ntmps9
  go_wp2_with fail
  rw [← hW1]
  clear hW1 a0 a1
  refine (HAW.out _ HX1.out).mono ?_
  rintro e2 w2 ⟨rfl, d2⟩
  have HD2 := Lib.hid d2
  clear d2 HAW
  go_wp2_with fail
  refine (HFW.out _ (HX1.out.trans HD2.out)).mono ?_
  rintro e3 w3 ⟨d3, b, rfl, hb⟩
  have HD3 := Lib.hid (HD2.out.trans d3)
  clear d3 HD2 HFW
  cases b with
  | false =>
    clear hb
    go_wp2_with fail
    go_ret
    exact ⟨rfl, HX1.out.trans HD3.out⟩
  | true =>
    have HFO := Lib.hid (hb rfl)
    clear hb
    by_cases hx3 : 300 < x.size
    · go_wp2_with fail
      go_ret
      exact ⟨rfl, HX1.out.trans HD3.out⟩
    have hxs : x.size ≤ 300 := by omega
    have a0 := HD3.out.keepc KA0.out
    have a1 := HD3.out.keepc KA1.out
    go_wp2_with fail
    refine (HR1.out HFO.out hxs _ (HX1.out.trans HD3.out)).mono ?_
    intro e4 w4 hr
    obtain ⟨A4, n4, c4, rfl, hn4, hS4, d4⟩ := retTr_any hr HRZ.out
    have HD4 := Lib.hid (HD3.out.trans d4)
    have HS4 := Lib.hid hS4
    have HN4 := Lib.hid hn4
    clear hr d4 hS4 hn4 HD3 HR1 HRZ a0 a1
    rcases HRC.out with ⟨re, hrz, hre⟩ | ⟨hok, f, L, k, dd, hf, hfp, hL, rfl, hk, hnl, hj, hds, hrz, hU⟩
    · rw [hrz] at HN4
      rw [hrz]
      obtain rfl : n4 = 0 := HN4.out
      have hrf : (re == 0) = false := by simpa using hre
      have hrt : (re != 0) = true := by rw [bne, hrf]; rfl
      clear hrz hre HRC HN4 HS4
      go_wp2_with fail
      go_ret
      exact ⟨rfl, HX1.out.trans HD4.out⟩
    obtain ⟨i0, hi0, hti, hset, hbk⟩ := repl_back hok hf hfp hL hk hj hU
    rw [hrz] at HN4 HS4
    rw [hrz]
    simp only at HN4 HS4
    have hn4' : n4 = n := by
      have h8 := HN4.out
      rw [hset, List.length_set] at h8
      rw [h8, HN.out]
    subst hn4'
    have hfU : findV (T.insT t (lp, dd)) lp = .tuple #[.string dd, .bool true] := findV_some (f := (lp, dd)) (T.find_ins t (lp, dd))
    obtain ⟨hjl, hlp, hs1, hs2⟩ := join_lines hL
    have hld : linesE dd = (L.set k x, 0) := by
      have := lines_join (l := L.set k x) (by rw [hj])
      rwa [hj] at this
    obtain ⟨q, hq⟩ : ∃ q, q = L.length := ⟨_, rfl⟩
    have hkq : k < q := by omega
    have hqs : q ≤ 1024 := by omega
    have hlz : ∀ s ∈ L, s.size ≤ 65536 := fun s hs => by have := parts_sizes 10 f.2 s (by rw [← hlp]; exact hs); omega
    have hmz : ∀ s ∈ L.set k x, s.size ≤ 65536 := fun s hs => by
      rcases List.mem_or_eq_of_mem_set hs with h | h
      · exact hlz s h
      · rw [h]; omega
    have HF1V := Lib.hid (fun W (h : Ext w W) => HF1.out W h)
    rw [findV_some hf] at HF1V
    have HFUV := Lib.hid (fun W (h : Ext w4 W) => Find_any (T.insT t (lp, dd)) A4 c4 n4 lp W HN4.out (HS4.out.ext h))
    rw [hfU] at HFUV
    have HLA := Lib.hid (fun W (h : Ext w W) => Lines_any f.2 W (by omega) (HG.out.ext h))
    rw [hL] at HLA
    have HLB := Lib.hid (fun W (h : Ext w W) => Lines_any dd W (by omega) (HG.out.ext h))
    rw [hld] at HLB
    have HQ := Lib.hid hq
    obtain ⟨y, hy⟩ : ∃ y, L[k] = y := ⟨_, rfl⟩
    rw [hy] at hbk
    have hys : y.size ≤ 65536 := by rw [← hy]; exact hlz _ (List.getElem_mem hk)
    have HLK : Hid (L[k]? = some y) := by unfold Hid; rw [List.getElem?_eq_getElem hk, hy]
    have HMK : Hid ((L.set k x)[k]? = some x) := by unfold Hid; rw [List.getElem?_eq_getElem (by rw [List.length_set]; exact hk), List.getElem_set_self]
    have HSB : Hid ((L.set k x).set k y = L) := by unfold Hid; rw [List.set_set, ← hy]; exact List.set_getElem_self hk
    have HJV := Lib.hid (show joinV (L.set k x) = .tuple #[.string dd, .int .i64 0] by unfold joinV; rw [hj])
    have HBK := Lib.hid hbk
    have HUO := Lib.hid hU
    have HOK := Lib.hid hok
    have HLZ := Lib.hid hlz
    have HMZ := Lib.hid hmz
    have HSET := Lib.hid hset
    have HI0 := Lib.hid hi0
    have HTI : Hid (t[i0]?.map (·.1) = some lp) := by unfold Hid; rw [List.getElem?_eq_getElem hi0, hti]; exact congrArg some hfp
    have HNL := Lib.hid hnl
    generalize hfd : f.2 = fd at *
    clear hrz HRC hf hfp hL hk hj hds hok hU hti hset hbk hi0 hfU hjl hlp hs1 hs2 hld hq hlz hmz HF1 hfd hy hnl
    have a0 := HD4.out.keepc KA0.out
    go_wp2_with fail
    refine (HF1V.out _ (HX1.out.trans HD4.out)).mono ?_
    rintro e5 w5 ⟨rfl, d5⟩
    have HE5 := Lib.hid d5
    clear d5 a0 HF1V
    have a0 := HE5.out.keepc (HD4.out.keepc KA0.out)
    go_wp2_with fail
    refine (HFUV.out _ HE5.out).mono ?_
    rintro e6 w6 ⟨rfl, d6⟩
    have HE6 := Lib.hid (HE5.out.trans d6)
    clear d6 a0 HFUV HE5
    go_wp2_with fail
    refine (HLA.out _ (HX1.out.trans (HD4.out.trans HE6.out))).mono ?_
    intro e7 w7 hr
    obtain ⟨A7, n7, c7, rfl, hn7, hS7, d7⟩ := retL_any hr (fun s hs => by have := HLZ.out s hs; omega)
    have hn7' : n7 = q := by rw [HQ.out]; exact hn7
    subst hn7'
    have HE7 := Lib.hid (HE6.out.trans d7)
    have HS7 := Lib.hid (show SliceAt strR w7 (Old w7) A7 c7 L from hS7)
    clear hr d7 hS7 hn7 HLA HE6
    go_wp2_with fail
    refine (HLB.out _ (HX1.out.trans (HD4.out.trans HE7.out))).mono ?_
    rintro e8 w8 ⟨v8, rfl, ho8, d8⟩
    have ho8' : OwnAt w8 w7.heap.size 9 1 v8 n7 (strs (L.set k x)) := by
      have h8 : OwnAt w8 w7.heap.size 9 1 v8 (L.set k x).length (strs (L.set k x)) := ho8
      rwa [List.length_set, ← HQ.out] at h8
    obtain ⟨g, off, cap, cur, rfl, hO⟩ := ownZ_of ho8' (by omega)
    have HO := Lib.hid hO
    have HF8 := Lib.hid d8
    have HE8 := Lib.hid (HE7.out.trans d8)
    clear ho8 ho8' hO d8 HLB
    have HML : Hid (n7 = (L.set k x).length) := by unfold Hid; rw [List.length_set]; exact HQ.out
    have HSM := Lib.hid (HO.out.slice HML.out (fun s hs => by have := HMZ.out s hs; omega))
    have a0 := HE8.out.keepc (HD4.out.keepc KA0.out)
    have a1 := HE8.out.keepc (HD4.out.keepc KA1.out)
    obtain ⟨g1, o1, hge, _, cx, _⟩ := str_get HSM.out (k := k) (by rw [← HML.out]; exact hkq)
    have hge' : g1 = g ∧ o1 = off := by injection hge with hge; injection hge with h1 h2; exact ⟨h1.symm, h2.symm⟩
    obtain ⟨rfl, rfl⟩ := hge'
    have hmk : (L.set k x)[k]'(by rw [← HML.out]; exact hkq) = x := by
      have h8 := HMK.out
      rw [List.getElem?_eq_getElem (by rw [← HML.out]; exact hkq)] at h8
      exact Option.some.inj h8
    rw [hmk] at cx
    clear hge hmk
    obtain ⟨g7, o7, hA7, _, cy, _⟩ := str_get HS7.out (k := k) (by rw [← HQ.out]; exact hkq)
    have hly : L[k]'(by rw [← HQ.out]; exact hkq) = y := by
      have h8 := HLK.out
      rw [List.getElem?_eq_getElem (by rw [← HQ.out]; exact hkq)] at h8
      exact Option.some.inj h8
    rw [hly] at cy
    subst hA7
    have KCY := Lib.hid cy
    have HJM := Lib.hid (fun W (h : Ext w8 W) => Join_any (L.set k x) (some ⟨g1, o1, none⟩) cap n7 W HML.out (HSM.out.ext h) (by omega) (fun s hs => by have := HMZ.out s hs; omega) (HG.out.ext ((HX1.out.trans (HD4.out.trans HE8.out)).trans h)))
    rw [HJV.out] at HJM
    have HRB := Lib.hid (fun W (h : Ext w4 W) => Replace_any (T.insT t (lp, dd)) A4 c4 n4 lp y k W HN4.out (HS4.out.ext h) (ok_sizes' HUO.out) (HG.out.ext ((HX1.out.trans HD4.out).trans h)) (by omega) (by omega) (by omega))
    rw [HBK.out] at HRB
    clear hly cy
    go_wp2_with fail
    refine (HJM.out _ (Ext.refl _)).mono ?_
    rintro e9 w9 ⟨rfl, d9⟩
    have HF9 := Lib.hid d9
    have HE9 := Lib.hid (HE8.out.trans d9)
    clear d9 HJM a0 a1 cx
    go_wp2_with fail
    obtain ⟨Φ, hΦ⟩ : ∃ Φ : World → Prop, ∀ z, Φ z ↔ Ext w9 z := ⟨_, fun _ => Iff.rfl⟩
    have h0 : Φ w9.drew := (hΦ _).2 ((Ext.refl w9).drew)
    have fa0 : ∀ z : Lat Φ, z.w'.cell? ⟨w.heap.size, 0, none⟩ = some (.string lp) := fun z => ((hΦ _).1 z.h).keepc (HE9.out.keepc (HD4.out.keepc KA0.out))
    have fa1 : ∀ z : Lat Φ, z.w'.cell? ⟨w.heap.size, 1, none⟩ = some (.int .i64 k) := fun z => ((hΦ _).1 z.h).keepc (HE9.out.keepc (HD4.out.keepc KA1.out))
    have fa2 : ∀ z : Lat Φ, z.w'.cell? ⟨g7, o7 + k, none⟩ = some (.string y) := fun z => ((hΦ _).1 z.h).keepc (HF9.out.keepc (HF8.out.keepc KCY.out))
    have hne := Lat.some h0
    have HΦ := Lib.hid hΦ
    clear hΦ
    refine wp_region_lat [7] Φ h0 (by kernel_rfl) (by kernel_rfl) (by kernel_rfl) ?_
    iterate 7 (refine lex_pure rfl rfl rfl ?_; intro K hK; go_big_quiet_op; go_big_quiet_on)
    refine lex_eff rfl ?_
    go_wp2_with fail
    refine (HRB.out _ (HE9.out.drew)).mono ?_
    rintro e10 w10 ⟨v10, rfl, ho10, d10⟩
    obtain ⟨n10, A10, c10, hn10, rfl, hoa⟩ := own_files_q ho10
    have hn10' : n10 = n4 := by rw [HN.out]; exact hn10
    subst hn10'
    have HOB : Hid (OwnAt w10 w9.heap.size 25 2 (.slice A10 n10 c10) n10 (fcells t)) := hoa
    have HF10 := Lib.hid ((Ext.refl w9).drew.trans d10)
    clear ho10 hoa d10 hn10 HRB
    go_wp2_with fail
    refine ⟨⟨⟨w10, (HΦ.out w10).2 HF10.out⟩, rfl⟩, ?_⟩
    repeat (refine lex_pure rfl rfl rfl ?_; intro K hK; go_big_quiet_op; go_big_quiet_on)
    refine lex_nil ?_
    clear fa0 fa1 fa2 hne h0 HΦ
    have HE10 := Lib.hid (HE9.out.trans HF10.out)
    have hn64 : n10 ≤ 64 := by rw [HN.out]; exact HOK.out.few
    go_wp2_with fail
    go_loopw [136] (fun i wr => ∃ j : Nat, j ≤ n10 ∧ i = .int .i64 j ∧ Hid (Ext w10 wr)) (fun i _ => n10 - (intOf i).toNat)
    case atStart => exact ⟨0, Nat.zero_le _, rfl, Ext.refl _⟩
    case round =>
      obtain ⟨j, hj, rfl, HX⟩ := hrel
      by_cases hlt : j < n10
      · have hjl : j < t.length := by rw [← HN.out]; exact hlt
        have hjU : j < (T.insT t (lp, dd)).length := by rw [← HN4.out]; exact hlt
        obtain ⟨b, off, hAe, _, ca0, ca1, za1, za2⟩ := file_get (HS.out.ext (HX1.out.trans (HD4.out.trans (HE10.out.trans HX.out)))) hjl
        obtain ⟨b2, off2, hBe, _, cb0, cb1, zb1, zb2⟩ := file_get (HS4.out.ext (HE10.out.trans HX.out)) hjU
        subst hAe hBe
        rw [← Nat.add_assoc] at ca1 cb1
        have cl0 := HX.out.keepc (HE10.out.keepc (HD4.out.keepc KA0.out))
        by_cases hji : j = i0
        · have e1 : (T.insT t (lp, dd))[j] = (lp, dd) := by
            have h8 : (T.insT t (lp, dd))[j]? = some (lp, dd) := by rw [HSET.out, hji, List.getElem?_set_self HI0.out]
            rw [List.getElem?_eq_getElem hjU] at h8
            exact Option.some.inj h8
          have e2 : t[j].1 = lp := by
            have h8 := HTI.out
            rw [← hji, List.getElem?_eq_getElem hjl] at h8
            exact Option.some.inj h8
          rw [e1] at cb0 cb1
          rw [e2] at ca0
          simp only at cb0 cb1
          generalize t[j].2 = fd1 at *
          clear e1 e2 hji
          go_wp2_with fail
          go_quiet (fail)
          go_wp2_with fail
          go_roundw
          case rel => exact ⟨j + 1, by omega, by go_num, HX.out.drewN _⟩
          case measure => simp [intOf]; omega
        · have e1 : (T.insT t (lp, dd))[j] = t[j] := by
            have h8 : (T.insT t (lp, dd))[j]? = t[j]? := by rw [HSET.out, List.getElem?_set_ne (fun e => hji e.symm)]
            rw [List.getElem?_eq_getElem hjU, List.getElem?_eq_getElem hjl] at h8
            exact Option.some.inj h8
          have e2 : ¬ t[j].1 = lp := fun e => by
            have h8 := HTI.out
            rw [List.getElem?_eq_getElem HI0.out] at h8
            have hp1 : T.pth (t[j]'hjl) = lp.data.toList := congrArg (fun s : ByteArray => s.data.toList) e
            have hp2 : T.pth (t[i0]'HI0.out) = lp.data.toList := congrArg (fun s : ByteArray => s.data.toList) (Option.some.inj h8)
            refine hji ?_
            rcases Nat.lt_trichotomy j i0 with h | h | h
            · have h1 := T.srt_lt HOK.out.sorted hjl HI0.out h
              rw [hp1, hp2] at h1
              exact absurd h1 (T.lt_irrefl _)
            · exact h
            · have h1 := T.srt_lt HOK.out.sorted HI0.out hjl h
              rw [hp1, hp2] at h1
              exact absurd h1 (T.lt_irrefl _)
          rw [e1] at cb0 cb1
          generalize t[j] = f at *
          obtain ⟨fp, fd1⟩ := f
          simp only at ca0 ca1 cb0 cb1 e2
          have hpf : (fp.toList == lp.toList) = false := by
            rw [eq_dec]
            exact decide_eq_false fun e => e2 (bytes_of e)
          have hpt : (fp.toList != lp.toList) = true := by rw [bne, hpf]; rfl
          have hne := fun W => neq_file W fp fd1 fp fd1
          have hbb : ((fp.toList == fp.toList) && (fd1.toList == fd1.toList)) = true := by simp
          simp only [hbb, Bool.not_true] at hne
          clear e1 e2 hji hbb
          go_wp2_with fail
          go_quiet (fail)
          go_wp2_with fail
          go_roundw
          case rel => exact ⟨j + 1, by omega, by go_num, HX.out.drewN _⟩
          case measure => simp [intOf]; omega
      · have HEW := Lib.hid (HE10.out.trans HX.out)
        have HFW8 := Lib.hid (HF9.out.trans (HF10.out.trans HX.out))
        have HOZ := Lib.hid (HO.out.keep (HFW8.out.drew))
        obtain ⟨xx, hxx⟩ := Option.isSome_iff_exists.1 (HOZ.out.there (j := k) (by have := HOZ.out.room; omega))
        have hfz := HOZ.out.free (o1 + k)
        have cl1 := HEW.out.drew.keepc (HD4.out.keepc KA1.out)
        have cy := HFW8.out.drew.keepc (HF8.out.keepc KCY.out)
        go_wp2_with fail
        obtain ⟨Φ, hΦ⟩ : ∃ Φ : World → Prop, ∀ z, Φ z ↔ z = wr.drew := ⟨_, fun _ => Iff.rfl⟩
        have h0 : Φ wr.drew := (hΦ _).2 rfl
        have fx0 : ∀ z : Lat Φ, z.w'.cell? ⟨w.heap.size, 1, none⟩ = some (.int .i64 k) := fun z => by rw [(hΦ _).1 z.h]; exact cl1
        have fx1 : ∀ z : Lat Φ, z.w'.cell? ⟨g7, o7 + k, none⟩ = some (.string y) := fun z => by rw [(hΦ _).1 z.h]; exact cy
        have hne := Lat.some h0
        clear hΦ
        refine wp_region_tail 8 [] Φ h0 (by kernel_rfl) (by kernel_rfl) (by kernel_rfl) ?_
        simp only [List.take_succ_cons, List.take_zero, List.drop_succ_cons, List.drop_zero]
        iterate 8 (refine lex_pure rfl rfl rfl ?_; intro K hK; go_big_quiet_op; go_big_quiet_on)
        refine lex_nil ?_
        clear fx0 fx1 hne h0
        have HOS := Lib.hid (HOZ.out.setOne HML.out hkq y)
        rw [HSB.out] at HOS
        have hlow : w7.heap.size ≤ g1 := HO.out.low
        have hg9 : g1 < w9.heap.size := Nat.lt_of_lt_of_le HO.out.lt HF9.out.size
        have HE22 : Hid (Ext w7 (wr.drew.setCells g1 (o1 + k) [.string y])) := by
          refine Ext.grownNew (b := wr.drew) ?_ hlow (grownBy_setCells g1 _ _ wr.drew)
          exact HF8.out.trans (HFW8.out.drew)
        have HBO : Hid (OwnFiles (wr.drew.setCells g1 (o1 + k) [.string y]) w9.heap.size (.slice A10 n10 c10) t) := by
          have h8 : OwnAt wr.drew w9.heap.size 25 2 (.slice A10 n10 c10) n10 (fcells t) := HOB.out.ext (HX.out.drew)
          unfold OwnFiles Hid
          rw [← HN.out]
          refine h8.keep fun g hg hlt => ?_
          refine (grownBy_setCells g1 [.string y] (o1 + k) wr.drew).block g hlt fun e => ?_
          have := (own_at_lt h8 hg).1
          have e := Option.some.inj e
          omega
        obtain ⟨W, hW⟩ : ∃ W, W = wr.drew.setCells g1 (o1 + k) [.string y] := ⟨_, rfl⟩
        rw [← hW] at HOS HE22 HBO
        have HX22 := Lib.hid (HX1.out.trans (HD4.out.trans (HE7.out.trans HE22.out)))
        obtain ⟨B22, c22, hb22, hs22⟩ := own_files_slice HBO.out (ok_szF HOK.out)
        obtain ⟨B23, c23, hb23, hs23⟩ := own_strs_slice HOS.out (fun s hs => by have := HLZ.out s hs; omega)
        injection hb22 with q1 q2 q3
        injection hb23 with q4 q5 q6
        subst q1 q3 q4 q6
        have HEQ1 := Lib.hid (eq_self t A10 A c10 c n10 n10 W HN.out HN.out hs22 (HS.out.ext HX22.out))
        have HEQ2 := Lib.hid (fun V (h : Ext W V) => EqS_same L (some ⟨g1, o1, none⟩) (some ⟨g7, o7, none⟩) cap c7 n7 n7 V HQ.out HQ.out (hs23.ext h) ((HS7.out.ext HE22.out).ext h))
        have HCN : Hid (∀ V, Ext W V → Calls Tryz.prog 41 #[.string x, .string ⟨#[10]⟩] V fun e w' => e = .returned (.bool false) ∧ w' = V) := fun V hV => by
          obtain ⟨⟨m, hm⟩, _⟩ := HG.out.ext (HX22.out.trans hV)
          have h9 := Tryz.strings_Contains x ⟨#[10]⟩ m V (by omega) hm
          rwa [show Lib.contains x.data.toList (⟨#[10]⟩ : ByteArray).data.toList = hasNl x from contains_nl x, HNL.out] at h9
        clear hs22 hs23 q2 q5 hlow hg9 HOS HBO
        go_wp2_with fail
        rw [show (World.setCell wr ⟨g1, o1 + k, none⟩ (.string y)).drew = W from hW.symm]
        clear hW
        refine HEQ1.out.mono ?_
        rintro e20 w20 ⟨rfl, d20⟩
        have HZ20 := Lib.hid d20
        clear d20 HEQ1 cl1 cy hxx hfz
        go_wp2_with fail
        refine (HEQ2.out _ HZ20.out).mono ?_
        rintro e21 w21 ⟨rfl, d21⟩
        have HZ21 := Lib.hid (HZ20.out.trans d21)
        clear d21 HEQ2 HZ20
        go_wp2_with fail
        refine (HCN.out _ HZ21.out).mono ?_
        rintro e22 w22 ⟨rfl, rfl⟩
        go_wp2_with fail
        go_ret
        exact ⟨rfl, HX22.out.trans HZ21.out⟩
end Go.Proofs.YtclhbcicbnoohaaGreatDoor
