/- The texts Rc of the seat, joined. -/
import Derived.Test.YtjimgkefacnamaaGreatDoorG8
/- The reference's Reader: Count, Number, Text, Close. -/
namespace Go.Proofs.YtjimgkefacnamaaGreatDoor
open Go.RowKit Go.Maps Go.ChangeMaps

def RetCt (l : C.Bs) (o : Option (Nat × C.Bs)) (e : Ending) : Prop := match o with
  | some (n, q) => ∃ k : Nat, k < l.length ∧ l.drop (k + 1) = q ∧ e = .returned (.tuple #[.int .i64 n, .int .i64 k, .bool false])
  | none => ∃ sh : Bool, e = .returned (.tuple #[.int .i64 0, .int .i64 (-1), .bool sh])
theorem retCt_some {l q : C.Bs} {o : Option (Nat × C.Bs)} {n k : Nat} (h : o = some (n, q)) (hk : k < l.length) (hd : l.drop (k + 1) = q) : RetCt l o (.returned (.tuple #[.int .i64 n, .int .i64 k, .bool false])) := by
  rw [h]; exact ⟨k, hk, hd, rfl⟩
theorem retCt_none {l : C.Bs} {o : Option (Nat × C.Bs)} {sh : Bool} (h : o = none) : RetCt l o (.returned (.tuple #[.int .i64 0, .int .i64 (-1), .bool sh])) := by
  rw [h]; exact ⟨sh, rfl⟩

set_option maxRecDepth 8000 in
set_option maxHeartbeats 4000000 in
theorem Count_any (e : UInt8) (he : e.toNat < 48 ∨ 57 < e.toNat) (most : Nat) (hm : most ≤ 281474976710656) (r : ByteArray) (w : World) (hr : r.size ≤ 9000000000000000000) :
    Calls Tryz.prog 93 #[.string r, .int .i64 most, .int .u8 e.toNat] w fun en w' => RetCt r.data.toList (C.cnt e most r.data.toList 0 0) en ∧ w = w' := by
  have hl : r.data.toList.length = r.size := by simp
  have HL := Lib.hid hl
  have HE := Lib.hid he
  obtain ⟨O, hO⟩ : ∃ O, O = C.cnt e most r.data.toList 0 0 := ⟨_, rfl⟩
  rw [← hO]
  have HO : Hid (C.cnt e most (r.data.toList.drop 0) 0 0 = O) := by rw [List.drop_zero]; exact hO.symm
  have heb : e.toNat ≤ 255 := by have := e.toNat_lt; omega
  clear hl he hO
  go_enter Tryz.func93, Tryz.ntmps93
  go_wp2_with fail
  go_loop [9, 10] (fun nv iv => ∃ n i : Nat, i ≤ r.size ∧ n ≤ most ∧ nv = .int .i64 n ∧ iv = .int .i64 i ∧ Hid (C.cnt e most (r.data.toList.drop i) i n = O ∧ (n = 0 → i ≤ 1))) (fun _ iv => r.size - (intOf iv).toNat)
  case atStart => exact ⟨0, 0, Nat.zero_le _, Nat.zero_le _, rfl, rfl, HO.out, fun _ => by omega⟩
  case round =>
    obtain ⟨n, i, hi, hn, rfl, rfl, HK⟩ := hrel
    by_cases hlt : i < r.size
    · have hb0 : r[i].toNat ≤ 255 := by have := r[i].toNat_lt; omega
      rcases cnt_ways HE.out (most := most) (n := n) hlt with ⟨h1, h2, h3⟩ | ⟨h1, h2, h3⟩ | ⟨h1, h2, h3⟩ | ⟨h1, h2, h3, rfl, rfl, h4⟩ | ⟨h1, h2, h3, h4, h5, h6⟩ | ⟨h1, h2, h3, h4, h5, h6⟩
      · have HS : Hid (O = some (n, r.data.toList.drop (i + 1))) := HK.out.1.symm.trans h3.out
        clear h3
        go_wp2_with fail
        refine bodyPost_ret (v := .tuple #[.int .i64 n, .int .i64 i, .bool false]) (by simp [results, Tryz.results93, go_sem]) rfl ⟨retCt_some HS.out (by have := HL.out; omega) rfl, rfl⟩
      · have HS : Hid (O = none) := HK.out.1.symm.trans h3.out
        clear h3
        rcases h1 with rfl | h1
        all_goals
          go_wp2_with fail
          all_goals refine bodyPost_ret (v := .tuple #[.int .i64 0, .int .i64 (-1), .bool false]) (by simp [results, Tryz.results93, go_sem]) rfl ⟨retCt_none HS.out, rfl⟩
      · have HS : Hid (O = none) := HK.out.1.symm.trans h3.out
        clear h3
        rcases h1 with rfl | h1
        all_goals
          go_wp2_with fail
          all_goals refine bodyPost_ret (v := .tuple #[.int .i64 0, .int .i64 (-1), .bool false]) (by simp [results, Tryz.results93, go_sem]) rfl ⟨retCt_none HS.out, rfl⟩
      · have HS : Hid (O = none) := HK.out.1.symm.trans h4.out
        clear h4
        go_wp2_with fail
        refine bodyPost_ret (v := .tuple #[.int .i64 0, .int .i64 (-1), .bool false]) (by simp [results, Tryz.results93, go_sem]) rfl ⟨retCt_none HS.out, rfl⟩
      · have HS : Hid (O = none) := HK.out.1.symm.trans h6.out
        have hz := HK.out.2
        clear h6
        by_cases hi0 : i = 0
        · subst hi0
          clear h4 hz
          go_wp2_with fail
          all_goals refine bodyPost_ret (v := .tuple #[.int .i64 0, .int .i64 (-1), .bool false]) (by simp [results, Tryz.results93, go_sem]) rfl ⟨retCt_none HS.out, rfl⟩
        · have hn0 : ((n : Int) == 0) = false := beq_eq_false_iff_ne.2 (by omega)
          have hi1 : 0 < i := by omega
          clear h4 hz hi0
          go_wp2_with fail
          all_goals refine bodyPost_ret (v := .tuple #[.int .i64 0, .int .i64 (-1), .bool false]) (by simp [results, Tryz.results93, go_sem]) rfl ⟨retCt_none HS.out, rfl⟩
      · have HS : Hid (C.cnt e most (r.data.toList.drop (i + 1)) (i + 1) (10 * n + (r[i].toNat - 48)) = O) := h6.out.symm.trans HK.out.1
        have hz := HK.out.2
        clear h6
        by_cases hi0 : i = 0
        · subst hi0
          clear h4 hz
          go_wp2_with fail
          exact ⟨⟨10 * n + (r[0].toNat - 48), 1, by omega, h5, vint (by omega), vint (by omega), HS.out, fun _ => by omega⟩, by simp [intOf]; omega⟩
        · have hn0 : ((n : Int) == 0) = false := beq_eq_false_iff_ne.2 (by omega)
          have hn1 : n ≠ 0 := by omega
          have hi1 : 0 < i := by omega
          have HN1 := Lib.hid hn1
          clear h4 hz hi0 hn1
          go_wp2_with fail
          exact ⟨⟨10 * n + (r[i].toNat - 48), i + 1, by omega, h5, vint (by omega), vint (by omega), HS.out, fun h => by have := HN1.out; omega⟩, by simp [intOf]; omega⟩
    · have HS : Hid (O = none) := by
        unfold Hid
        have := HK.out.1
        rw [List.drop_eq_nil_of_le (by have := HL.out; omega)] at this
        rw [← this, C.cnt]
      have hin : i = r.size := by omega
      subst hin
      go_wp2_with fail
      refine bodyPost_ret (v := .tuple #[.int .i64 0, .int .i64 (-1), .bool true]) (by simp [results, Tryz.results93, go_sem]) rfl ⟨retCt_none HS.out, rfl⟩

set_option maxHeartbeats 1000000 in
theorem fail_rr (er : Int) (he : er ≠ 0) (l : C.Bs) (b : Nat) (w : World) (h : RdT 122 w b (some l)) :
    Calls Tryz.prog 94 #[.pointer (some ⟨b, 0, none⟩), .int .i64 er] w fun en w' => en = .returned (.tuple #[]) ∧ RdT 122 w' b none ∧ w.grownBy w' (some b) := by
  obtain ⟨r, er0, hb, _, rfl, _⟩ := h
  have c0 : w.cell? ⟨b, 0, none⟩ = some (.string r) := cell_of_row w b 0 _ _ _ hb
  have c1 : w.cell? ⟨b, 1, none⟩ = some (.int .i64 0) := cell_of_row w b 1 _ _ _ hb
  have f0 : w.frozen? ⟨b, 0, none⟩ = false := Lib.frozen_of_heap hb 0
  have f1 : w.frozen? ⟨b, 1, none⟩ = false := Lib.frozen_of_heap hb 1
  have HB := Lib.hid hb
  clear hb
  go_enter Tryz.func94, Tryz.ntmps94
  go_wp2_with fail
  go_end0
  exact ⟨rfl, ⟨_, er, heap_set1 (heap_set0 HB.out _) _, by decide, he⟩, grownBy_trans (grown_set _ _ _ _) (grown_set _ _ _ _)⟩

set_option maxRecDepth 8000 in
set_option maxHeartbeats 4000000 in
theorem Number_rr (low high : Int) (st : Option C.Bs) (b : Nat) (w : World) (h : RdT 122 w b st) :
    Calls Tryz.prog 63 #[.pointer (some ⟨b, 0, none⟩), .int .i64 low, .int .i64 high] w (RetN 122 w b (nN low high st)) := by
  cases st with
  | none =>
    have HH := Lib.hid h
    obtain ⟨r, er, hb, hr, hE⟩ := h
    have c1 : w.cell? ⟨b, 1, none⟩ = some (.int .i64 er) := cell_of_row w b 1 _ _ _ hb
    have he : (er != 0) = true := by simpa using hE
    clear hb hE
    go_enter Tryz.func63, Tryz.ntmps63
    go_wp2_with fail
    go_ret
    exact ⟨rfl, HH.out, World.grownBy.refl w _⟩
  | some l =>
    have HH := Lib.hid h
    obtain ⟨r, er, hb, hr, rfl, hl⟩ := h
    have c0 : w.cell? ⟨b, 0, none⟩ = some (.string r) := cell_of_row w b 0 _ _ _ hb
    have c1 : w.cell? ⟨b, 1, none⟩ = some (.int .i64 0) := cell_of_row w b 1 _ _ _ hb
    have f0 : w.frozen? ⟨b, 0, none⟩ = false := Lib.frozen_of_heap hb 0
    have HC := Lib.hid (Count_any 59 (by decide) 281474976710656 (by decide) r w hr)
    have HF := Lib.hid (fun er he => fail_rr er he l b w HH.out)
    have HB := Lib.hid hb
    have hlen : r.data.toList.length = r.size := by simp
    have HLEN := Lib.hid hlen
    rw [hl] at HC
    have HL := Lib.hid hl
    clear hb hl hlen
    cases hcnt : C.cnt 59 281474976710656 l 0 0 with
    | none =>
      have HN := Lib.hid (pNum_none (low := low) (high := high) hcnt)
      rw [hcnt] at HC
      clear hcnt
      generalize nN low high (some l) = R at HN ⊢
      go_enter Tryz.func63, Tryz.ntmps63
      go_wp2_with fail
      refine HC.out.mono ?_
      rintro e w1 ⟨⟨sh, rfl⟩, rfl⟩
      cases sh
      all_goals
        go_wp2_with fail
        refine (HF.out _ (by decide)).mono ?_
        rintro e w2 ⟨rfl, h2, h3⟩
        have H2 := Lib.hid h2
        have H3 := Lib.hid h3
        clear h2 h3
        go_wp2_with fail
        go_ret
        unfold RetN
        rw [HN.out]
        exact ⟨rfl, H2.out, H3.out⟩
    | some x =>
      obtain ⟨n, q⟩ := x
      have hn2 : n ≤ 281474976710656 := (C.cnt_read hcnt).2
      by_cases hin : low ≤ (n : Int) ∧ (n : Int) ≤ high
      · have HN := Lib.hid (pNum_some hcnt hin)
        rw [hcnt] at HC
        obtain ⟨hi1, hi2⟩ := hin
        clear hcnt
        generalize nN low high (some l) = R at HN ⊢
        go_enter Tryz.func63, Tryz.ntmps63
        go_wp2_with fail
        refine HC.out.mono ?_
        rintro e w1 ⟨⟨k, hk, hq, rfl⟩, rfl⟩
        have hk2 : k < r.size := by rw [← HL.out] at hk; have := HLEN.out; omega
        have HQ := Lib.hid hq
        clear hk hq
        go_wp2_with fail
        go_ret
        unfold RetN
        rw [HN.out]
        refine ⟨rfl, ⟨_, 0, heap_set0 HB.out _, ?_, rfl, ?_⟩, grown_set _ _ _ _⟩
        · have := ByteArray.size_extract (a := r) (b := k + 1) (e := r.size); omega
        · rw [Lib.extract_data, HL.out, HQ.out, List.take_of_length_le]
          rw [← HQ.out, List.length_drop, ← HL.out]
          have := HLEN.out
          omega
      · have HN := Lib.hid (pNum_range hcnt hin)
        rw [hcnt] at HC
        clear hcnt
        generalize nN low high (some l) = R at HN ⊢
        have hin2 : (n : Int) < low ∨ (low ≤ (n : Int) ∧ high < (n : Int)) := by omega
        clear hin
        rcases hin2 with h1 | ⟨h1, h2⟩
        all_goals
          go_enter Tryz.func63, Tryz.ntmps63
          go_wp2_with fail
          refine HC.out.mono ?_
          rintro e w1 ⟨⟨k, hk, hq, rfl⟩, rfl⟩
          clear hk hq
          go_wp2_with fail
          refine (HF.out 3 (by decide)).mono ?_
          rintro e w2 ⟨rfl, h2, h3⟩
          have H2 := Lib.hid h2
          have H3 := Lib.hid h3
          clear h2 h3
          go_wp2_with fail
          go_ret
          unfold RetN
          rw [HN.out]
          exact ⟨rfl, H2.out, H3.out⟩


set_option maxRecDepth 8000 in
set_option maxHeartbeats 4000000 in
theorem Text_rr (most : Nat) (hmost : most ≤ 9000000000000000000) (st : Option C.Bs) (b : Nat) (w : World) (h : RdT 122 w b st) :
    Calls Tryz.prog 62 #[.pointer (some ⟨b, 0, none⟩), .int .i64 most] w (RetT 122 w b (nT most st)) := by
  cases st with
  | none =>
    have HH := Lib.hid h
    obtain ⟨r, er, hb, hr, hE⟩ := h
    have c1 : w.cell? ⟨b, 1, none⟩ = some (.int .i64 er) := cell_of_row w b 1 _ _ _ hb
    have he : (er != 0) = true := by simpa using hE
    clear hb hE
    go_enter Tryz.func62, Tryz.ntmps62
    go_wp2_with fail
    go_ret
    exact ⟨rfl, HH.out, World.grownBy.refl w _⟩
  | some l =>
    have HH := Lib.hid h
    obtain ⟨r, er, hb, hr, rfl, hl⟩ := h
    have c0 : w.cell? ⟨b, 0, none⟩ = some (.string r) := cell_of_row w b 0 _ _ _ hb
    have c1 : w.cell? ⟨b, 1, none⟩ = some (.int .i64 0) := cell_of_row w b 1 _ _ _ hb
    have f0 : w.frozen? ⟨b, 0, none⟩ = false := Lib.frozen_of_heap hb 0
    have HC := Lib.hid (Count_any 58 (by decide) 65536 (by decide) r w hr)
    have HF := Lib.hid (fun er he => fail_rr er he l b w HH.out)
    have HB := Lib.hid hb
    have hlen : r.data.toList.length = r.size := by simp
    have HLEN := Lib.hid hlen
    rw [hl] at HC
    have HL := Lib.hid hl
    clear hb hl hlen
    cases hcnt : C.cnt 58 65536 l 0 0 with
    | none =>
      have HN := Lib.hid (pTxt_none (most := most) hcnt)
      rw [hcnt] at HC
      clear hcnt
      generalize nT most (some l) = R at HN ⊢
      go_enter Tryz.func62, Tryz.ntmps62
      go_wp2_with fail
      refine HC.out.mono ?_
      rintro e w1 ⟨⟨sh, rfl⟩, rfl⟩
      cases sh
      all_goals
        go_wp2_with fail
        refine (HF.out _ (by decide)).mono ?_
        rintro e w2 ⟨rfl, h2, h3⟩
        have H2 := Lib.hid h2
        have H3 := Lib.hid h3
        clear h2 h3
        go_wp2_with fail
        go_ret
        unfold RetT
        rw [HN.out]
        exact ⟨rfl, H2.out, H3.out⟩
    | some x =>
      obtain ⟨n, q⟩ := x
      have hn2 : n ≤ 65536 := (C.cnt_read hcnt).2
      rw [hcnt] at HC
      obtain ⟨R, hR⟩ : ∃ R, R = nT most (some l) := ⟨_, rfl⟩
      rw [← hR]
      have HSH := Lib.hid (fun h2 => hR.trans (pTxt_short (most := most) hcnt h2))
      have HBD := Lib.hid (fun h2 h3 => hR.trans (pTxt_bad (most := most) hcnt h2 h3))
      have HLG := Lib.hid (fun h2 h3 h4 => hR.trans (pTxt_long (most := most) hcnt h2 h3 h4))
      have HGD := Lib.hid (fun h2 h3 h4 => hR.trans (pTxt_good (most := most) hcnt h2 h3 h4))
      clear hcnt hR
      go_enter Tryz.func62, Tryz.ntmps62
      go_wp2_with fail
      refine HC.out.mono ?_
      rintro e w1 ⟨⟨k, hk, hq, rfl⟩, rfl⟩
      have hk2 : k < r.size := by rw [← HL.out] at hk; have := HLEN.out; omega
      have hbd : (r.extract (k + 1) r.size).data.toList = q := by
        rw [Lib.extract_data, HL.out, List.take_of_length_le (by rw [List.length_drop, ← HL.out]; have := HLEN.out; omega), hq]
      have hql : q.length = (r.extract (k + 1) r.size).size := by rw [← hbd]; simp
      have hbs : (r.extract (k + 1) r.size).size ≤ r.size := by have := ByteArray.size_extract (a := r) (b := k + 1) (e := r.size); omega
      have hxs : (r.extract (k + 1) r.size).size = r.size - (k + 1) := by simp
      have HQL := Lib.hid hql
      have HBODY := Lib.hid hbd
      have HXS := Lib.hid hxs
      clear hk hq hql hbd hbs hxs
      by_cases h2 : q.length ≤ n
      · have HN := Lib.hid (HSH.out h2)
        have h2' : r.size ≤ n + (k + 1) := by have := HQL.out; have := HXS.out; omega
        clear h2
        go_wp2_with fail
        refine (HF.out 13 (by decide)).mono ?_
        rintro e w2 ⟨rfl, h2, h3⟩
        have H2 := Lib.hid h2
        have H3 := Lib.hid h3
        clear h2 h3
        go_wp2_with fail
        go_ret
        unfold RetT
        rw [HN.out]
        exact ⟨rfl, H2.out, H3.out⟩
      · have h2' : ¬ r.size ≤ n + (k + 1) := by have := HQL.out; have := HXS.out; omega
        have h2b : n < r.size - (k + 1) := by omega
        have h2c : n < (r.extract (k + 1) r.size).size := by rw [HXS.out]; exact h2b
        have hqn : q[n]? = some (r.extract (k + 1) r.size)[n] := by
          rw [← HBODY.out]
          rw [List.getElem?_eq_getElem (by simp; omega)]
          rfl
        have hb0 : (r.extract (k + 1) r.size)[n].toNat ≤ 255 := by have := (r.extract (k + 1) r.size)[n].toNat_lt; omega
        by_cases h3 : (r.extract (k + 1) r.size)[n] = 44
        · have e2 : (((r.extract (k + 1) r.size)[n].toNat : Int) != 44) = false := by rw [h3]; rfl
          rw [h3] at hqn
          by_cases h4 : most < n
          · have HN := Lib.hid (HLG.out h2 hqn h4)
            clear h2 h3 hqn
            go_wp2_with fail
            refine (HF.out 10 (by decide)).mono ?_
            rintro e w2 ⟨rfl, h2, h3⟩
            have H2 := Lib.hid h2
            have H3 := Lib.hid h3
            clear h2 h3
            go_wp2_with fail
            go_ret
            unfold RetT
            rw [HN.out]
            exact ⟨rfl, H2.out, H3.out⟩
          · have HN := Lib.hid (HGD.out h2 hqn h4)
            clear h2 h3 hqn
            go_wp2_with fail
            go_ret
            unfold RetT
            rw [HN.out]
            refine ⟨?_, ⟨_, 0, heap_set0 HB.out _, ?_, rfl, ?_⟩, grown_set _ _ _ _⟩
            · have e9 : (r.extract (k + 1) r.size).extract 0 n = mkB (q.take n) := by
                rw [← mkB_self ((r.extract (k + 1) r.size).extract 0 n), Lib.extract_data, HBODY.out]
                rfl
              rw [← e9]
              rfl
            · have := ByteArray.size_extract (a := r.extract (k + 1) r.size) (b := n + 1) (e := r.size - (k + 1)); omega
            · rw [Lib.extract_data, HBODY.out, List.take_of_length_le]
              rw [List.length_drop, HQL.out, HXS.out]
              omega
        · have e2 : (((r.extract (k + 1) r.size)[n].toNat : Int) != 44) = true := by
            have : (((r.extract (k + 1) r.size)[n].toNat : Int) == 44) = false := beq_eq_false_iff_ne.2 fun h => h3 (UInt8.toNat_inj.1 (by show (r.extract (k + 1) r.size)[n].toNat = 44; omega))
            unfold bne; rw [this]; rfl
          have HN := Lib.hid (HBD.out h2 (by rw [hqn]; intro h; exact h3 (Option.some.inj h)))
          clear h2 h3 hqn
          go_wp2_with fail
          refine (HF.out 17 (by decide)).mono ?_
          rintro e w2 ⟨rfl, h2, h3⟩
          have H2 := Lib.hid h2
          have H3 := Lib.hid h3
          clear h2 h3
          go_wp2_with fail
          go_ret
          unfold RetT
          rw [HN.out]
          exact ⟨rfl, H2.out, H3.out⟩

set_option maxHeartbeats 1000000 in
theorem Close_rr (st : Option C.Bs) (b : Nat) (w : World) (h : RdT 122 w b st) :
    Calls Tryz.prog 64 #[.pointer (some ⟨b, 0, none⟩)] w fun e w' => (∃ er : Int, e = .returned (.int .i64 er) ∧ ((er = 0 ∧ rdEnd st = true) ∨ (er ≠ 0 ∧ rdEnd st = false))) ∧ w = w' := by
  obtain ⟨r, er, hb, hr, hE⟩ := h
  have c0 : w.cell? ⟨b, 0, none⟩ = some (.string r) := cell_of_row w b 0 _ _ _ hb
  have c1 : w.cell? ⟨b, 1, none⟩ = some (.int .i64 er) := cell_of_row w b 1 _ _ _ hb
  cases st with
  | none =>
    have he : (er == 0) = false := by simpa using hE
    have HE := Lib.hid hE
    clear hb hE hr
    go_enter Tryz.func64, Tryz.ntmps64
    go_wp2_with fail
    go_ret
    exact ⟨⟨er, rfl, .inr ⟨HE.out, rfl⟩⟩, rfl⟩
  | some l =>
    obtain ⟨rfl, hl⟩ := hE
    cases l with
    | nil =>
      have e1 : r.toList = [] := by rw [ByteArray.toList_eq, hl]
      have e2 : r.toList.isEmpty = true := by rw [e1]; rfl
      clear hb hr hl
      go_enter Tryz.func64, Tryz.ntmps64
      go_wp2_with fail
      go_ret
      exact ⟨⟨0, rfl, .inl ⟨rfl, rfl⟩⟩, rfl⟩
    | cons x l =>
      have e2 : r.toList.isEmpty = false := by rw [ByteArray.toList_eq, hl]; rfl
      have e3 : (!r.toList.isEmpty) = true := by rw [e2]; rfl
      have e4 : r.toList ≠ [] := by rw [ByteArray.toList_eq, hl]; simp
      clear hb hr hl
      go_enter Tryz.func64, Tryz.ntmps64
      go_wp2_with fail
      go_ret
      exact ⟨⟨17, rfl, .inr ⟨by decide, rfl⟩⟩, rfl⟩

end Go.Proofs.YtjimgkefacnamaaGreatDoor
