/- The texts Xe of the seat, joined. -/
import Derived.Test.YtclhbcicbnoohaaGreatDoorG19
/- The walk of TreeLines. -/
namespace Go.Proofs.YtclhbcicbnoohaaGreatDoor
open Go.RowKit

abbrev Lined := ByteArray × (List ByteArray × (T.Tr × ((ByteArray × Int) × ByteArray)))
def linedR : Rep Lined := prodR strR (prodR (sliceR strR) (prodR (sliceR fileR) (prodR (prodR strR (intR .i64)) strR)))
def BdLn (q : Lined) : Prop := (q.2.1.length ≤ 140737488351232 ∧ ∀ s ∈ q.2.1, s.size ≤ 140737488351232) ∧ BdT q.2.2.1
theorem lined_val {w : World} {v : Value} {q : Lined} (hs : ∃ cs, v = .agg cs) (h : linedR.val w q v) :
    ∃ A c B d, v = .agg #[.string q.1, .slice A q.2.1.length c, .slice B q.2.2.1.length d, .string q.2.2.2.1.1, .int .i64 q.2.2.2.1.2, .string q.2.2.2.2] ∧ SliceAt strR w (Old w) A c q.2.1 ∧ SliceAt fileR w (Old w) B d q.2.2.1 ∧ q.1.size ≤ 9223372036854775807 ∧ q.2.2.2.1.1.size ≤ 9223372036854775807 ∧ (Lit.int .i64 q.2.2.2.1.2).wf = true ∧ q.2.2.2.2.size ≤ 9223372036854775807 := by
  obtain ⟨cs, rfl⟩ := hs
  obtain ⟨⟨x1, y1, he, ⟨rfl, z1⟩, x2, y2, rfl, ⟨A, c, rfl, h1⟩, x3, y3, rfl, ⟨B, d, rfl, h2⟩, x4, y4, rfl, ⟨x5, y5, rfl, ⟨rfl, z2⟩, ⟨rfl, z3⟩⟩, ⟨rfl, z4⟩⟩, _⟩ := h
  refine ⟨A, c, B, d, ?_, h1, h2, z1, z2, z3, z4⟩
  have : cs.toList = _ := he
  rw [show cs = cs.toList.toArray from Array.toArray_toList.symm, this]
  rfl
theorem sum_all (l : List ByteArray) : ∀ s ∈ l, s.size ≤ sumZ l := by
  induction l with
  | nil => intro s h; cases h
  | cons x l ih =>
    intro s h
    have e : sumZ (x :: l) = x.size + sumZ l := rfl
    rcases List.mem_cons.1 h with h | h
    · rw [h]; omega
    · have := ih s h; omega
set_option maxRecDepth 100000 in
set_option maxHeartbeats 8000000 in
theorem treeLines_walk (v : Value) (q : Lined) (w : World) (hg : Gl w) (h0 : ∃ cs, v = .agg cs) (r : linedR.val w q v) (hb : BdLn q) : Calls Tryz.prog 7 #[v] w (Al (.bool true) w) := by
  obtain ⟨A, c, B, d, rfl, hS, hT, z1, z2, z3, z4⟩ := lined_val h0 r
  obtain ⟨da, l, t, ⟨lp, N⟩, x⟩ := q
  simp only at hS hT z1 z2 z3 z4
  obtain ⟨⟨hb1, hb2⟩, hb3⟩ := hb
  simp only at hb1 hb2 hb3
  simp only
  obtain ⟨n, hn⟩ : ∃ n, n = l.length := ⟨_, rfl⟩
  obtain ⟨m, hm⟩ : ∃ m, m = t.length := ⟨_, rfl⟩
  rw [← hn, ← hm]
  obtain ⟨hN1, hN2⟩ := wf_i64 z3
  have HN := Lib.hid hn
  have HM := Lib.hid hm
  have HS := Lib.hid hS
  have HT := Lib.hid hT
  have HB := Lib.hid hb2
  have HAW := Lib.hid (fun W (h : Ext w W) => awake_any W (hg.ext h))
  have HFW := Lib.hid (fun W (h : Ext w W) => few_one t B m d W hm (hT.ext h) hb3)
  have HL1 := Lib.hid (fun (hs : da.size ≤ 3000) W (h : Ext w W) => Lines_any da W (by omega) (hg.ext h))
  have HL2 := Lib.hid (fun (hs : da.size ≤ 3000) W => rLines_any da W (by omega))
  have HLZ := Lib.hid (show ∀ s ∈ (linesE da).1, s.size ≤ 9223372036854775807 from fun s hs => Nat.le_trans (lines_szs da s hs) z1)
  generalize linesE da = LZ at HL1 HL2 HLZ
  obtain ⟨js, je, hjv⟩ := join_form l
  have HJ1 := Lib.hid (fun (hl : n ≤ 1100) (hs : ∀ s ∈ l, s.size ≤ 100000) W (h : Ext w W) => Join_any l A c n W hn (hS.ext h) (by omega) hs (hg.ext h))
  have HJ2 := Lib.hid (fun (hl : n ≤ 1100) (hs : ∀ s ∈ l, s.size ≤ 100000) W (h : Ext w W) => rJoin_any l A c n W hn (hS.ext h) (by omega) hs)
  rw [hjv] at HJ1 HJ2
  have HR1 := Lib.hid (fun (hf : FewT t) (h1 : lp.size ≤ 300) (h2 : x.size ≤ 300) W (h : Ext w W) => Replace_any t B d m lp x N W hm (hT.ext h) hf.paths (hg.ext h) (by omega) hN1 hN2)
  have HR2 := Lib.hid (fun (hf : FewT t) (h1 : lp.size ≤ 300) (h2 : x.size ≤ 300) W (h : Ext w W) => rReplace_any t B d m lp x N W hm (hT.ext h) hf.paths9 (by omega) (by omega) hN1 hN2)
  have HRZ := Lib.hid (repl_szF t lp N x)
  generalize replE t lp N x = RZ at HR1 HR2 HRZ
  obtain ⟨RL, re⟩ := RZ
  obtain ⟨LL, le⟩ := LZ
  obtain ⟨W1, hW1⟩ : ∃ W1, W1 = w.alloc (.cells #[.string da, .slice A n c, .slice B m d, .string lp, .int .i64 N, .string x] 47) := ⟨_, rfl⟩
  have a0 : W1.cell? ⟨w.heap.size, 0, none⟩ = some (.string da) := by rw [hW1]; exact cell_new w _ 47 0
  have a1 : W1.cell? ⟨w.heap.size, 1, none⟩ = some (.slice A n c) := by rw [hW1]; exact cell_new w _ 47 1
  have a2 : W1.cell? ⟨w.heap.size, 2, none⟩ = some (.slice B m d) := by rw [hW1]; exact cell_new w _ 47 2
  have a3 : W1.cell? ⟨w.heap.size, 3, none⟩ = some (.string lp) := by rw [hW1]; exact cell_new w _ 47 3
  have a4 : W1.cell? ⟨w.heap.size, 4, none⟩ = some (.int .i64 N) := by rw [hW1]; exact cell_new w _ 47 4
  have a5 : W1.cell? ⟨w.heap.size, 5, none⟩ = some (.string x) := by rw [hW1]; exact cell_new w _ 47 5
  have X1 : Ext w W1 := by rw [hW1]; exact (Ext.refl w).alloc _
  have HX1 := Lib.hid X1
  have KA := Lib.hid (And.intro a0 (And.intro a1 (And.intro a2 (And.intro a3 (And.intro a4 a5)))))
  clear hn hm hS hT hjv h0 r hg hb2 hb3 X1 a0 a1 a2 a3 a4 a5 z3
  go_enter Tryz.func7, Tryz.ntmps7
  go_wp2_with fail
  rw [← hW1]
  clear hW1
  refine (HAW.out _ HX1.out).mono ?_
  rintro e2 w2 ⟨rfl, d2⟩
  have HD2 := Lib.hid d2
  clear d2 HAW
  go_wp2_with fail
  obtain ⟨Φ, hΦ⟩ : ∃ Φ : World → Prop, ∀ x, Φ x ↔ Ext w2 x := ⟨_, fun _ => Iff.rfl⟩
  have h0 : Φ w2.drew := (hΦ _).2 ((Ext.refl w2).drew)
  have fa0 : ∀ y : Lat Φ, y.w'.cell? ⟨w.heap.size, 0, none⟩ = some (.string da) := fun y => ((hΦ _).1 y.h).keepc (HD2.out.keepc KA.out.1)
  have fa1 : ∀ y : Lat Φ, y.w'.cell? ⟨w.heap.size, 1, none⟩ = some (.slice A n c) := fun y => ((hΦ _).1 y.h).keepc (HD2.out.keepc KA.out.2.1)
  have fa2 : ∀ y : Lat Φ, y.w'.cell? ⟨w.heap.size, 2, none⟩ = some (.slice B m d) := fun y => ((hΦ _).1 y.h).keepc (HD2.out.keepc KA.out.2.2.1)
  have fa3 : ∀ y : Lat Φ, y.w'.cell? ⟨w.heap.size, 3, none⟩ = some (.string lp) := fun y => ((hΦ _).1 y.h).keepc (HD2.out.keepc KA.out.2.2.2.1)
  have fa4 : ∀ y : Lat Φ, y.w'.cell? ⟨w.heap.size, 4, none⟩ = some (.int .i64 N) := fun y => ((hΦ _).1 y.h).keepc (HD2.out.keepc KA.out.2.2.2.2.1)
  have fa5 : ∀ y : Lat Φ, y.w'.cell? ⟨w.heap.size, 5, none⟩ = some (.string x) := fun y => ((hΦ _).1 y.h).keepc (HD2.out.keepc KA.out.2.2.2.2.2)
  have hne := Lat.some h0
  have HΦ := Lib.hid hΦ
  clear hΦ
  refine wp_region_lat [10, 14] Φ h0 (by kernel_rfl) (by kernel_rfl) (by kernel_rfl) ?_
  iterate 10 (refine lex_pure rfl rfl rfl ?_; intro K hK; go_big_quiet_op; go_big_quiet_on)
  refine lex_eff rfl ?_
  go_wp2_with fail
  refine ⟨⟨⟨_, (HΦ.out _).2 ((Ext.refl w2).drew.alloc _)⟩, rfl⟩, ?_⟩
  iterate 3 (refine lex_pure rfl rfl rfl ?_; intro K hK; go_big_quiet_op; go_big_quiet_on)
  refine lex_eff rfl ?_
  go_wp2_with fail
  refine ⟨⟨⟨_, (HΦ.out _).2 (((Ext.refl w2).alloc _).drew)⟩, rfl⟩, ?_⟩
  refine lex_pure rfl rfl rfl ?_; intro K hK; go_big_quiet_op; go_big_quiet_on
  refine lex_nil ?_
  obtain ⟨W3, hW3⟩ : ∃ W3, W3 = (w2.alloc (.cells #[.string lp, .int .i64 N] 45)).drew := ⟨_, rfl⟩
  have b0 : W3.cell? ⟨w2.heap.size, 0, none⟩ = some (.string lp) := by rw [hW3]; exact cell_new w2 #[.string lp, .int .i64 N] 45 0
  have b1 : W3.cell? ⟨w2.heap.size, 1, none⟩ = some (.int .i64 N) := by rw [hW3]; exact cell_new w2 #[.string lp, .int .i64 N] 45 1
  have E3 : Ext w2 W3 := by rw [hW3]; exact ((Ext.refl w2).alloc _).drew
  have HX3 := Lib.hid (HX1.out.trans (HD2.out.trans E3))
  have KB0 := Lib.hid b0
  have KB1 := Lib.hid b1
  clear fa0 fa1 fa2 fa3 fa4 fa5 hne h0 HΦ KA E3 HD2 HX1
  by_cases hds : 3000 < da.size
  · clear b0 b1
    go_wp2_with fail
    rw [← hW3]
    clear hW3
    go_ret
    exact ⟨rfl, HX3.out⟩
  by_cases hls : 1100 < n
  · clear b0 b1
    go_wp2_with fail
    rw [← hW3]
    clear hW3
    go_ret
    exact ⟨rfl, HX3.out⟩
  have hds' : da.size ≤ 3000 := by omega
  have hls' : n ≤ 1100 := by omega
  rw [← hW3]
  clear hW3
  go_wp2_with fail
  refine (HFW.out _ HX3.out).mono ?_
  rintro e4 w4 ⟨d4, bb, rfl, hbb⟩
  have HE4 := Lib.hid d4
  clear d4 HFW b0 b1
  cases bb with
  | false =>
    clear hbb
    go_wp2_with fail
    go_ret
    exact ⟨rfl, HX3.out.trans HE4.out⟩
  | true =>
    have HFO := Lib.hid (hbb rfl)
    clear hbb
    have b0 := HE4.out.keepc KB0.out
    have b1 := HE4.out.keepc KB1.out
    by_cases hp3 : 300 < lp.size
    · go_wp2_with fail
      go_ret
      exact ⟨rfl, HX3.out.trans HE4.out⟩
    by_cases hx3 : 300 < x.size
    · go_wp2_with fail
      go_ret
      exact ⟨rfl, HX3.out.trans HE4.out⟩
    have hps : lp.size ≤ 300 := by omega
    have hxs : x.size ≤ 300 := by omega
    go_wp2_with fail
    go_loopw [62, 8] (fun i zv wr => ∃ (k : Nat) (z : Nat), k ≤ n ∧ i = .int .i64 k ∧ zv = .int .i64 z ∧ z ≤ k * 140737488351232 ∧ Hid (z = sumZ (l.take k)) ∧ wr = w4) (fun i _ _ => n - (intOf i).toNat)
    case atStart => exact ⟨0, 0, Nat.zero_le _, rfl, rfl, by omega, rfl, rfl⟩
    case round =>
      obtain ⟨k, z, hk, rfl, rfl, hz, HZ, rfl⟩ := hrel
      by_cases hlt : k < n
      · have hkl : k < l.length := by rw [← HN.out]; exact hlt
        obtain ⟨b, off, hAe, _, ca0, za⟩ := str_get (HS.out.ext (HX3.out.trans HE4.out)) hkl
        subst hAe
        have hsz := HB.out _ (List.getElem_mem hkl)
        have HZ' := Lib.hid (sum_take l hkl)
        generalize l[k] = ls at *
        have hzn : z + ls.size ≤ 9223372036854775807 := by have : k * 140737488351232 ≤ 1100 * 140737488351232 := Nat.mul_le_mul_right _ (by omega); omega
        have hzk : z + ls.size ≤ (k + 1) * 140737488351232 := by rw [Nat.succ_mul]; omega
        clear hz
        go_wp2_with fail
        go_roundw
        case rel => exact ⟨k + 1, z + ls.size, by omega, by go_num, by go_num, hzk, by unfold Hid; rw [HZ'.out, ← HZ.out], trivial⟩
        case measure => simp [intOf]; omega
      · have HSZ := Lib.hid (show z = sumZ l by have := HZ.out; rwa [show k = l.length by have := HN.out; omega, List.take_length] at this)
        by_cases hz3 : 3000 < z
        · go_wp2_with fail
          go_ret
          exact ⟨rfl, HX3.out.trans HE4.out⟩
        have HSL := Lib.hid (show ∀ s ∈ l, s.size ≤ 100000 from fun s hs => by have h8 := sum_all l s hs; have h9 := HSZ.out; omega)
        clear hz HZ HSZ HB
        go_wp2_with fail
        refine (HL1.out hds' _ (HX3.out.trans HE4.out)).mono ?_
        intro e5 w5 hr
        obtain ⟨A5, n5, c5, rfl, hn5, hS5, d5⟩ := retL_any hr HLZ.out
        have HE5 := Lib.hid (HE4.out.trans d5)
        have HS5 := Lib.hid hS5
        have HN5 := Lib.hid hn5
        clear hr d5 hS5 hn5 HL1 b0 b1
        go_wp2_with fail
        refine (HL2.out hds' _).mono ?_
        intro e6 w6 hr
        obtain ⟨A6, n6, c6, rfl, hn6, hS6, d6⟩ := retL_any hr HLZ.out
        have HE6 := Lib.hid (HE5.out.trans d6)
        have HEQ := Lib.hid (fun W (h : Ext w6 W) => EqS_same LL A5 A6 c5 c6 n5 n6 W HN5.out hn6 ((HS5.out.ext d6).ext h) (hS6.ext h))
        clear hr d6 hS6 hn6 HL2 HS5 HN5 HE5
        go_wp2_with fail
        refine (HJ1.out hls' HSL.out _ (HX3.out.trans HE6.out)).mono ?_
        rintro e7 w7 ⟨rfl, d7⟩
        have HE7 := Lib.hid (HE6.out.trans d7)
        have HF7 := Lib.hid d7
        clear d7 HJ1
        go_wp2_with fail
        refine (HJ2.out hls' HSL.out _ (HX3.out.trans HE7.out)).mono ?_
        rintro e8 w8 ⟨rfl, d8⟩
        have HE8 := Lib.hid (HE7.out.trans d8)
        have HF8 := Lib.hid (HF7.out.trans d8)
        clear d8 HJ2 HF7 HE7
        have b0 := HE8.out.keepc KB0.out
        have b1 := HE8.out.keepc KB1.out
        go_wp2_with fail
        refine (HR1.out HFO.out hps hxs _ (HX3.out.trans HE8.out)).mono ?_
        intro e9 w9 hr
        obtain ⟨A9, n9, c9, rfl, hn9, hS9, d9⟩ := retTr_any hr HRZ.out
        have HE9 := Lib.hid (HE8.out.trans d9)
        have HF9 := Lib.hid (HF8.out.trans d9)
        have HS9 := Lib.hid hS9
        have HN9 := Lib.hid hn9
        clear hr d9 hS9 hn9 HR1 HE8 HF8 b0 b1
        have b0 := HE9.out.keepc KB0.out
        have b1 := HE9.out.keepc KB1.out
        go_wp2_with fail
        refine (HR2.out HFO.out hps hxs _ (HX3.out.trans HE9.out)).mono ?_
        intro e10 w10 hr
        obtain ⟨A10, n10, c10, rfl, hn10, hS10, d10⟩ := retTr_any hr HRZ.out
        have HE10 := Lib.hid (HE9.out.trans d10)
        have HF10 := Lib.hid (HF9.out.trans d10)
        have HSM := Lib.hid (fun W (h : Ext w10 W) => same_self RL A9 A10 c9 c10 n9 n10 W HN9.out hn10 ((HS9.out.ext d10).ext h) (hS10.ext h))
        clear hr d10 hS10 hn10 HR2 HE9 HF9 HS9 HN9 b0 b1
        go_wp2_with fail
        refine (HEQ.out _ HF10.out).mono ?_
        rintro e11 w11 ⟨rfl, d11⟩
        have HE11 := Lib.hid (HE10.out.trans d11)
        have HF11 := Lib.hid d11
        clear d11 HEQ HE10 HF10
        go_wp2_with fail
        refine (HSM.out _ HF11.out).mono ?_
        rintro e12 w12 ⟨rfl, d12⟩
        have HE12 := Lib.hid (HE11.out.trans d12)
        clear d12 HSM HE11 HF11
        go_wp2_with fail
        go_ret
        exact ⟨rfl, HX3.out.trans HE12.out⟩
end Go.Proofs.YtclhbcicbnoohaaGreatDoor
