/- The texts Xc Km Xd Ko Enl Kp Itr Kn Xe of the seat, joined. -/
import Derived.Test.YtkeaoejgboefbaaDoorG16
import Derived.Laws.CopyRow
import Derived.Lib.SlBuf
import Derived.OwnWalk
import Derived.BigQuiet
import Derived.Shelf.SlIter.Nil
import Derived.Shelf.SortM.Plain
import Derived.Shelf.SortM.SortNone
import Derived.Ground.GgzProg
import Derived.Ground.SlgmProg
/- The walk of EngineCounts. -/
namespace Go.Proofs.YtkeaoejgboefbaaDoor
open Go.RowKit Go.Maps

set_option maxRecDepth 100000 in
set_option maxHeartbeats 8000000 in
theorem engineCounts_walk (v0 v1 : Value) (cs : List E.Cell) (acts : List ActE) (w : World) (hg : Gl w) (r0 : (sliceR cellR).val w cs v0) (r1 : (sliceR actR).val w acts v1) :
    Calls Tryd.prog 5 #[v0, v1] w (Al (.bool true) w) := by
  obtain ⟨A, k, rfl, hA⟩ := val_slice r0
  obtain ⟨B, kb, rfl, hB⟩ := val_slice r1
  obtain ⟨n, hn⟩ : ∃ n, n = cs.length := ⟨_, rfl⟩
  obtain ⟨m, hm⟩ : ∃ m, m = acts.length := ⟨_, rfl⟩
  rw [← hn, ← hm]
  have HAW := Lib.hid (fun W (h : Ext w W) => awake_any W (hg.ext h))
  have HFW := Lib.hid (fun W (h : Ext w W) => refFew_any cs A k n 12 W hn (hA.ext h))
  have HSW := Lib.hid (fun W (h : Ext w W) => refShort_any acts B kb m 30 W hm (hB.ext h))
  have HST := Lib.hid (fun (hf : FewC cs 12) W (h : Ext w W) => Both1.start (hg.ext h) (hA.ext h) hn hf.args (by have := hf.1; omega))
  have HA := Lib.hid hA
  have HNA := Lib.hid (fun (hf : FewC cs 12) W (h : Ext w W) (x0 : Value) (c : Nat) (x2 : Value) (h0 : x0.oneCell' = true) (h2 : x2.oneCell' = true) (hc : c ≤ 255) => refName18_any (hA.ext h) hn (by have := hf.1; omega) hc x0 x2 h0 h2)
  have HB := Lib.hid hB
  have HN := Lib.hid hn
  have HM := Lib.hid hm
  have hm63 : m ≤ 9223372036854775807 := by have := hB.1; have := hB.2.1; omega
  clear hA hB hn hm hg r0 r1
  go_enter Tryd.func5, Tryd.ntmps5
  go_wp2_with fail
  refine (HAW.out _ (Ext.refl w)).mono ?_
  rintro e2 w2 ⟨rfl, d2⟩
  have HD2 := Lib.hid d2
  clear d2
  go_wp2_with fail
  refine (HFW.out _ HD2.out).mono ?_
  rintro e3 w3 ⟨d3, b, rfl, hb⟩
  have HD3 := Lib.hid (HD2.out.trans d3)
  clear d3 HD2
  cases b with
  | false =>
    clear hb
    go_wp2_with fail
    refine (HAW.out _ HD3.out).mono ?_
    rintro e4 w4 ⟨rfl, d4⟩
    have HD4 := Lib.hid (HD3.out.trans d4)
    clear d4
    go_wp2_with fail
    go_ret
    exact ⟨rfl, HD4.out⟩
  | true =>
    have HFO := Lib.hid (hb rfl)
    clear hb
    go_wp2_with fail
    refine (HSW.out _ HD3.out).mono ?_
    rintro e4 w4 ⟨d4, b, rfl, hb⟩
    have HD4 := Lib.hid (HD3.out.trans d4)
    clear d4 HD3
    cases b with
    | false =>
      clear hb
      go_wp2_with fail
      refine (HAW.out _ HD4.out).mono ?_
      rintro e5 w5 ⟨rfl, d5⟩
      have HD5 := Lib.hid (HD4.out.trans d5)
      clear d5
      go_wp2_with fail
      go_ret
      exact ⟨rfl, HD5.out⟩
    | true =>
      have HSO := Lib.hid (hb rfl)
      clear hb
      go_wp2_with fail
      refine (HST.out HFO.out _ HD4.out).mono ?_
      rintro e5 w5 ⟨d5, hr⟩
      have HD5 := Lib.hid (HD4.out.trans d5)
      clear d5
      rcases hr with ⟨_, rfl⟩ | ⟨_, g, D, rfl, hb⟩
      · go_wp2_with fail
        go_ret
        exact ⟨rfl, HD5.out⟩
      · have HBO := Lib.hid hb
        have hn12 : n ≤ 12 := by have := HFO.out.1; have := HN.out; omega
        have hm30 : m ≤ 30 := by have := HSO.out.1; have := HM.out; omega
        clear hb
        go_wp2_with fail
        go_loopw [8, 9, 10, 11, 12, 13, 41] (fun _ _ _ _ _ _ i wr => ∃ (t : Nat) (e : E.En) (D' : Nat → Prop), i = .int .i64 t ∧ t ≤ m ∧ Hid (Both1 w4 wr D' g cs t e)) (fun _ _ _ _ _ _ i _ => m - (intOf i).toNat)
        case atStart => exact ⟨0, _, _, rfl, Nat.zero_le _, HBO⟩
        case round =>
          obtain ⟨t, e, D', rfl, ht, HB2⟩ := hrel
          by_cases htm : t < m
          · have htl : t < acts.length := by have := HM.out; omega
            obtain ⟨b, off, hBe, hbb, d0, d1, d2, z1, z2, z3⟩ := act_get (HB.out.ext (HD4.out.trans HB2.out.ahead)) htl
            subst hBe
            have HACT := Lib.hid (fun W (hx : Ext wr W) => (HB2.out.ext hx).act (by omega) z1 z2 z3)
            have bz := bounds_u8 z2
            generalize acts[t] = ac at *
            obtain ⟨kk, cc, vv⟩ := ac
            simp only at d0 d1 d2 z1 z2 z3 HACT bz
            obtain ⟨cn, rfl⟩ : ∃ cn : Nat, cc = cn := ⟨cc.toNat, by omega⟩
            obtain ⟨W2, hW2⟩ : ∃ W2, W2 = wr.alloc (.cells #[.int .u8 kk, .int .u8 cn, .string vv] 34) := ⟨_, rfl⟩
            have X2 : Ext wr W2 := by rw [hW2]; exact (Ext.refl wr).alloc _
            have p0 : W2.cell? ⟨wr.heap.size, 0, none⟩ = some (.int .u8 kk) := by rw [hW2]; exact cell_new wr #[.int .u8 kk, .int .u8 cn, .string vv] 34 0
            have p1 : W2.cell? ⟨wr.heap.size, 1, none⟩ = some (.int .u8 cn) := by rw [hW2]; exact cell_new wr #[.int .u8 kk, .int .u8 cn, .string vv] 34 1
            have p2 : W2.cell? ⟨wr.heap.size, 2, none⟩ = some (.string vv) := by rw [hW2]; exact cell_new wr #[.int .u8 kk, .int .u8 cn, .string vv] 34 2
            have HX2 := Lib.hid X2
            have HDM : Hid (∀ k, D' k → k < wr.heap.size) := Lib.hid fun k hk => (HB2.out.dom k hk).2
            have HAC := Lib.hid (HACT.out W2.drew X2.drew)
            generalize hea : actE e (kk, (cn : Int), vv) = e' at *
            go_upto_region 9 with (fail)
            rw [← hW2]
            clear hW2 d0 d1 d2 z1 z2 z3 X2 HACT hea
            obtain ⟨Φ, hΦ⟩ : ∃ Φ : World → Prop, ∀ w', Φ w' ↔ (w'.cell? ⟨wr.heap.size, 0, none⟩ = some (.int .u8 kk) ∧ w'.cell? ⟨wr.heap.size, 1, none⟩ = some (.int .u8 cn) ∧ w'.cell? ⟨wr.heap.size, 2, none⟩ = some (.string vv)) := ⟨_, fun _ => Iff.rfl⟩
            have h0 : Φ W2.drew := (hΦ _).2 ⟨p0, p1, p2⟩
            have fx0 : ∀ x : Lat Φ, x.w'.cell? ⟨wr.heap.size, 0, none⟩ = some (.int .u8 kk) := fun x => ((hΦ _).1 x.h).1
            have fx1 : ∀ x : Lat Φ, x.w'.cell? ⟨wr.heap.size, 1, none⟩ = some (.int .u8 cn) := fun x => ((hΦ _).1 x.h).2.1
            have fx2 : ∀ x : Lat Φ, x.w'.cell? ⟨wr.heap.size, 2, none⟩ = some (.string vv) := fun x => ((hΦ _).1 x.h).2.2
            have hne1 := Lat.some h0
            have HΦ := Lib.hid hΦ
            clear hΦ
            refine wp_region_halves 5 [2] [9] Φ h0 (by kernel_rfl) (by kernel_rfl) (by kernel_rfl) (by kernel_rfl) ?_
            simp only [List.take_succ_cons, List.take_zero, List.drop_succ_cons, List.drop_zero]
            iterate 2 (refine lex_pure rfl rfl rfl ?_; intro K hK; go_big_quiet_op; go_big_quiet_on)
            refine lex_eff rfl ?_
            go_wp2_with fail
            refine HAC.out.mono ?_
            rintro ed w7 ⟨rfl, t7, D2, hb7, _⟩
            have HB7 := Lib.hid hb7
            have p0 := t7.keepc p0 (fun hk => Nat.lt_irrefl _ (HDM.out _ hk))
            have p1 := t7.keepc p1 (fun hk => Nat.lt_irrefl _ (HDM.out _ hk))
            have p2 := t7.keepc p2 (fun hk => Nat.lt_irrefl _ (HDM.out _ hk))
            have HP7 := Lib.hid ((HΦ.out w7).2 ⟨p0, p1, p2⟩)
            clear hb7 t7 HAC
            go_wp2_with fail
            refine ⟨⟨⟨w7, HP7.out⟩, rfl⟩, ?_⟩
            iterate 2 (refine lex_pure rfl rfl rfl ?_; intro K hK; go_big_quiet_op; go_big_quiet_on)
            refine lex_nil ?_
            clear fx0 fx1 fx2 hne1 h0 HΦ Φ HP7
            obtain ⟨ge, q0, q5, hcm, _, _⟩ := HB7.out.parts
            have HCM := Lib.hid hcm
            obtain ⟨ca, hca⟩ : ∃ ca : Int, ca = e'.st.cnt := ⟨_, rfl⟩
            rw [← hca] at q5 HCM
            have hc1 : (ca == ca) = true := by simp
            have hc2 : (ca != ca) = false := by simp
            obtain ⟨Φ, hΦ⟩ : ∃ Φ : World → Prop, ∀ w', Φ w' ↔ (w'.cell? ⟨g, 0, none⟩ = some (.pointer (some ⟨ge, 0, none⟩)) ∧ w'.cell? ⟨g, 5, none⟩ = some (.int .i64 ca)) := ⟨_, fun _ => Iff.rfl⟩
            have h0 : Φ w7 := (hΦ _).2 ⟨q0, q5⟩
            have fx0 : ∀ x : Lat Φ, x.w'.cell? ⟨g, 0, none⟩ = some (.pointer (some ⟨ge, 0, none⟩)) := fun x => ((hΦ _).1 x.h).1
            have fx1 : ∀ x : Lat Φ, x.w'.cell? ⟨g, 5, none⟩ = some (.int .i64 ca) := fun x => ((hΦ _).1 x.h).2
            have hne1 := Lat.some h0
            have HP7 := Lib.hid h0
            clear hΦ hcm hca
            refine ⟨Φ, h0, ?_⟩
            iterate 4 (refine lex_pure rfl rfl rfl ?_; intro K hK; go_big_quiet_op; go_big_quiet_on)
            refine lex_eff rfl ?_
            go_wp2_with fail
            refine HCM.out.mono ?_
            rintro ed w8 ⟨rfl, rfl⟩
            go_wp2_with fail
            refine ⟨⟨⟨w7, HP7.out⟩, rfl⟩, ?_⟩
            iterate 7 (refine lex_pure rfl rfl rfl ?_; intro K hK; go_big_quiet_op; go_big_quiet_on)
            refine lex_nil ?_
            clear fx0 fx1 hne1 h0 HP7 HCM q0 q5 Φ
            have HX7 := Lib.hid (HD4.out.trans HB7.out.ahead)
            have HNM := Lib.hid (HNA.out HFO.out w7 HX7.out (.int .u8 kk) cn (.string vv) rfl rfl (by omega))
            have hnz : (actN cs cn).size ≤ 9223372036854775807 := by have := actN_size HB7.out.fit.right cn; omega
            generalize actN cs cn = nm at *
            go_wp2_with fail
            refine HNM.out.mono ?_
            rintro ed w8 ⟨rfl, x8⟩
            have HB8 := Lib.hid (HB7.out.ext x8)
            obtain ⟨ge8, q0, _, _, hr1, _⟩ := HB8.out.parts
            have HR1 := Lib.hid (hr1 nm hnz)
            clear hr1 x8 HNM p0 p1 p2
            have hre1 : ((readsE e' nm).2 == (readsE e' nm).2) = true := by simp
            have hre2 : ((readsE e' nm).2 != (readsE e' nm).2) = false := by simp
            have HR2 := Lib.hid (fun W (hx : Ext w8 W) => (by obtain ⟨_, _, _, _, _, h⟩ := (HB8.out.ext hx).parts; exact h nm : Calls Tryd.prog 20 #[.pointer (some ⟨g, 1, none⟩), .string nm] W (RetReads W (readsE e' nm))))
            generalize readsE e' nm = r at *
            obtain ⟨rl, re⟩ := r
            simp only at hre1 hre2
            go_wp2_with fail
            refine HR1.out.mono ?_
            rintro ed w9 ⟨x9, A9, k9, n9, hn9, rfl, hs9⟩
            have HX9 := Lib.hid x9
            have HS9 := Lib.hid hs9
            have HN9 := Lib.hid hn9
            clear x9 hs9 hn9 HR1 q0
            simp only
            go_wp2_with fail
            refine (HR2.out _ HX9.out).mono ?_
            rintro ed w10 ⟨x10, A10, k10, n10, hn10, rfl, hs10⟩
            have HX10 := Lib.hid (HX9.out.trans x10)
            have HEQ := Lib.hid (EqS_same rl A9 A10 k9 k10 n9 n10 w10 HN9.out hn10 (HS9.out.ext x10) hs10)
            clear x10 hs10 hn10 HR2 HS9
            simp only
            go_wp2_with fail
            refine HEQ.out.mono ?_
            rintro ed w11 ⟨rfl, x11⟩
            have HB11 := Lib.hid (HB8.out.ext (HX10.out.trans x11))
            clear x11 HEQ
            go_wp2_with fail
            go_roundw
            case rel => exact ⟨t + 1, e', D2, by go_num, by omega, HB11⟩
            case measure => simp [intOf]; omega
          · go_wp2_with fail
            go_ret
            exact ⟨rfl, HD4.out.trans HB2.out.ahead⟩
end Go.Proofs.YtkeaoejgboefbaaDoor

/- strings.Repeat of one byte. -/
namespace Go.Proofs.YtkeaoejgboefbaaDoor
open Go.RowKit Go.Maps

theorem repeat_one (b : UInt8) : ∀ c, Lib.repeatL [b] c = List.replicate c b
  | 0 => rfl
  | c + 1 => by rw [Lib.repeatL, repeat_one b c]; rfl
theorem mk_size' (l : List UInt8) : (E.mk l).size = l.length := E.mk_size l
theorem RepeatB_any (b : UInt8) (c : Nat) (hc : c ≤ 1000000) (w : World) : Calls Tryd.prog 22 #[.string ⟨#[b]⟩, .int .i64 c] w (Al (.string (E.mk (List.replicate c b))) w) := by
  match c, hc with
  | 0, _ =>
    refine (Tryd.strings_Repeat_zero ⟨#[b]⟩ w).mono ?_
    rintro e w' ⟨rfl, rfl⟩
    exact ⟨rfl, Ext.refl _⟩
  | 1, _ =>
    refine (Tryd.strings_Repeat_one ⟨#[b]⟩ w).mono ?_
    rintro e w' ⟨rfl, rfl⟩
    exact ⟨rfl, Ext.refl _⟩
  | c + 2, hc =>
    refine (Tryd.strings_Repeat_main ⟨#[b]⟩ (c + 2) w (by omega) (by omega) (by have : (⟨#[b]⟩ : ByteArray).size = 1 := rfl; rw [this]; omega) (show 0 < 1 by decide)).mono ?_
    rintro e w' ⟨rfl, h⟩
    refine ⟨?_, h⟩
    show Ending.returned (Value.string ⟨(Lib.repeatL [b] (c + 2)).toArray⟩) = _
    rw [repeat_one]
    rfl
end Go.Proofs.YtkeaoejgboefbaaDoor

/- The walk of EngineChecks. -/
namespace Go.Proofs.YtkeaoejgboefbaaDoor
open Go.RowKit Go.Maps

set_option maxRecDepth 100000 in
set_option maxHeartbeats 8000000 in
theorem engineChecks_walk (v0 v1 : Value) (cs : List E.Cell) (cp : Int) (w : World) (hg : Gl w) (r0 : (sliceR cellR).val w cs v0) (r1 : (intR .u8).val w cp v1) :
    Calls Tryd.prog 6 #[v0, v1] w (Al (.bool true) w) := by
  obtain ⟨A, k, rfl, hA⟩ := val_slice r0
  obtain ⟨rfl, hcw⟩ := val_int r1
  obtain ⟨hc0, hc1⟩ := bounds_u8 hcw
  obtain ⟨m, rfl⟩ : ∃ m : Nat, cp = m := ⟨cp.toNat, by omega⟩
  obtain ⟨n, hn⟩ : ∃ n, n = cs.length := ⟨_, rfl⟩
  rw [← hn]
  have HAW := Lib.hid (fun W (h : Ext w W) => awake_any W (hg.ext h))
  have HFW := Lib.hid (fun W (h : Ext w W) => refFew_any cs A k n 20 W hn (hA.ext h))
  have HCP := Lib.hid (fun (hf : FewC cs 20) W (h : Ext w W) => cp_own (hA.ext h) hn hf.args (by have := hf.1; omega))
  clear hA hn hg r0 r1 hcw hc0
  go_enter Tryd.func6, Tryd.ntmps6
  go_wp2_with fail
  refine (HAW.out _ (Ext.refl w)).mono ?_
  rintro e2 w2 ⟨rfl, d2⟩
  have HD2 := Lib.hid d2
  clear d2
  go_wp2_with fail
  refine (HFW.out _ HD2.out).mono ?_
  rintro e3 w3 ⟨d3, b, rfl, hb⟩
  have HD3 := Lib.hid (HD2.out.trans d3)
  clear d3 HD2
  cases b with
  | false =>
    clear hb
    go_wp2_with fail
    refine (HAW.out _ HD3.out).mono ?_
    rintro e4 w4 ⟨rfl, d4⟩
    have HD4 := Lib.hid (HD3.out.trans d4)
    clear d4
    go_wp2_with fail
    go_ret
    exact ⟨rfl, HD4.out⟩
  | true =>
    have HFO := Lib.hid (hb rfl)
    clear hb
    go_wp2_with fail
    refine (HCP.out HFO.out _ HD3.out).mono ?_
    rintro e4 w4 ⟨v4, rfl, ho4, d4⟩
    have HO4 := Lib.hid ho4
    have HD4 := Lib.hid d4
    clear ho4 d4
    go_wp2_with fail
    go_loopw [5, 6, 23] (fun v _ i wr => ∃ (j : Nat) (l : List E.Cell), i = .int .i64 j ∧ j ≤ m ∧ Hid (OwnF cellR wr w3.heap.size 32 v l.length l) ∧ Hid (l.length = cs.length + j) ∧ Hid (∀ c ∈ l, c.2.2.1.length ≤ 1000) ∧ Hid (Ext w3 wr)) (fun _ _ i _ => m - (intOf i).toNat)
    case atStart => exact ⟨0, cs, rfl, Nat.zero_le _, HO4, Lib.hid rfl, Lib.hid HFO.out.args, HD4⟩
    case round =>
      obtain ⟨j, l, rfl, hj, HO, HL, HAR, HX⟩ := hrel
      by_cases hlt : j < m
      · obtain ⟨a, ha⟩ : ∃ a, a = j % 100 := ⟨_, rfl⟩
        obtain ⟨b, hb⟩ : ∃ b, b = j / 100 := ⟨_, rfl⟩
        have h1 : (j : Int).tmod 100 = (a : Int) := by rw [Int.tmod_eq_emod_of_nonneg (by omega)]; omega
        have h2 : (j : Int) % 100 = (a : Int) := by omega
        have h3 : (j : Int).tdiv 100 = (b : Int) := by rw [Int.tdiv_eq_ediv_of_nonneg (by omega)]; omega
        have h4 : (j : Int) / 100 = (b : Int) := by omega
        have ha2 : a ≤ 99 := by omega
        have hb2 : b ≤ 2 := by omega
        have HRX := Lib.hid (fun W => RepeatB_any 120 a (by omega) W)
        have HRY := Lib.hid (fun W => RepeatB_any 121 b (by omega) W)
        have hxs : (E.mk (List.replicate a 120)).size ≤ 99 := by rw [E.mk_size, List.length_replicate]; exact ha2
        have hys : (E.mk (List.replicate b 121)).size ≤ 2 := by rw [E.mk_size, List.length_replicate]; exact hb2
        generalize E.mk (List.replicate a 120) = sx at *
        generalize E.mk (List.replicate b 121) = sy at *
        clear ha hb
        go_wp2_with fail
        refine (HRX.out _).mono ?_
        rintro e5 w5 ⟨rfl, d5⟩
        have HX5 := Lib.hid d5
        clear d5
        go_wp2_with fail
        refine (HRY.out _).mono ?_
        rintro e6 w6 ⟨rfl, d6⟩
        have HX6 := Lib.hid (HX5.out.trans d6)
        clear d6 HX5
        obtain ⟨i0, hi, hz0, hz1, hz2⟩ := info_parts cell_info
        have HO6 := Lib.hid (HO.out.ext HX6.out)
        obtain ⟨hjn, xs, hown, hflat⟩ := HO6.out
        have HOW := Lib.hid hown
        have HFL := Lib.hid hflat
        have hll : l.length ≤ 1000 := by have := HL.out; have := HFO.out.1; omega
        have hbs : w3.heap.size ≤ w6.heap.size := (HX.out.trans HX6.out).size
        obtain ⟨q, hq⟩ : ∃ q, q = l.length := ⟨_, rfl⟩
        rw [← hq] at HOW hll
        have HQ := Lib.hid hq
        have hnz : ((⟨#[109, 111, 114, 101]⟩ : ByteArray) ++ sx ++ sy).size ≤ 9223372036854775807 := by
          rw [ByteArray.size_append, ByteArray.size_append]
          have : (⟨#[109, 111, 114, 101]⟩ : ByteArray).size = 4 := rfl
          omega
        have HNZ := Lib.hid hnz
        clear hown hflat hjn hq hnz
        go_wp2_with (at_builtin; refine wpList_append_ownAt _ rfl (.tmp 26) (.tmp 36) 22 rfl w3.heap.size 32 i0 _ 4 64 Tryd.underlying22 hi hz0 hz1 hz2 rfl (by decide) _ q _ rfl (HOW.out.alloc _) ⟨_, 0, none⟩ 1 1 [.string (⟨#[109, 111, 114, 101]⟩ ++ sx ++ sy), .int .i64 1, .slice none 0 0, .string ⟨#[]⟩] rfl rfl ?_ ?_ (by unfold maxLen; omega) (by omega) (by rw [size_alloc']; omega) (by decide) ?_)
        · intro i u hi'
          rw [Addr.add_lit, Nat.zero_add, cell_new, ← hi', List.getElem?_toArray]
        · exact one_cells _ 1 none 0 0 _
        · intro v' w8 ho hg _ hf
          have hXA : Ext w6 (w6.alloc (.cells #[.string (⟨#[109, 111, 114, 101]⟩ ++ sx ++ sy), .int .i64 1, .slice none 0 0, .string ⟨#[]⟩] 32)) := (Ext.refl _).alloc _
          have hBl : ∀ k, Bl w6 w3.heap.size u5 k → Bl (w6.alloc (.cells #[.string (⟨#[109, 111, 114, 101]⟩ ++ sx ++ sy), .int .i64 1, .slice none 0 0, .string ⟨#[]⟩] 32)) w3.heap.size u5 k := fun k hk => ⟨hk.1, Nat.lt_of_lt_of_le hk.2.1 hXA.size, hk.2.2⟩
          have hO8 := OwnF.push (r := cellR) (l := l) (a := (⟨#[109, 111, 114, 101]⟩ ++ sx ++ sy, 1, [], ⟨#[]⟩)) HQ.out (HFL.out.keep hBl fun k hk => hXA.block k hk.2.1) ⟨[.string (⟨#[109, 111, 114, 101]⟩ ++ sx ++ sy)], _, rfl, ⟨rfl, HNZ.out⟩, [.int .i64 1], _, rfl, ⟨rfl, show (Lit.int .i64 1).wf = true by decide⟩, [.slice none 0 0], _, rfl, ⟨none, 0, rfl, SliceAt.nil _ _ _ _ _ (by decide)⟩, ⟨rfl, show 0 ≤ 9223372036854775807 by decide⟩⟩ ho hg (by rcases hf with h | ⟨t, h1, h2, h3⟩; exact .inl h; exact .inr ⟨t, h1, by rw [size_alloc']; exact h2, h3⟩)
          have HO9 := Lib.hid hO8
          have HX9 : Hid (Ext w3 w8) := Lib.hid (((HX.out.trans HX6.out).trans hXA).grown HOW.out hg)
          clear hO8 hBl hXA ho hg hf hi hz0 hz1 hz2
          go_wp2_with fail
          go_roundw
          case rel => exact ⟨j + 1, l ++ [(⟨#[109, 111, 114, 101]⟩ ++ sx ++ sy, 1, [], ⟨#[]⟩)], by go_num, by omega, Lib.hid (by rw [List.length_append, ← HQ.out]; exact HO9.out), Lib.hid (by rw [List.length_append, HL.out]; simp; omega), Lib.hid (fun c hc => by
            rcases List.mem_append.1 hc with h | h
            · exact HAR.out c h
            · rw [List.mem_singleton.1 h]; exact Nat.zero_le _), HX9⟩
          case measure => simp [intOf]; omega
      · obtain ⟨A', k', rfl, hs⟩ := HO.out.slice
        have hll : l.length ≤ 1000 := by have := HL.out; have := HFO.out.1; omega
        obtain ⟨q, hq⟩ : ∃ q, q = l.length := ⟨_, rfl⟩
        rw [← hq] at hll
        have HQ := Lib.hid hq
        have HS : Hid (SliceAt cellR wr (Old wr) A' k' l) := Lib.hid (hs.sub fun k hk => hk.2)
        have HC2 := Lib.hid (cp_any HS.out hq HAR.out (by omega))
        have HNW := Lib.hid (fun (W : World) (A2 : Option Addr) (k2 n2 : Nat) (h1 : SliceAt cellR W (Old W) A2 k2 l) (h2 : n2 = l.length) => New_any h1 h2 HAR.out)
        have HRN := Lib.hid (fun (W : World) (hx : Ext wr W) => refNew_any (HS.out.ext hx) HQ.out HAR.out)
        have HXW := Lib.hid (HD3.out.trans HX.out)
        clear hs
        rw [← hq]
        clear hq
        go_wp2_with fail
        refine HC2.out.mono ?_
        rintro e5 w5 ⟨A5, k5, n5, hn5, rfl, hs5, d5⟩
        have HX5 := Lib.hid d5
        have HN5 := Lib.hid (HNW.out w5 A5 k5 n5 hs5 hn5)
        clear d5 hs5 hn5 HC2
        go_wp2_with fail
        refine HN5.out.mono ?_
        rintro e6 w6 ⟨d6, hr6⟩
        have HX6 := Lib.hid (HX5.out.trans d6)
        clear d6 HN5
        rcases hr6 with ⟨h0, rfl⟩ | ⟨h0, rfl, _⟩
        · have hx1 : (E.newErr l == 0) = false := by rw [beq_eq_false_iff_ne]; exact h0
          have hx2 : (E.newErr l == E.newErr l) = true := by simp
          have H0 := Lib.hid h0
          obtain ⟨x, hx⟩ : ∃ x, x = E.newErr l := ⟨_, rfl⟩
          rw [← hx] at hx1 hx2 ⊢
          have HX := Lib.hid hx
          clear hx h0
          go_wp2_with fail
          refine (HRN.out _ HX6.out).mono ?_
          rintro e7 w7 ⟨d7, hr7⟩
          have HX7 := Lib.hid (HX6.out.trans d7)
          rcases hr7 with ⟨_, rfl⟩ | ⟨h1, _⟩
          · rw [← HX.out]
            clear d7
            go_wp2_with fail
            go_ret
            exact ⟨rfl, (HXW.out.trans HX7.out).alloc _⟩
          · exact absurd h1 H0.out
        · have H0 := Lib.hid h0
          clear h0
          go_wp2_with fail
          refine (HRN.out _ HX6.out).mono ?_
          rintro e7 w7 ⟨d7, hr7⟩
          have HX7 := Lib.hid (HX6.out.trans d7)
          rcases hr7 with ⟨h1, _⟩ | ⟨_, bv, bm, rfl, _⟩
          · exact absurd H0.out h1
          · clear d7
            go_wp2_with fail
            go_ret
            exact ⟨rfl, (HXW.out.trans HX7.out).alloc _⟩
end Go.Proofs.YtkeaoejgboefbaaDoor

/- slices.Repeat of one string, eight times. -/
namespace Go.Proofs.YtkeaoejgboefbaaDoor
open Go.RowKit Go.Maps

/-- A row of eight strings, of which the first m are s. -/
def rowS (m : Nat) (s : ByteArray) : List Value := List.replicate m (.string s) ++ List.replicate (8 - m) (.string ⟨#[]⟩)
def RowS (w : World) (g m : Nat) (s : ByteArray) : Prop := w.heap[g]? = some (.cells (rowS m s).toArray 9 (0, 0))
theorem rowS_len {m : Nat} (hm : m ≤ 8) (s : ByteArray) : (rowS m s).length = 8 := by unfold rowS; simp; omega
theorem rowS_get {m j : Nat} (h : j < m) (s : ByteArray) : (rowS m s)[j]? = some (.string s) := by
  unfold rowS
  rw [List.getElem?_append_left (by simpa using h)]
  simp [h]
/-- k more are copied. -/
theorem RowS.copied {w : World} {g m k : Nat} {s : ByteArray} (h : RowS w g m s) (hk : m + k ≤ 8) (a : Addr) (sc dc ty : Nat) (hsrc : ∀ j, j < k → w.cell? (a.add j) = some (.string s)) (dl sl : Nat) (hn : k = Nat.min sl dl) :
    ∃ w', (Builtin.copy_ #[30, 30] ty #[.slice (some ⟨g, m, none⟩) dl dc, .slice (some a) sl sc]).run Tryd.prog w = .ok (.int .i64 (k : Int)) w' ∧ RowS w' g (m + k) s ∧ w.grownBy w' (some g) := by
  have hr := run_copy_row (P := Tryd.prog) w 30 30 ty 9 g m dl dc a sl sc (rowS m s).toArray 9 (List.replicate k (.string s)) Tryd.underlying30 (by kernel_rfl) h (by simpa using hn) (fun j v hj => by
    have hjk : j < k := by
      rcases Nat.lt_or_ge j k with h | h
      · exact h
      · rw [List.getElem?_eq_none (by simpa using h)] at hj; cases hj
    rw [hsrc j hjk, ← hj]
    simp [hjk]) (by rw [List.length_replicate, List.size_toArray, rowS_len (by omega)]; exact hk) (fun v hv => by rw [(List.mem_replicate.1 hv).2]; rfl)
  have hnew : ((rowS m s).take m ++ List.replicate k (.string s) ++ (rowS m s).drop (m + k)) = rowS (m + k) s := by
    unfold rowS
    rw [List.take_left' (by simp), List.drop_append, List.drop_of_length_le (by simp), List.nil_append, List.drop_replicate, List.replicate_append_replicate]
    simp
    omega
  rw [List.length_replicate] at hr
  have hl : (rowS m s).toArray.toList = rowS m s := rfl
  rw [hl, hnew] at hr
  refine ⟨_, hr, setRow_heap w g _ _ 9 (0, 0) h, ⟨rfl, rfl, rfl, by simp, fun j _ hj => setRow_other w g j _ fun e => hj (by rw [e])⟩⟩
set_option maxRecDepth 100000 in
theorem slice_tail8 (w : World) (g m : Nat) (hm : m < 8) : (Instr.slice 30 (.slice (some ⟨g, 0, none⟩) 8 8) (some (.int .i64 (m : Int))) none none).run Tryd.prog w = .ok (.slice (some ⟨g, m, none⟩) (8 - m) (8 - m)) w := run_slice_tail w g m 8 hm
theorem slice_lead8 (w : World) (g m : Nat) (hm : m < 8) : (Instr.slice 30 (.slice (some ⟨g, 0, none⟩) 8 8) none (some (.int .i64 (m : Int))) none).run Tryd.prog w = .ok (.slice (some ⟨g, 0, none⟩) m 8) w := run_slice_lead w g m 8 hm
set_option maxRecDepth 100000 in
set_option maxHeartbeats 2000000 in
theorem RepeatS_any {w : World} {A : Option Addr} {k : Nat} {s : ByteArray} (hA : SliceAt strR w (Old w) A k [s]) :
    Calls Tryd.prog 25 #[.slice A 1 k, .int .i64 8] w fun e w' => ∃ A' k', e = .returned (.slice A' 8 k') ∧ SliceAt strR w' (fun b => w.heap.size ≤ b ∧ b < w'.heap.size) A' k' (List.replicate 8 s) ∧ Ext w w' := by
  obtain ⟨b, off, hAe, hbb, d0, hz⟩ := str_get hA (k := 0) (Nat.zero_lt_succ _)
  subst hAe
  replace d0 : w.cell? ⟨b, off, none⟩ = some (.string s) := by simpa using d0
  replace hz : s.size ≤ 9223372036854775807 := hz
  have HM : Hid (Calls Tryd.prog 37 #[.int .u64 1, .int .u64 8] w fun e w' => e = .returned (.tuple #[.int .u64 0, .int .u64 8]) ∧ w' = w) := Lib.hid (Tryd.bits_Mul 1 8 (by decide) (by decide) w)
  obtain ⟨i0, hi, hz0, hz1, hz2⟩ := info_parts str_info
  have hmk : ∀ W : World, (Instr.makeSlice 30 (.int .i64 8) (.int .i64 8)).run Tryd.prog W = .ok (.slice (some ⟨W.heap.size, 0, none⟩) 8 8) (W.alloc (.cells (rowS 0 s).toArray 9)) := fun W => by
    have h := run_make (P := Tryd.prog) W 30 9 i0 _ Tryd.underlying30 hi hz0 .i64 .i64 (8 : Int) (8 : Int) (by omega) (by omega) (by rw [hz2]; omega) (by omega)
    have e : madeCells (Value.string ⟨#[]⟩).cells ((8 : Int).toNat * 1) = (rowS 0 s).toArray := by
      rw [← Array.toList_inj]
      simp [madeCells, rowS, Value.cells]
      rfl
    rw [hz1, e] at h
    exact h
  obtain ⟨W1, hW1⟩ : ∃ W1, W1 = w.alloc (.cells (rowS 0 s).toArray 9) := ⟨_, rfl⟩
  have X1 : Ext w W1 := by rw [hW1]; exact (Ext.refl w).alloc _
  have hr1 : RowS W1 w.heap.size 0 s := by rw [hW1]; exact heap_alloc_new w _
  obtain ⟨W2, hcp, hr2, hg2⟩ := hr1.copied (k := 1) (by decide) ⟨b, off, none⟩ k 8 3 (fun j hj => by rw [show j = 0 from Nat.lt_one_iff.1 hj, Addr.add_lit]; exact X1.keepc d0) 8 1 rfl
  have HR2 := Lib.hid hr2
  have HX2 := Lib.hid (X1.grownNew (Nat.le_refl _) hg2)
  subst hW1
  have HCP := Lib.hid hcp
  have HZ := Lib.hid hz
  clear hA hi hz0 hz1 hz2 hr1 hr2 hg2 X1 hcp
  go_enter Tryd.func25, Tryd.ntmps25
  go_wp2_with fail
  refine HM.out.mono ?_
  rintro e w0 ⟨rfl, rfl⟩
  go_wp2_with (refine Lib.wpList_copy_run _ rfl (.tmp 31) (.tmp 32) 30 30 rfl _ _ rfl rfl HCP.out ?_)
  obtain ⟨g, hg⟩ : ∃ g, g = w0.heap.size := ⟨_, rfl⟩
  have HGE := Lib.hid hg
  have HGW : Hid (w0.heap.size ≤ g) := Lib.hid (by rw [hg]; exact Nat.le_refl _)
  rw [← hg] at HR2 ⊢
  clear hg hmk HCP

  go_loopw [8] (fun v wr => ∃ m : Nat, v = .int .i64 m ∧ (m = 1 ∨ m = 2 ∨ m = 4 ∨ m = 8) ∧ Hid (RowS wr g m s) ∧ Hid (Ext w0 wr)) (fun v _ => 8 - (intOf v).toNat)
  case atStart => exact ⟨1, rfl, .inl rfl, HR2, HX2⟩
  case round =>
    obtain ⟨m, rfl, hm, HR, HX⟩ := hrel
    by_cases hm8 : m < 8
    · have hlo := fun W => slice_tail8 W g m hm8
      have hle := fun W => slice_lead8 W g m hm8
      have hmin : m = Nat.min m (8 - m) := (Nat.min_eq_left (by omega)).symm
      obtain ⟨W3, hcp, hr3, hg3⟩ := (show RowS wr.drew g m s from HR.out).copied (k := m) (by omega) ⟨g, 0, none⟩ 8 (8 - m) 3 (fun j hj => by rw [Addr.add_lit, Nat.zero_add, cell_of_row wr.drew g j _ _ _ (show RowS wr.drew g m s from HR.out), List.getElem?_toArray]; exact rowS_get hj s) (8 - m) m hmin
      have HCP := Lib.hid hcp
      have HR3 := Lib.hid hr3
      have HX3 : Hid (Ext w0 W3) := Lib.hid (HX.out.drew.grownNew HGW.out hg3)
      clear hcp hr3 hg3 hmin
      obtain ⟨Φ, hΦ⟩ : ∃ Φ : World → Prop, ∀ w', Φ w' ↔ True := ⟨_, fun _ => Iff.rfl⟩
      have h0 : Φ wr.drew := (hΦ _).2 trivial
      have hne1 := Lat.some h0
      have HΦ := Lib.hid hΦ
      clear hΦ
      go_upto_region 9 with (fail)
      refine wp_region_lat [7] Φ h0 (by kernel_rfl) (by kernel_rfl) (by kernel_rfl) ?_
      iterate 7 (refine lex_pure rfl rfl rfl ?_; intro K hK; go_big_quiet_op; go_big_quiet_on)
      refine lex_eff rfl ?_
      refine Lib.wpList_copy_run _ rfl (.tmp 41) (.tmp 44) 30 30 rfl _ _ rfl rfl HCP.out ?_
      go_wp2_with fail
      refine ⟨⟨⟨W3, (HΦ.out _).2 trivial⟩, rfl⟩, ?_⟩
      iterate 2 (refine lex_pure rfl rfl rfl ?_; intro K hK; go_big_quiet_op; go_big_quiet_on)
      refine lex_nil ?_
      clear hlo hle hne1 h0 HΦ
      go_wp2_with fail
      go_roundw
      case rel => exact ⟨m + m, by go_num, by omega, HR3, HX3⟩
      case measure => simp [intOf]; omega
    · obtain rfl : m = 8 := by omega
      clear hm
      go_wp2_with fail
      go_ret
      refine ⟨some ⟨g, 0, none⟩, 8, rfl, ⟨by rw [List.length_replicate]; exact Nat.le_refl _, by decide, fun _ => ⟨g, 0, rfl, ⟨by rw [HGE.out]; exact Nat.le_refl _, (Array.getElem?_eq_some_iff.1 HR.out).1⟩, fun i hi => ⟨[.string s], ⟨by rw [List.getElem_replicate], by rw [List.getElem_replicate]; exact HZ.out⟩, fun j u hj => ?_⟩⟩⟩, HX.out⟩
      rw [cell_of_row wr g _ _ _ _ HR.out, List.getElem?_toArray]
      have hi8 : i < 8 := by simpa using hi
      match j with
      | 0 =>
        obtain rfl : Value.string s = u := by simpa using hj
        rw [Nat.zero_add, Nat.add_zero]
        show (rowS 8 s)[i * 1]? = _
        rw [Nat.mul_one]
        exact rowS_get hi8 s
      | j + 1 => simp at hj
end Go.Proofs.YtkeaoejgboefbaaDoor

/- The engine on a chain of joins of eight copies. No program in sight. -/
namespace Go.Proofs.YtkeaoejgboefbaaDoor.E

def nmL : Nat → ByteArray
  | 0 => ⟨#[120]⟩
  | i + 1 => mk (List.replicate (i + 1) 121)
def cellL : Nat → Cell
  | 0 => (nmL 0, 1, [], ⟨#[]⟩)
  | i + 1 => (nmL (i + 1), 2, List.replicate 8 (nmL i), ⟨#[]⟩)
def chainC (d : Nat) : List Cell := (List.range (d + 1)).map cellL
theorem chain_new : ∀ d, d < 7 → newErr (chainC d) = 0 := by decide +kernel
instance : DecidableEq (Option Cell) := inferInstance
theorem chain_find_b : ∀ d : Fin 7, ∀ i : Fin 7, i.1 < d.1 + 1 → findC (chainC d.1) (nmL i.1) = some (cellL i.1) := by decide +kernel
theorem chain_find (d : Nat) (hd : d < 7) (i : Nat) (hi : i < d + 1) : findC (chainC d) (nmL i) = some (cellL i) := chain_find_b ⟨d, hd⟩ ⟨i, by omega⟩ hi
theorem nmL_size : ∀ i, (nmL (i + 1)).size = i + 1 := fun i => by rw [nmL, mk_size, List.length_replicate]
theorem nmL_inj : ∀ i j, nmL (i + 1) = nmL (j + 1) → i = j := fun i j h => by
  have := congrArg ByteArray.size h
  rw [nmL_size, nmL_size] at this
  omega
theorem runF_join {g : Nm → Except Int V} {p : Nm} {s t : ByteArray} (h : g p = .ok (some s)) : ∀ (m : Nat) (acc : List ByteArray), runF g (joinP t (List.replicate m p) acc) = .ok (some (joinT (acc ++ List.replicate m s) t))
  | 0, acc => by rw [List.replicate_zero, List.replicate_zero, List.append_nil]; rfl
  | m + 1, acc => by
    rw [List.replicate_succ, joinP, runF, h]
    simp only
    rw [runF_join h m, List.replicate_succ, List.append_assoc]
    rfl
theorem runF_join_err {g : Nm → Except Int V} {p : Nm} {t : ByteArray} {e : Int} (h : g p = .error e) (m : Nat) (acc : List ByteArray) : runF g (joinP t (List.replicate (m + 1) p) acc) = .error e := by
  rw [List.replicate_succ, joinP, runF, h]
theorem join_flat : ∀ xs : List (List UInt8), (Lib.join xs []).length = (xs.map List.length).sum
  | [] => rfl
  | [x] => by simp [Lib.join, List.intercalate]
  | x :: y :: xs => by
    have ih := join_flat (y :: xs)
    unfold Lib.join List.intercalate at ih ⊢
    rw [List.intersperse_cons_cons, List.flatten_cons, List.flatten_cons, List.length_append, List.length_append, ih]
    simp
theorem joinT_size (s : ByteArray) (m : Nat) : (joinT (List.replicate m s) ⟨#[]⟩).size = m * s.size := by
  have h : s.data.toList.length = s.size := Array.length_toList
  unfold joinT
  rw [mk_size, show (⟨#[]⟩ : ByteArray).data.toList = [] from rfl, join_flat, List.map_replicate, List.map_replicate, h, List.sum_replicate_nat]
/-- From scratch: n * 8 ^ i bytes, or too large. -/
theorem chain_fr {d : Nat} (hd : d < 7) {vals : Nm → V} {a : ByteArray} (ha : vals (nmL 0) = some a) (ha2 : a.size ≤ 65536) : ∀ (i : Nat), i < d + 1 → ∀ (k : Nat) (opn : List Nm), i < k → (∀ j, j ≤ i → nmL j ∉ opn) →
    (a.size * 8 ^ i ≤ 65536 ∧ ∃ s, fr (findC (chainC d)) vals form k opn (nmL i) = .ok (some s) ∧ s.size = a.size * 8 ^ i) ∨ (65536 < a.size * 8 ^ i ∧ fr (findC (chainC d)) vals form k opn (nmL i) = .error eLarge) := by
  intro i
  induction i with
  | zero =>
    intro hi k opn hk ho
    obtain ⟨k, rfl⟩ : ∃ k', k = k' + 1 := ⟨k - 1, by omega⟩
    refine .inl ⟨by simpa using ha2, a, ?_, by simp⟩
    rw [fr, chain_find d hd 0 hi]
    simp only
    rw [show isIn (cellL 0) = true from rfl, ha]
    rfl
  | succ i ih =>
    intro hi k opn hk ho
    obtain ⟨k, rfl⟩ : ∃ k', k = k' + 1 := ⟨k - 1, by omega⟩
    have hn := has_not (ho (i + 1) (Nat.le_refl _))
    have ih := ih (by omega) k (nmL (i + 1) :: opn) (by omega) (fun j hj hm => by
      rcases List.mem_cons.1 hm with e | e
      · cases j with
        | zero => have := congrArg ByteArray.size e; rw [nmL_size] at this; have e2 : (nmL 0).size = 1 := rfl; rw [e2] at this; have h0 : i = 0 := (by omega); subst h0; exact absurd e (by decide +kernel)
        | succ j => have := nmL_inj j i e; omega
      · exact ho j (by omega) e)
    have hform : form (cellL (i + 1)) = joinP ⟨#[]⟩ (List.replicate 8 (nmL i)) [] := rfl
    have hp : a.size * 8 ^ (i + 1) = 8 * (a.size * 8 ^ i) := by rw [Nat.pow_succ]; rw [← Nat.mul_assoc, Nat.mul_comm]
    rw [fr, chain_find d hd (i + 1) hi]
    simp only
    rw [show isIn (cellL (i + 1)) = false from rfl, hn]
    simp only [Bool.false_eq_true, if_false]
    rw [hform, hp]
    rcases ih with ⟨h1, s, h2, h3⟩ | ⟨h1, h2⟩
    · rw [runF_join h2 8 []]
      simp only [List.nil_append]
      have hz := joinT_size s 8
      by_cases hb : 65536 < 8 * s.size
      · rw [show big (some (joinT (List.replicate 8 s) ⟨#[]⟩)) = true from decide_eq_true (by rw [hz]; exact hb)]
        exact .inr ⟨by rw [← h3]; exact hb, rfl⟩
      · rw [show big (some (joinT (List.replicate 8 s) ⟨#[]⟩)) = false from decide_eq_false (by rw [hz]; exact hb)]
        exact .inl ⟨by rw [← h3]; omega, _, rfl, by rw [hz, h3]⟩
    · rw [runF_join_err h2 7 []]
      exact .inr ⟨by omega, rfl⟩
/-- The reads of a join begin with its first argument. -/
theorem trace_join {t : ByteArray} {p : Nm} {m : Nat} {acc : List ByteArray} {rs : List (Nm × V)} {v : V} (h : Trace (joinP t (List.replicate (m + 1) p) acc) rs v) : ∃ u, (p, u) ∈ rs := by
  rw [List.replicate_succ, joinP] at h
  cases h with
  | ask n k u rs w h => exact ⟨u, List.mem_cons_self⟩
/-- All of the chain below comes up to date. -/
theorem chain_all {d : Nat} (hd : d < 7) {e : En} (he : e.cells = chainC d) {U : List Nm} (hI : InvE e U) : ∀ (i j : Nat), i + j < d → nmL (i + j + 1) ∈ U → nmL (i + 1) ∈ U := by
  intro i j
  induction j with
  | zero => intro _ h; exact h
  | succ j ih =>
    intro hlt h
    refine ih (by omega) ?_
    obtain ⟨x, hxl, hx⟩ := List.getElem_of_mem h
    obtain ⟨m, hm, _⟩ := (hI.mem _).1 h
    obtain ⟨c, hc, _, ht, _⟩ := hI.form _ m hm
    have hcc : findC e.cells (nmL (i + j + 1 + 1)) = some (cellL (i + j + 1 + 1)) := by rw [he]; exact chain_find d hd (i + j + 1 + 1) (by omega)
    obtain rfl : cellL (i + j + 1 + 1) = c := Option.some.inj (hcc.symm.trans hc)
    obtain ⟨u, hu⟩ := trace_join (p := nmL (i + j + 1)) (m := 7) (t := ⟨#[]⟩) (acc := []) ht
    have hg := hI.back x hxl m (by rw [hx]; exact hm) _ hu
    unfold Good at hg
    have hcd : findC e.cells (nmL (i + j + 1)) = some (cellL (i + j + 1)) := by rw [he]; exact chain_find d hd (i + j + 1) (by omega)
    rw [hcd] at hg
    simp only at hg
    rw [show isIn (cellL (i + j + 1)) = false from rfl] at hg
    exact List.mem_of_mem_take hg.1
end Go.Proofs.YtkeaoejgboefbaaDoor.E

/- EngineLarge in plain words. -/
namespace Go.Proofs.YtkeaoejgboefbaaDoor
open Go.RowKit Go.Maps

theorem sub_length {l m : List E.Nm} (hn : l.Nodup) (hm : ∀ x ∈ l, x ∈ m) : l.length ≤ m.length := by
  induction l generalizing m with
  | nil => exact Nat.zero_le _
  | cons x l ih =>
    obtain ⟨h1, h2⟩ := List.nodup_cons.1 hn
    have hx := hm x List.mem_cons_self
    obtain ⟨s, t, rfl⟩ := List.append_of_mem hx
    have := ih (m := s ++ t) h2 fun y hy => by
      have := hm y (List.mem_cons_of_mem _ hy)
      rcases List.mem_append.1 this with h | h
      · exact List.mem_append_left _ h
      · rcases List.mem_cons.1 h with e | h
        · exact absurd (e ▸ hy) h1
        · exact List.mem_append_right _ h
    simp only [List.length_append, List.length_cons] at this ⊢
    omega
theorem chain_names : ∀ d : Fin 7, ((E.chainC d.1).filter fun c => !E.isIn c).length = d.1 := by decide +kernel
theorem chain_length (d : Nat) : (E.chainC d).length = d + 1 := by unfold E.chainC; simp
theorem large_get {d : Nat} (hd : d < 7) {a : ByteArray} (ha : a.size ≤ 65536) {e : E.En} (he : e = (E.setE (E.fresh (E.chainC d)) (E.nmL 0) a).2) :
    (65536 < a.size * 8 ^ d ∧ (E.getE e (E.nmL d)).1 = none ∧ (E.getE e (E.nmL d)).2.1 = 10 ∧ (E.getE e (E.nmL d)).2.2.st.cnt = 0) ∨
    (a.size * 8 ^ d ≤ 65536 ∧ ∃ s, (E.getE e (E.nmL d)).1 = some s ∧ s.size = a.size * 8 ^ d ∧ (E.getE e (E.nmL d)).2.1 = 0 ∧ (E.getE e (E.nmL d)).2.2.st.cnt = d) := by
  have hcells : e.cells = E.chainC d := by rw [he]; exact E.set_cells _ _ _
  have hin : E.inputB (E.fresh (E.chainC d)) (E.nmL 0) = true := by
    show (match E.findC (E.chainC d) (E.nmL 0) with | none => false | some c => E.isIn c) = true
    rw [E.chain_find d hd 0 (by omega)]
    rfl
  have hvals : e.vals (E.nmL 0) = some a := by
    rw [he, E.set_vals hin ha]
    exact if_pos rfl
  have hst : e.st = ⟨fun _ => none, 0⟩ := by rw [he, (set_st _ _ _).1]; rfl
  have hI : E.InvE e [] := E.inv_nil (fun n m h => by rw [hst] at h; cases h) (fun n m h => by rw [hst] at h; cases h)
  have hfd : E.findC e.cells (E.nmL d) = some (E.cellL d) := by rw [hcells]; exact E.chain_find d hd d (by omega)
  have hfr := E.chain_fr hd hvals ha d (by omega) (E.fuel e) [] (by unfold E.fuel; rw [hcells, chain_length]; omega) (fun _ _ => List.not_mem_nil)
  have hfe : E.freshE e (E.nmL d) = match E.fr (E.findC (E.chainC d)) e.vals E.form (E.fuel e) [] (E.nmL d) with
    | .error x => (none, x)
    | .ok v => (v, 0) := by
    unfold E.freshE
    rw [hfd, hcells]
    rfl
  rcases hfr with ⟨h1, s, h2, h3⟩ | ⟨h1, h2⟩
  · rw [h2] at hfe
    refine .inr ⟨h1, s, ?_⟩
    rcases E.get_spec hI (E.nmL d) with ⟨x, hx, hg, hf⟩ | ⟨v, S, W, hg, hf, hinv, _, _, _, hex, hgood, _⟩
    · rw [hf] at hfe
      exact absurd (congrArg Prod.fst hfe) (by simp)
    · rw [hf] at hfe
      have hv : v = some s := congrArg Prod.fst hfe
      rw [hg, hv]
      refine ⟨rfl, h3, rfl, ?_⟩
      have hclean : E.Clean e.rev e.st := fun n m h => by rw [hst] at h; cases h
      have hcnt := (hex hclean).2
      rw [hst] at hcnt
      have hcnt : S.cnt = W.length := by simpa using hcnt
      show S.cnt = d
      rw [hcnt]
      have hle : W.length ≤ d := by
        have := E.inv_length hinv
        rw [List.nil_append] at this
        have h4 : (E.names { e with st := S }).length = d := by
          unfold E.names
          rw [List.length_map]
          show (e.cells.filter _).length = d
          rw [hcells]
          exact chain_names ⟨d, hd⟩
        omega
      have hge : d ≤ W.length := by
        cases d with
        | zero => exact Nat.zero_le _
        | succ d =>
          have hmem : E.nmL (d + 1) ∈ ([] : List E.Nm) ++ W := by
            unfold E.Good at hgood
            simp only at hgood
            rw [hfd] at hgood
            simp only at hgood
            rw [show E.isIn (E.cellL (d + 1)) = false from rfl] at hgood
            exact hgood.1
          have hall := fun i (hi : i < d + 1) => E.chain_all hd (e := { e with st := S }) hcells hinv i (d - i) (by omega) (by rw [show i + (d - i) + 1 = d + 1 by omega]; exact hmem)
          have hnd : ((List.range (d + 1)).map fun i => E.nmL (i + 1)).Nodup := by
            unfold List.Nodup
            rw [List.pairwise_map]
            exact List.nodup_range.imp fun {i j} hij h => hij (E.nmL_inj i j h)
          have := sub_length hnd (m := [] ++ W) fun x hx => by
            obtain ⟨i, hi, rfl⟩ := List.mem_map.1 hx
            exact hall i (List.mem_range.1 hi)
          simpa using this
      omega
  · rw [h2] at hfe
    refine .inl ⟨h1, ?_⟩
    rcases E.get_spec hI (E.nmL d) with ⟨x, hx, hg, hf⟩ | ⟨v, S, W, hg, hf, _⟩
    · rw [hf] at hfe
      have hxe : x = E.eLarge := congrArg Prod.snd hfe
      rw [hg]
      exact ⟨rfl, hxe, by rw [hst]⟩
    · rw [hf] at hfe
      exact absurd (congrArg Prod.snd hfe) (by show (0 : Int) ≠ 10; decide)
/-- Nothing has a value yet. -/
theorem inputs_fresh (cs : List E.Cell) : E.inputsE (E.fresh cs) = [] := by
  have key : ∀ (l : List E.Cell) (t : T.Tr), l.foldl (E.inStep (E.fresh cs).vals) t = t := by
    intro l
    induction l with
    | nil => intro t; rfl
    | cons c l ih => intro t; exact ih t
  exact key _ _
theorem large_big {d : Nat} (hd : d < 7) {a : ByteArray} (ha : 65536 < a.size) : E.setE (E.fresh (E.chainC d)) (E.nmL 0) a = (10, E.fresh (E.chainC d)) := by
  have hin : E.inputB (E.fresh (E.chainC d)) (E.nmL 0) = true := by
    show (match E.findC (E.chainC d) (E.nmL 0) with | none => false | some c => E.isIn c) = true
    rw [E.chain_find d hd 0 (by omega)]
    rfl
  unfold E.setE
  rw [if_neg (by rw [hin]; decide), if_pos ha]
theorem large_set {d : Nat} (hd : d < 7) {a : ByteArray} (ha : a.size ≤ 65536) : (E.setE (E.fresh (E.chainC d)) (E.nmL 0) a).1 = 0 := by
  have hin : E.inputB (E.fresh (E.chainC d)) (E.nmL 0) = true := by
    show (match E.findC (E.chainC d) (E.nmL 0) with | none => false | some c => E.isIn c) = true
    rw [E.chain_find d hd 0 (by omega)]
    rfl
  unfold E.setE
  rw [if_neg (by rw [hin]; decide), if_neg (by omega)]
theorem chain_succ (j : Nat) : E.chainC (j + 1) = E.chainC j ++ [E.cellL (j + 1)] := by unfold E.chainC; rw [List.range_succ, List.map_append]; rfl
theorem chain_get (d : Nat) {i : Nat} (hi : i < (E.chainC d).length) : (E.chainC d)[i] = E.cellL i := by
  have hi2 : i < d + 1 := by rw [← chain_length d]; exact hi
  have : (E.chainC d)[i]? = some (E.cellL i) := by
    unfold E.chainC
    rw [List.getElem?_map, List.getElem?_range hi2]
    rfl
  rw [List.getElem?_eq_getElem hi] at this
  exact Option.some.inj this
theorem nmL_cat (j : Nat) : (⟨#[121]⟩ : ByteArray) ++ E.mk (List.replicate j 121) = E.nmL (j + 1) := by
  refine bytes_inj ?_
  rw [ByteArray.data_append]
  show ((#[121] : Array UInt8) ++ (List.replicate j 121).toArray).toList = (List.replicate (j + 1) 121).toArray.toList
  simp [List.replicate_succ]
theorem nmL_le : ∀ j, j < 7 → (E.nmL j).size ≤ 200
  | 0, _ => by decide
  | j + 1, h => by rw [E.nmL_size]; omega
end Go.Proofs.YtkeaoejgboefbaaDoor

/- The sorted keys of a map of strings: contracts of the library, laid at this program by the shelf. No conditions. -/
namespace Go.Proofs
open Go.Shelf
def Tryd.keys48_ren : Go.Shelf.Ren := ⟨fun | 7 => 48 | 10 => 65 | n => n, fun | 23 => 71 | 26 => 9 | 3 => 9 | 28 => 116 | 0 => 0 | 27 => 115 | 33 => 110 | 4 => 4 | n => n, fun | n => n⟩
theorem Tryd.keys48 : Go.Proofs.SlLaysZ.n7 Tryd.prog Tryd.keys48_ren := {
  mixed := by kernel_rfl
  f7 := ⟨Tryd.f48.name, by decide, Tryd.func48.trans (congrArg some (by kernel_rfl))⟩
  f10 := ⟨Tryd.f65.name, by decide, Tryd.func65.trans (congrArg some (by kernel_rfl))⟩
  t0 := Tryd.underlying0
  a0 := Tryd.isAgg0
  z0 := Tryd.sizeOf0
  v0 := Tryd.zeroValue0
  t4 := Tryd.underlying4
  a4 := Tryd.isAgg4
  z4 := Tryd.sizeOf4
  v4 := Tryd.zeroValue4
  t23 := Tryd.underlying71
  a23 := Tryd.isAgg71
  z23 := Tryd.sizeOf71
  v23 := Tryd.zeroValue71
  t26 := Tryd.underlying9
  a26 := Tryd.isAgg9
  z26 := Tryd.sizeOf9
  v26 := Tryd.zeroValue9
  t27 := Tryd.underlying115
  a27 := Tryd.isAgg115
  z27 := Tryd.sizeOf115
  v27 := Tryd.zeroValue115
  t28 := Tryd.underlying116
  a28 := Tryd.isAgg116
  z28 := Tryd.sizeOf116
  v28 := Tryd.zeroValue116
  t33 := Tryd.underlying110
  a33 := Tryd.isAgg110
  z33 := Tryd.sizeOf110
  v33 := Tryd.zeroValue110 }
def Tryd.sorted47_ren : Go.Shelf.Ren := ⟨fun | 6 => 47 | 8 => 63 | 9 => 64 | 11 => 73 | 13 => 75 | 12 => 74 | 23 => 91 | 24 => 92 | 14 => 82 | 15 => 83 | 16 => 84 | 17 => 85 | 18 => 86 | 19 => 87 | 20 => 88 | 21 => 89 | 22 => 90 | 25 => 98 | 26 => 99 | 27 => 100 | 28 => 101 | 29 => 102 | 30 => 103 | 31 => 112 | n => n, fun | 26 => 9 | 28 => 116 | 24 => 30 | 0 => 0 | 3 => 3 | 37 => 96 | 48 => 127 | 50 => 130 | 4 => 4 | 40 => 159 | 39 => 158 | 45 => 136 | 5 => 5 | 9 => 9 | 51 => 169 | 55 => 173 | 57 => 178 | 58 => 137 | 33 => 110 | n => n, fun | n => n⟩
theorem Tryd.sorted47 : Go.Proofs.SlLaysZ.n6 Tryd.prog Tryd.sorted47_ren := {
  mixed := by kernel_rfl
  f6 := ⟨Tryd.f47.name, by decide, Tryd.func47.trans (congrArg some (by kernel_rfl))⟩
  f8 := ⟨Tryd.f63.name, by decide, Tryd.func63.trans (congrArg some (by kernel_rfl))⟩
  f11 := ⟨Tryd.f73.name, by decide, Tryd.func73.trans (congrArg some (by kernel_rfl))⟩
  t0 := Tryd.underlying0
  a0 := Tryd.isAgg0
  z0 := Tryd.sizeOf0
  v0 := Tryd.zeroValue0
  t24 := Tryd.underlying30
  a24 := Tryd.isAgg30
  z24 := Tryd.sizeOf30
  v24 := Tryd.zeroValue30
  t26 := Tryd.underlying9
  a26 := Tryd.isAgg9
  z26 := Tryd.sizeOf9
  v26 := Tryd.zeroValue9
  t28 := Tryd.underlying116
  a28 := Tryd.isAgg116
  z28 := Tryd.sizeOf116
  v28 := Tryd.zeroValue116
  i26 := by kernel_rfl }
def Tryd.sort64_ren : Go.Shelf.Ren := ⟨fun | 6 => 64 | 8 => 75 | 9 => 74 | 19 => 91 | 20 => 92 | 21 => 82 | 22 => 83 | 23 => 84 | 24 => 85 | 25 => 86 | 26 => 87 | 27 => 88 | 28 => 89 | 29 => 90 | 36 => 98 | 31 => 99 | 32 => 100 | 37 => 101 | 38 => 102 | 39 => 103 | 41 => 112 | n => n, fun | 27 => 30 | 29 => 9 | 3 => 3 | 32 => 96 | 26 => 30 | 0 => 0 | 44 => 127 | 46 => 130 | 4 => 4 | 36 => 159 | 35 => 158 | 41 => 136 | 5 => 5 | 9 => 9 | 53 => 169 | 57 => 173 | 63 => 178 | 64 => 137 | n => n, fun | n => n⟩
theorem Tryd.sort64 : Go.Proofs.SlLaysM.n6 Tryd.prog Tryd.sort64_ren := {
  mixed := by kernel_rfl
  f6 := ⟨Tryd.f64.name, by decide, Tryd.func64.trans (congrArg some (by kernel_rfl))⟩
  f8 := Tryd.func75.trans (congrArg some (by kernel_rfl))
  f9 := ⟨Tryd.f74.name, by decide, Tryd.func74.trans (congrArg some (by kernel_rfl))⟩
  f19 := Tryd.func91.trans (congrArg some (by kernel_rfl))
  f20 := Tryd.func92.trans (congrArg some (by kernel_rfl))
  f21 := ⟨Tryd.f82.name, by decide, Tryd.func82.trans (congrArg some (by kernel_rfl))⟩
  f22 := ⟨Tryd.f83.name, by decide, Tryd.func83.trans (congrArg some (by kernel_rfl))⟩
  f23 := ⟨Tryd.f84.name, by decide, Tryd.func84.trans (congrArg some (by kernel_rfl))⟩
  f24 := ⟨Tryd.f85.name, by decide, Tryd.func85.trans (congrArg some (by kernel_rfl))⟩
  f25 := ⟨Tryd.f86.name, by decide, Tryd.func86.trans (congrArg some (by kernel_rfl))⟩
  f26 := ⟨Tryd.f87.name, by decide, Tryd.func87.trans (congrArg some (by kernel_rfl))⟩
  f27 := ⟨Tryd.f88.name, by decide, Tryd.func88.trans (congrArg some (by kernel_rfl))⟩
  f28 := ⟨Tryd.f89.name, by decide, Tryd.func89.trans (congrArg some (by kernel_rfl))⟩
  f29 := ⟨Tryd.f90.name, by decide, Tryd.func90.trans (congrArg some (by kernel_rfl))⟩
  f31 := Tryd.func99.trans (congrArg some (by kernel_rfl))
  f32 := Tryd.func100.trans (congrArg some (by kernel_rfl))
  f36 := ⟨Tryd.f98.name, by decide, Tryd.func98.trans (congrArg some (by kernel_rfl))⟩
  f37 := ⟨Tryd.f101.name, by decide, Tryd.func101.trans (congrArg some (by kernel_rfl))⟩
  f38 := ⟨Tryd.f102.name, by decide, Tryd.func102.trans (congrArg some (by kernel_rfl))⟩
  f39 := ⟨Tryd.f103.name, by decide, Tryd.func103.trans (congrArg some (by kernel_rfl))⟩
  f41 := ⟨Tryd.f112.name, by decide, Tryd.func112.trans (congrArg some (by kernel_rfl))⟩
  t0 := Tryd.underlying0
  a0 := Tryd.isAgg0
  z0 := Tryd.sizeOf0
  v0 := Tryd.zeroValue0
  t3 := Tryd.underlying3
  a3 := Tryd.isAgg3
  z3 := Tryd.sizeOf3
  v3 := Tryd.zeroValue3
  t4 := Tryd.underlying4
  a4 := Tryd.isAgg4
  z4 := Tryd.sizeOf4
  v4 := Tryd.zeroValue4
  t5 := Tryd.underlying5
  a5 := Tryd.isAgg5
  z5 := Tryd.sizeOf5
  v5 := Tryd.zeroValue5
  t9 := Tryd.underlying9
  a9 := Tryd.isAgg9
  z9 := Tryd.sizeOf9
  v9 := Tryd.zeroValue9
  t26 := Tryd.underlying30
  a26 := Tryd.isAgg30
  z26 := Tryd.sizeOf30
  v26 := Tryd.zeroValue30
  t27 := Tryd.underlying30
  a27 := Tryd.isAgg30
  z27 := Tryd.sizeOf30
  v27 := Tryd.zeroValue30
  t29 := Tryd.underlying9
  a29 := Tryd.isAgg9
  z29 := Tryd.sizeOf9
  v29 := Tryd.zeroValue9
  t32 := Tryd.underlying96
  a32 := Tryd.isAgg96
  z32 := Tryd.sizeOf96
  v32 := Tryd.zeroValue96
  t35 := Tryd.underlying158
  a35 := Tryd.isAgg158
  z35 := Tryd.sizeOf158
  v35 := Tryd.zeroValue158
  t36 := Tryd.underlying159
  a36 := Tryd.isAgg159
  z36 := Tryd.sizeOf159
  v36 := Tryd.zeroValue159
  t41 := Tryd.underlying136
  a41 := Tryd.isAgg136
  z41 := Tryd.sizeOf136
  v41 := Tryd.zeroValue136
  t44 := Tryd.underlying127
  a44 := Tryd.isAgg127
  z44 := Tryd.sizeOf127
  v44 := Tryd.zeroValue127
  t46 := Tryd.underlying130
  a46 := Tryd.isAgg130
  z46 := Tryd.sizeOf130
  v46 := Tryd.zeroValue130
  t53 := Tryd.underlying169
  a53 := Tryd.isAgg169
  z53 := Tryd.sizeOf169
  v53 := Tryd.zeroValue169
  t57 := Tryd.underlying173
  a57 := Tryd.isAgg173
  z57 := Tryd.sizeOf173
  v57 := Tryd.zeroValue173
  t63 := Tryd.underlying178
  a63 := Tryd.isAgg178
  z63 := Tryd.sizeOf178
  v63 := Tryd.zeroValue178
  t64 := Tryd.underlying137
  a64 := Tryd.isAgg137
  z64 := Tryd.sizeOf137
  v64 := Tryd.zeroValue137 }
open Go.RowKit Go.Maps Go.Sort
theorem Tryd.sorts47 (m : Nat) : AnyZ.SortsIn Tryd.prog Tryd.sorted47_ren Fence.wide m :=
  ⟨fun blk off cap ss W hH hblk hsz => callsIn_wide.2 (AnyM.slices_Sort_string Tryd.sort64 blk off cap ss W hH hblk hsz),
   fun p cap W => callsIn_wide.2 (AnyM.slices_Sort_string_none Tryd.sort64 p cap W)⟩
theorem Tryd.maps_Keys_48 (mb : Option Nat) (W : World) : CallsIn Fence.wide 5 Tryd.prog 48 #[.map mb] W fun e w' => e = .returned (.func (.func 65) #[] #[.pointer (some ⟨W.heap.size, 0, none⟩)]) ∧ w' = W.alloc (.cells #[.map mb] 71) :=
  AnyZ.keys_in Tryd.keys48 Fence.wide 5 trivial rfl mb W
set_option maxHeartbeats 1000000 in
theorem Tryd.slices_Sorted_keys_47_48 {H : Type} (b nn : Nat) (D0 : DataW H) (R : Value → Option (DataW H × List MemPlace)) (w : World) (hown : w.ownsMap Tryd.prog 9 R b nn D0) (hmax : Maps.size D0 ≤ maxLen) (hbytes : Maps.size D0 * 16 ≤ 140737488355328) :
    CallsIn Fence.wide 5 Tryd.prog 47 #[.func (.func 65) #[] #[.pointer (some ⟨w.heap.size, 0, none⟩)]] (w.alloc (.cells #[.map (some b)] 71)) fun e w' => ∃ (v : Value) (ss : List (List UInt8)), e = .returned v ∧ ss.Perm (strKeys D0) ∧
      w'.ownsRow (w.alloc (.cells #[.map (some b)] 71)).heap.size 9 1 v ss.length ((ss.mergeSort (fun x y => decide (x ≤ y))).map encStr) ∧ (v = .slice none 0 0 ↔ ss = []) ∧ Below (w.alloc (.cells #[.map (some b)] 71)).heap.size (w.alloc (.cells #[.map (some b)] 71)) w' := by
  have hbl := hown.lt
  have hseq : SeqGives Fence.wide 2 Tryd.prog 65 #[.pointer (some ⟨w.heap.size, 0, none⟩)] encStr (fun ss => ss.Perm (strKeys D0)) (Maps.size D0) (w.alloc (.cells #[.map (some b)] 71)) :=
    AnyZ.keys_gives (ρ := Tryd.keys48_ren) { Tryd.keys48 with } Fence.wide _ trivial rfl (by omega) w.heap.size b nn D0 _ (by simp) (by simp) (by
      obtain ⟨es, clock, hb, Ft, hs, hD⟩ := hown
      exact ⟨es, clock, (Below.heap_alloc _ _ b hbl).trans hb, Ft, hs, hD⟩)
  exact AnyZ.sorted_in Tryd.sorted47 Fence.wide 5 trivial trivial trivial trivial rfl (by omega) (Tryd.sorts47 _) (enters_of Tryd.func64 (by kernel_rfl) rfl) 65 #[.pointer (some ⟨w.heap.size, 0, none⟩)] trivial (enters_of Tryd.func65 (by kernel_rfl) rfl) _ _ hmax hbytes _ hseq
end Go.Proofs
namespace Go.Proofs.YtkeaoejgboefbaaDoor
open Go.RowKit Go.Maps Go.Sort
theorem Keys_any (b : Nat) (w : World) : Calls Tryd.prog 48 #[.map (some b)] w fun e w' => e = .returned (.func (.func 65) #[] #[.pointer (some ⟨w.heap.size, 0, none⟩)]) ∧ w' = w.alloc (.cells #[.map (some b)] 71) :=
  callsIn_wide.1 (Tryd.maps_Keys_48 (some b) w)
theorem Sorted_any {H : Type} (b nn : Nat) (D0 : DataW H) (R : Value → Option (DataW H × List MemPlace)) (w : World) (hown : w.ownsMap Tryd.prog 9 R b nn D0) (hmax : Maps.size D0 ≤ 1000) :
    Calls Tryd.prog 47 #[.func (.func 65) #[] #[.pointer (some ⟨w.heap.size, 0, none⟩)]] (w.alloc (.cells #[.map (some b)] 71)) fun e w' => ∃ (v : Value) (ss : List (List UInt8)), e = .returned v ∧ ss.Perm (strKeys D0) ∧
      OwnAt w' w.heap.size 9 1 v ss.length ((ss.mergeSort (fun x y => decide (x ≤ y))).map encStr) ∧ Ext w w' := by
  refine (callsIn_wide.1 (Tryd.slices_Sorted_keys_47_48 b nn D0 R w hown (by unfold maxLen; omega) (by omega))).mono ?_
  rintro e w' ⟨v, ss, rfl, hp, hr, _, hb⟩
  have hx : Ext w (w.alloc (.cells #[.map (some b)] 71)) := (Ext.refl w).alloc _
  exact ⟨v, ss, rfl, hp, (OwnAt.of_row hr).mono hx.size, hx.trans hb⟩
end Go.Proofs.YtkeaoejgboefbaaDoor

/- Engine.Inputs. -/
namespace Go.Proofs.YtkeaoejgboefbaaDoor
open Go.RowKit Go.Maps Go.Sort

theorem map_size {H : Type} {P : Program} {k : TypeId} {R : Value → Option (DataW H × List MemPlace)} {w : World} {b n : Nat} {D : DataW H} (h : w.ownsMap P k R b n D) : Maps.size D ≤ n := by
  obtain ⟨es, clock, _, _, hs, rfl⟩ := h
  have : Maps.size (DataW.map ((es.toList.map (WideElems.rg P k R)).foldr DataW.insert [])) = es.size := by
    show ((es.toList.map (WideElems.rg P k R)).foldr DataW.insert []).length = _
    rw [length_sorted]
    simp
  omega
theorem inputs_length (e : E.En) : (E.inputsE e).length ≤ e.cells.length := by
  have key : ∀ (cs : List E.Cell) (t : T.Tr), T.Srt t → (cs.foldl (E.inStep e.vals) t).length ≤ t.length + cs.length := by
    intro cs
    induction cs with
    | nil => intro t _; exact Nat.le_refl _
    | cons c cs ih =>
      intro t ht
      rw [List.foldl_cons, List.length_cons]
      have h1 := ih _ (E.srt_step e.vals ht c)
      have h2 : (E.inStep e.vals t c).length ≤ t.length + 1 := by
        unfold E.inStep
        split
        · exact Nat.le_succ _
        · rename_i s _
          rw [T.insT_length ht]
          split <;> omega
      omega
  have := key e.cells [] List.Pairwise.nil
  unfold E.inputsE
  simpa using this
theorem mk_toArray (x : ByteArray) : (⟨x.data.toList.toArray⟩ : ByteArray) = x := by cases x; simp
/-- The sorted keys are the inputs' names. -/
theorem keys_inputs {w : World} {b n : Nat} {R : Value → Option (DataW Value × List MemPlace)} {D : DataW Value} {e : E.En} {ss : List (List UInt8)} (hs : E.Sup e) (hown : w.ownsMap Tryd.prog 9 R b n D) (hh : ∀ x : ByteArray, Maps.has D (.string x.data.toList) = ((e.vals x).map Value.string).isSome) (hp : ss.Perm (strKeys D)) :
    ss.mergeSort (fun x y => decide (x ≤ y)) = (E.inputsE e).map T.pth := by
  have hsrt : ((E.inputsE e).map T.pth).Pairwise (· < ·) := by
    rw [List.pairwise_map]
    exact E.srt_inputs e
  have hnd : ((E.inputsE e).map T.pth).Nodup := List.Pairwise.imp (R := (· < ·)) (S := (· ≠ ·)) (fun {a b} hab (e : a = b) => by subst e; exact T.lt_irrefl _ hab) hsrt
  have hc : Collected D (fun _ => false) ((E.inputsE e).map T.pth) := ⟨hnd, fun x => by
    have h1 := hh (E.mk x)
    rw [E.mk_data] at h1
    rw [h1]
    constructor
    · intro hm
      obtain ⟨f, hf, hx⟩ := List.mem_map.1 hm
      have := (E.mem_inputs hs f).1 hf
      have e1 : E.mk x = f.1 := bytes_inj (by rw [E.mk_data]; exact hx.symm)
      rw [e1, this]
      simp
    · intro hm
      cases hv : e.vals (E.mk x) with
      | none => rw [hv] at hm; simp at hm
      | some s => exact List.mem_map.2 ⟨(E.mk x, s), (E.mem_inputs hs _).2 hv, E.mk_data x⟩⟩
  have h1 := hc.perm hown (string_keyed Tryd.underlying9) Tryd.underlying9 fun _ => rfl
  have h2 : ss.Perm ((E.inputsE e).map T.pth) := hp.trans h1.symm
  refine (mergeSort_of_perm h2).trans (List.mergeSort_of_pairwise (hsrt.imp fun h => decide_eq_true (T.le_of_lt h)))
set_option maxRecDepth 100000 in
set_option maxHeartbeats 4000000 in
theorem Inputs_any {w : World} {S : Nat → Prop} {g bc bi br m : Nat} {cs : List E.Cell} {e : E.En} (h : EngAt w S g bc bi br e) (hft : Fit cs m e) : Calls Tryd.prog 27 #[.pointer (some ⟨g, 0, none⟩)] w (RetT w (E.inputsE e)) := by
  have ho := hft.eok
  obtain ⟨D, hown, hhas, _⟩ := h.inputs.size Tryd.underlying9 ho.dom
  have hfew := ho.few
  have hsz : Maps.size D ≤ 1000 := by
    have := map_size hown
    unfold namesE at this
    rw [List.length_map] at this
    omega
  have HKE := Lib.hid (Keys_any bi w)
  have HSO := Lib.hid (Sorted_any bi _ D _ w hown hsz)
  have HKI := Lib.hid (fun (ss : List (List UInt8)) (hp : ss.Perm (strKeys D)) => keys_inputs (ss := ss) ho.vals hown hhas hp)
  have HEN := Lib.hid h
  have HVL := Lib.hid (fun f (hf : f ∈ E.inputsE e) => (E.mem_inputs ho.vals f).1 hf)
  have HSZ : Hid (SzF (E.inputsE e)) := Lib.hid fun f hf => by
    have h1 := (E.mem_inputs ho.vals f).1 hf
    obtain ⟨h2, h3⟩ := ho.vals _ _ h1
    refine ⟨?_, by omega⟩
    obtain ⟨c, hc, hce⟩ := List.mem_map.1 (input_name h2)
    rw [hft.cells] at hc
    have h4 := ((newErr_formed hft.right).2 c hc).2
    unfold E.nameB at h4
    simp only [Bool.and_eq_true, decide_eq_true_eq] at h4
    have hce : c.1 = f.1 := hce
    rw [← hce]
    omega
  have HLN := Lib.hid (inputs_length e)
  have a1 := h.row.c1
  clear h ho hown hhas hsz hft
  obtain ⟨L, hL⟩ : ∃ L, L = E.inputsE e := ⟨_, rfl⟩
  rw [← hL] at HKI HVL HSZ HLN ⊢
  clear hL
  go_enter Tryd.func27, Tryd.ntmps27
  go_wp2_with fail
  refine HKE.out.mono ?_
  rintro e1 w1 ⟨rfl, rfl⟩
  go_wp2_with fail
  refine HSO.out.mono ?_
  rintro e2 w2 ⟨v, ss, rfl, hperm, hown2, hx2⟩
  have hk := HKI.out ss hperm
  have hlen : ss.length = L.length := by rw [← List.length_mergeSort (le := fun x y => decide (x ≤ y)) ss, hk, List.length_map]
  have he : (L.map T.pth).map encStr = (L.map (·.1)).map Value.string := by
    rw [List.map_map, List.map_map]
    exact List.map_congr_left fun f _ => by show Value.string _ = _; unfold T.pth; rw [mk_toArray]; rfl
  rw [hk, he, hlen] at hown2
  obtain ⟨q, hq⟩ : ∃ q, q = L.length := ⟨_, rfl⟩
  rw [← hq] at hown2
  obtain ⟨A, k, rfl, hs⟩ := strs_slice hown2 (by rw [List.length_map]; exact hq) (fun s hs => by obtain ⟨f, hf, rfl⟩ := List.mem_map.1 hs; exact (HSZ.out f hf).1)
  have HS : Hid (SliceAt strR w2 (Old w2) A k (L.map (·.1))) := Lib.hid (hs.keep (fun k hk => hk.2) fun _ _ => rfl)
  have HQ := Lib.hid hq
  have HX2 := Lib.hid hx2
  have hqz : q ≤ 200 := by have := HLN.out; omega
  clear hown2 hs hk hlen he hperm hx2 hq HKE HSO HKI a1
  go_wp2_with fail
  go_loopw [3, 5, 13] (fun v _ i wr => ∃ (j : Nat), i = .int .i64 j ∧ j ≤ q ∧ Hid (OwnFiles wr w2.heap.size v (L.take j)) ∧ Hid (Ext w2 wr)) (fun _ _ i _ => q - (intOf i).toNat)
  case atStart => exact ⟨0, rfl, Nat.zero_le _, own_files_nil _ _, Ext.refl _⟩
  case round =>
    obtain ⟨j, rfl, hj, HO, HX⟩ := hrel
    by_cases hlt : j < q
    · have hjl : j < (L.map (·.1)).length := by rw [List.length_map]; have := HQ.out; omega
      have hjL : j < L.length := by have := HQ.out; omega
      obtain ⟨b, off, hAe, hbb, d0, hz⟩ := str_get (HS.out.ext HX.out) hjl
      subst hAe
      rw [List.getElem_map] at d0 hz
      have HTK : Hid (L.take (j + 1) = L.take j ++ [L[j]]) := Lib.hid (List.take_succ_eq_append_getElem hjL)
      have hv := HVL.out _ (List.getElem_mem hjL)
      have HER := Lib.hid (HEN.out.ext (HX2.out.trans HX.out))
      have a1 := HER.out.row.c1
      have hlk := HER.out.inputs.look1 Tryd.underlying9 Tryd.underlying71 (zv9 wr) hz
      generalize L[j] = f at *
      obtain ⟨fp, fd⟩ := f
      simp only at d0 hz hv
      replace hlk : (Instr.lookup 71 (.map (some bi)) (.string fp) false).run Tryd.prog wr = .ok (.string fd) wr := by rw [hlk, hv]; rfl
      obtain ⟨i0, hi, hz0, hz1, hz2⟩ := info_parts file_info
      have hbs : w2.heap.size ≤ wr.heap.size := HX.out.size
      have HJ : Hid (j = (L.take j).length) := Lib.hid (by rw [List.length_take]; have := HQ.out; omega)
      have HO2 : Hid (OwnAt wr w2.heap.size 48 2 u3 j (fcells (L.take j))) := Lib.hid (by have := HO.out; unfold OwnFiles at this; rw [← HJ.out] at this; exact this)
      clear hjl hv
      go_wp2_with (at_builtin; refine wpList_append_ownAt _ rfl (.tmp 17) (.tmp 26) 46 rfl w2.heap.size 48 i0 (.agg #[.string ⟨#[]⟩, .string ⟨#[]⟩]) 2 32 Tryd.underlying46 hi hz0 hz1 hz2 rfl (by decide) _ _ _ rfl (HO2.out.alloc _) ⟨_, 0, none⟩ 1 1 (fcells [(fp, fd)]) rfl rfl ?_ (fcells_one _) (by unfold maxLen; omega) (by omega) (by rw [size_alloc']; omega) (by decide) ?_)
      · exact cells_new_file wr fp fd
      · intro v' w4 hw hg _ hf
        have HO4 : Hid (OwnFiles w4 w2.heap.size v' (L.take (j + 1))) := Lib.hid (by rw [HTK.out]; exact own_files_snoc HJ.out hw)
        have HX4 : Hid (Ext w2 w4) := Lib.hid ((HX.out.alloc _).grown HO2.out hg)
        clear hw hg hf hi hz0 hz1 hz2 hlk
        go_wp2_with fail
        go_roundw
        case rel => exact ⟨j + 1, by go_num, by omega, HO4, HX4⟩
        case measure => simp [intOf]; omega
    · have hjn : j = q := by omega
      have htk : L.take j = L := List.take_of_length_le (by have := HQ.out; omega)
      rw [htk] at HO
      clear htk
      go_wp2_with fail
      go_ret
      exact ⟨_, rfl, OwnAt.mono HO.out HX2.out.size, HX2.out.trans HX.out⟩
end Go.Proofs.YtkeaoejgboefbaaDoor

/- The walk of EngineLarge. -/
namespace Go.Proofs.YtkeaoejgboefbaaDoor
open Go.RowKit Go.Maps

theorem Eng1.inputs {w0 w : World} {g m : Nat} {cs : List E.Cell} {e : E.En} (h : Eng1 w0 w g cs m e) : Calls Tryd.prog 27 #[.pointer (some ⟨g, 0, none⟩)] w (RetT w (E.inputsE e)) := by
  obtain ⟨hg, hx, hf, S, bc, bi, br, he, _⟩ := h
  exact Inputs_any he hf
/-- The first cell alone. -/
theorem own_first (w : World) (g : Nat) (hg : g = w.heap.size) : OwnF cellR (w.alloc (.cells #[.string ⟨#[120]⟩, .int .i64 1, .slice none 0 0, .string ⟨#[]⟩] 32)) w.heap.size 32 (.slice (some ⟨g, 0, none⟩) 1 1) 1 (E.chainC 0) := by
  subst hg
  refine ⟨rfl, [.string ⟨#[120]⟩, .int .i64 1, .slice none 0 0, .string ⟨#[]⟩], ⟨rfl, .inr ⟨w.heap.size, 0, 1, _, rfl, Nat.le_refl _, heap_alloc_new _ _, Nat.le_refl _, by decide, by decide, fun j hj => ?_⟩⟩, ?_⟩
  · rw [Nat.zero_add]
    exact List.getElem?_toArray
  · exact ⟨[_, _, _, _], _, rfl, ⟨[_], _, rfl, ⟨rfl, by decide⟩, [_], _, rfl, ⟨rfl, by decide⟩, [_], _, rfl, ⟨_, _, rfl, SliceAt.nil _ _ _ _ _ (by decide)⟩, ⟨rfl, by decide⟩⟩, rfl⟩
theorem chain_args (d : Nat) : ∀ c ∈ E.chainC d, c.2.2.1.length ≤ 1000 := by
  intro c hc
  unfold E.chainC at hc
  obtain ⟨i, _, rfl⟩ := List.mem_map.1 hc
  cases i with
  | zero => exact Nat.zero_le _
  | succ i => show (List.replicate 8 _).length ≤ 1000; rw [List.length_replicate]; decide
set_option maxRecDepth 100000 in
set_option maxHeartbeats 8000000 in
theorem engineLarge_walk (v0 v1 : Value) (sz dp : Int) (w : World) (hg : Gl w) (r0 : (intR .u16).val w sz v0) (r1 : (intR .u8).val w dp v1) :
    Calls Tryd.prog 7 #[v0, v1] w (Al (.bool true) w) := by
  obtain ⟨rfl, hsw⟩ := val_int r0
  obtain ⟨rfl, hdw⟩ := val_int r1
  obtain ⟨hs0, hs1⟩ := bounds_u16 hsw
  obtain ⟨hd0, hd1⟩ := bounds_u8 hdw
  obtain ⟨n, rfl⟩ : ∃ n : Nat, sz = n := ⟨sz.toNat, by omega⟩
  obtain ⟨d, rfl⟩ : ∃ d : Nat, dp = d := ⟨dp.toNat, by omega⟩
  have HAW := Lib.hid (fun W (h : Ext w W) => awake_any W (hg.ext h))
  have HG := Lib.hid hg
  clear hg r0 r1 hsw hdw hs0 hd0
  go_enter Tryd.func7, Tryd.ntmps7
  go_wp2_with fail
  refine (HAW.out _ (Ext.refl w)).mono ?_
  rintro e2 w2 ⟨rfl, d2⟩
  have HD2 := Lib.hid d2
  clear d2
  by_cases hd7 : 6 < d
  · go_wp2_with fail
    refine (HAW.out _ HD2.out).mono ?_
    rintro e4 w4 ⟨rfl, d4⟩
    have HD4 := Lib.hid (HD2.out.trans d4)
    clear d4
    go_wp2_with fail
    go_ret
    exact ⟨rfl, HD4.out⟩
  have hd6 : d ≤ 6 := by omega
  have HO1 := Lib.hid (own_first w2 w2.heap.size rfl)
  obtain ⟨W2, hW2⟩ : ∃ W2, W2 = w2.alloc (.cells #[.string ⟨#[120]⟩, .int .i64 1, .slice none 0 0, .string ⟨#[]⟩] 32) := ⟨_, rfl⟩
  rw [← hW2] at HO1
  have HX2 : Hid (Ext w2 W2) := Lib.hid (by rw [hW2]; exact (Ext.refl w2).alloc _)
  clear hd7
  go_upto_region 4 with (fail)
  rw [← hW2]
  clear hW2
  go_wp2_with fail
  go_loopw [5, 6, 7, 26] (fun v _ _ i wr => ∃ (j : Nat), i = .int .i64 j ∧ j ≤ d ∧ Hid (OwnF cellR wr w2.heap.size 32 v (j + 1) (E.chainC j)) ∧ Hid (Ext w2 wr)) (fun _ _ _ i _ => d - (intOf i).toNat)
  case atStart => exact ⟨0, rfl, Nat.zero_le _, HO1, HX2⟩
  case round =>
    obtain ⟨j, rfl, hj, HO, HX⟩ := hrel
    by_cases hlt : j < d
    · have hjl : j < (E.chainC j).length := by rw [chain_length]; omega
      obtain ⟨A, k, rfl, hs⟩ := HO.out.slice
      obtain ⟨b, off, A2, k2, hAe, hbb, d0, d1, d2, d3, z1, z2, z3, z4⟩ := cell_get hs hjl
      subst hAe
      rw [chain_get j hjl] at d0 z1
      have hnm : (E.cellL j).1 = E.nmL j := by cases j <;> rfl
      rw [hnm] at d0 z1
      have HRY := Lib.hid (fun W => RepeatB_any 121 j (by omega) W)
      have HCAT := Lib.hid (nmL_cat j)
      have HNS : Hid ((E.nmL (j + 1)).size ≤ 9223372036854775807) := Lib.hid (by have := nmL_le (j + 1) (by omega); omega)
      have HSUC := Lib.hid (chain_succ j)
      have hss : (E.mk (List.replicate j 121)).size ≤ 6 := by rw [E.mk_size, List.length_replicate]; omega
      have HNZ := Lib.hid z1
      have HCL : Hid (E.cellL (j + 1) = (E.nmL (j + 1), 2, List.replicate 8 (E.nmL j), ⟨#[]⟩)) := Lib.hid rfl
      generalize E.mk (List.replicate j 121) = sx at *
      generalize E.nmL j = nm at *
      have HO' := HO
      clear hs hjl d1 d2 d3 z1 z2 z3 z4 hnm hbb
      go_wp2_with fail
      refine (HRY.out _).mono ?_
      rintro e5 w5 ⟨rfl, d5⟩
      have HX5 := Lib.hid d5
      obtain ⟨W6, hW6⟩ : ∃ W6, W6 = w5.alloc (.cells #[.string nm] 9) := ⟨_, rfl⟩
      have X6 : Ext w5 W6 := by rw [hW6]; exact (Ext.refl w5).alloc _
      have HRS := Lib.hid (RepeatS_any (w := W6) (A := some ⟨w5.heap.size, 0, none⟩) (k := 1) (s := nm) (strs_new (w := w5) (l := [nm]) rfl (fun s hs => by rw [List.mem_singleton.1 hs]; exact HNZ.out) (show 1 ≤ 100 by decide) (by rw [hW6]; exact Ext.refl _)))
      have HX6 := Lib.hid (d5.trans X6)
      clear d5 X6 d0
      go_wp2_with fail
      rw [← hW6]
      refine HRS.out.mono ?_
      rintro e7 w7 ⟨A7, k7, rfl, hs7, d7⟩
      have HS7 := Lib.hid hs7
      have HX7 := Lib.hid (HX6.out.trans d7)
      have HS6 : Hid (wr.heap.size ≤ W6.heap.size) := Lib.hid HX6.out.size
      clear hs7 d7 hW6
      obtain ⟨i0, hi, hz0, hz1, hz2⟩ := info_parts cell_info
      have HO7 := Lib.hid (HO.out.ext HX7.out)
      obtain ⟨hjn, xs, hown, hflat⟩ := HO7.out
      have HJN := Lib.hid hjn
      have HOW := Lib.hid hown
      have HFL := Lib.hid hflat
      have HLW : Hid (∀ g, (Value.slice (some ⟨b, off, none⟩) (j + 1) k).ownBlock = some g → g < wr.heap.size) := Lib.hid fun g hg => by
        obtain ⟨_, xs', ho', _⟩ := HO.out
        exact own_at_lt ho' hg
      have hbs : w2.heap.size ≤ w7.heap.size := (HX.out.trans HX7.out).size
      have HNZ2 : Hid (((⟨#[121]⟩ : ByteArray) ++ sx).size ≤ 9223372036854775807) := Lib.hid (by rw [HCAT.out]; exact HNS.out)
      clear hown hflat hjn
      go_wp2_with (at_builtin; refine wpList_append_ownAt _ rfl (.tmp 34) (.tmp 42) 22 rfl w2.heap.size 32 i0 _ 4 64 Tryd.underlying22 hi hz0 hz1 hz2 rfl (by decide) _ (j + 1) _ rfl (HOW.out.alloc _) ⟨_, 0, none⟩ 1 1 [.string (⟨#[121]⟩ ++ sx), .int .i64 2, .slice A7 8 k7, .string ⟨#[]⟩] rfl rfl ?_ ?_ (by unfold maxLen; omega) (by omega) (by rw [size_alloc']; omega) (by decide) ?_)
      · intro i u hi'
        rw [Addr.add_lit, Nat.zero_add, cell_new, ← hi', List.getElem?_toArray]
      · exact one_cells _ 2 A7 8 k7 _
      · intro v' w8 ho hg _ hf
        have hXA : Ext w7 (w7.alloc (.cells #[.string (⟨#[121]⟩ ++ sx), .int .i64 2, .slice A7 8 k7, .string ⟨#[]⟩] 32)) := (Ext.refl _).alloc _
        have hBl : ∀ q, Bl w7 w2.heap.size (Value.slice (some ⟨b, off, none⟩) (j + 1) k) q → Bl (w7.alloc (.cells #[.string (⟨#[121]⟩ ++ sx), .int .i64 2, .slice A7 8 k7, .string ⟨#[]⟩] 32)) w2.heap.size (Value.slice (some ⟨b, off, none⟩) (j + 1) k) q := fun q hq => ⟨hq.1, Nat.lt_of_lt_of_le hq.2.1 hXA.size, hq.2.2⟩
        have hO8 := OwnF.push (r := cellR) (l := E.chainC j) (a := (⟨#[121]⟩ ++ sx, 2, List.replicate 8 nm, ⟨#[]⟩)) HJN.out (HFL.out.keep hBl fun q hq => hXA.block q hq.2.1) ⟨[.string (⟨#[121]⟩ ++ sx)], _, rfl, ⟨rfl, HNZ2.out⟩, [.int .i64 2], _, rfl, ⟨rfl, show (Lit.int .i64 2).wf = true by decide⟩, [.slice A7 8 k7], _, rfl, ⟨A7, k7, rfl, HS7.out.keep (fun q hq => hBl q ⟨by have := HS6.out; have := HX.out.size; have := hq.1; omega, hq.2, fun e => by have := HLW.out q e; have := HS6.out; have := hq.1; omega⟩) fun q hq => hXA.block q hq.2⟩, ⟨rfl, show 0 ≤ 9223372036854775807 by decide⟩⟩ ho hg (by rcases hf with h | ⟨t, h1, h2, h3⟩; exact .inl h; exact .inr ⟨t, h1, by rw [size_alloc']; exact h2, h3⟩)
        have HO9 : Hid (OwnF cellR w8 w2.heap.size 32 v' (j + 1 + 1) (E.chainC (j + 1))) := Lib.hid (by rw [HSUC.out, HCL.out, ← HCAT.out]; exact hO8)
        have HX9 : Hid (Ext w2 w8) := Lib.hid (((HX.out.trans HX7.out).trans hXA).grown HOW.out hg)
        clear hO8 hBl hXA ho hg hf hi hz0 hz1 hz2
        go_wp2_with fail
        go_roundw
        case rel => exact ⟨j + 1, by go_num, by omega, HO9, HX9⟩
        case measure => simp [intOf]; omega
    · obtain rfl : j = d := by omega
      obtain ⟨A, k, rfl, hs⟩ := HO.out.slice
      have HS : Hid (SliceAt cellR wr (Old wr) A k (E.chainC j)) := Lib.hid (hs.sub fun k hk => hk.2)
      have HXW := Lib.hid (HD2.out.trans HX.out)
      have HC2 := Lib.hid (cp_any HS.out (chain_length j).symm (chain_args j) (by omega))
      have HNW := Lib.hid (fun (W : World) (A2 : Option Addr) (k2 n2 : Nat) (h1 : SliceAt cellR W (Old W) A2 k2 (E.chainC j)) (h2 : n2 = (E.chainC j).length) => New_any h1 h2 (chain_args j))
      have h0 := E.chain_new j (by omega)
      have H0 := Lib.hid h0
      clear hs h0
      go_wp2_with fail
      refine HC2.out.mono ?_
      rintro e5 w5 ⟨A5, k5, n5, hn5, rfl, hs5, d5⟩
      have HX5 := Lib.hid (HXW.out.trans d5)
      have HX05 := Lib.hid d5
      have HN5 := Lib.hid (HNW.out w5 A5 k5 n5 hs5 hn5)
      clear d5 hs5 hn5 HC2
      go_wp2_with fail
      refine HN5.out.mono ?_
      rintro e6 w6 ⟨d6, hr6⟩
      clear HN5
      rcases hr6 with ⟨h1, _⟩ | ⟨_, rfl, S, hf⟩
      · exact absurd H0.out h1
      have HE6 := Lib.hid (Eng1.made (HG.out.ext HX5.out) (Ext.refl w5) H0.out hf)
      have HX6 := Lib.hid (HX05.out.trans d6)
      generalize w5.heap.size + 3 = g at *
      clear hf d6
      have HR1 := Lib.hid (fun W => RepeatB_any 97 65537 (by decide) W)
      obtain ⟨s1, hs1'⟩ : ∃ s1, s1 = E.mk (List.replicate 65537 97) := ⟨_, rfl⟩
      rw [← hs1'] at HR1
      have hz1 : s1.size = 65537 := by rw [hs1', E.mk_size, List.length_replicate]
      have HBIG := Lib.hid (large_big (d := j) (by omega) (a := s1) (by omega))
      have HSET1 := Lib.hid (fun W (hx : Ext w6 W) => (HE6.out.ext hx).set (by decide) (n := ⟨#[120]⟩) (s := s1) (by decide) (by omega))
      have HNE : Hid (E.inputsE (E.fresh (E.chainC j)) = []) := Lib.hid (inputs_fresh _)
      clear hs1' hz1
      replace HBIG : Hid (E.setE (E.fresh (E.chainC j)) ⟨#[120]⟩ s1 = (10, E.fresh (E.chainC j))) := HBIG
      rw [HBIG.out] at HSET1
      go_wp2_with fail
      refine (HR1.out _).mono ?_
      rintro e7 w7 ⟨rfl, d7⟩
      have HX7 := Lib.hid d7
      clear d7 HR1
      go_wp2_with fail
      refine (HSET1.out _ HX7.out).mono ?_
      rintro e8 w8 ⟨rfl, h8⟩
      have HE8 : Hid (Eng1 w5 w8 g (E.chainC j) 1 (E.fresh (E.chainC j))) := Lib.hid h8
      have HIN := Lib.hid HE8.out.inputs
      rw [HNE.out] at HIN
      clear h8 HSET1 HBIG HE6
      go_wp2_with fail
      refine HIN.out.mono ?_
      rintro e9 w9 ⟨v9, rfl, ho9, d9⟩
      obtain ⟨A9, c9, rfl, _, _⟩ := own_files_form ho9
      have HE9 := Lib.hid (HE8.out.ext d9)
      have HX9 := Lib.hid d9
      clear ho9 d9 HIN HE8
      have hnz : n ≤ 65535 := by omega
      have HR2 := Lib.hid (fun W => RepeatB_any 97 n (by omega) W)
      obtain ⟨s2, hs2⟩ : ∃ s2, s2 = E.mk (List.replicate n 97) := ⟨_, rfl⟩
      rw [← hs2] at HR2
      have hz2 : s2.size = n := by rw [hs2, E.mk_size, List.length_replicate]
      have hset : (E.setE (E.fresh (E.chainC j)) ⟨#[120]⟩ s2).1 = 0 := large_set (d := j) (by omega) (by omega)
      have HSET2 := Lib.hid (fun W (hx : Ext w9 W) => (HE9.out.ext hx).set (by decide) (n := ⟨#[120]⟩) (s := s2) (by decide) (by omega))
      rw [hset] at HSET2
      have HLG := Lib.hid (large_get (d := j) (by omega) (a := s2) (by omega) (e := (E.setE (E.fresh (E.chainC j)) ⟨#[120]⟩ s2).2) rfl)
      rw [hz2] at HLG
      generalize (E.setE (E.fresh (E.chainC j)) ⟨#[120]⟩ s2).2 = e2 at *
      clear hs2 hz2 hset
      go_wp2_with fail
      refine (HR2.out _).mono ?_
      rintro e10 w10 ⟨rfl, d10⟩
      have HX10 := Lib.hid d10
      clear d10 HR2
      go_wp2_with fail
      refine (HSET2.out _ HX10.out).mono ?_
      rintro e11 w11 ⟨rfl, h11⟩
      have HE11 : Hid (Eng1 w5 w11 g (E.chainC j) 2 e2) := Lib.hid h11
      clear h11 HSET2 HE9
      have hjl : j < (E.chainC j).length := by rw [chain_length]; omega
      obtain ⟨b, off, A2, k2, hAe, hbb, c0, c1, c2, c3, hcz, z2, z3, z4⟩ := cell_get (HS.out.ext (HX05.out.trans HE11.out.ahead)) hjl
      subst hAe
      clear c1 c2 c3 z2 z3 z4
      rw [chain_get j hjl, show (E.cellL j).1 = E.nmL j from by cases j <;> rfl] at c0 hcz
      have HGET := Lib.hid (HE11.out.get (by decide) hcz)
      generalize E.nmL j = nm at *
      generalize E.getE e2 nm = r at *
      obtain ⟨rv, re, en⟩ := r
      simp only at HLG HGET
      clear hjl hbb
      go_wp2_with fail
      refine HGET.out.mono ?_
      rintro e12 w12 ⟨rfl, _, h12⟩
      have HE12 : Hid (Eng1 w5 w12 g (E.chainC j) 3 en) := Lib.hid h12
      have HCM := Lib.hid HE12.out.computed
      clear h12 HGET HE11 c0
      simp only
      generalize hva : rv.getD ⟨#[]⟩ = va at *
      generalize hvb : rv.isSome = vb at *
      have HVA := Lib.hid hva
      have HVB := Lib.hid hvb
      clear hva hvb hcz
      go_wp2_with fail
      go_loopw [10, 91] (fun v u wr => ∃ (i q : Nat), v = .int .i64 q ∧ u = .int .u8 i ∧ i ≤ j ∧ Hid (q = n * 8 ^ i) ∧ wr = w12) (fun _ u _ => j - (intOf u).toNat)
      case atStart => exact ⟨0, n, rfl, rfl, Nat.zero_le _, Lib.hid (by simp), rfl⟩
      case round =>
        obtain ⟨i, q, rfl, rfl, hi, HQ, rfl⟩ := hrel
        by_cases hij : i < j
        · have hq : q ≤ 2147450880 := by
            have h1 : 8 ^ i ≤ 8 ^ 5 := Nat.pow_le_pow_right (by decide) (by omega)
            have h2 := Nat.mul_le_mul hnz h1
            rw [← HQ.out] at h2
            omega
          have HQ2 : Hid (q * 8 = n * 8 ^ (i + 1)) := Lib.hid (by rw [HQ.out, Nat.pow_succ, Nat.mul_assoc])
          go_wp2_with fail
          go_roundw
          case rel => exact ⟨i + 1, q * 8, by go_num, by go_num, by omega, HQ2, by trivial⟩
          case measure => simp [intOf]; omega
        · obtain rfl : i = j := by omega
          rw [← HQ.out] at HLG
          have HLG2 := HLG.out
          clear HQ HLG
          rcases HLG2 with ⟨h1, rfl, rfl, h4⟩ | ⟨h1, s, rfl, h2, rfl, h4⟩
          · have e1 : va = ⟨#[]⟩ := HVA.out.symm
            have e2 : vb = false := HVB.out.symm
            subst e1 e2
            rw [h4] at HCM
            clear h4
            go_wp2_with fail
            refine HCM.out.mono ?_
            rintro e13 w13 ⟨rfl, rfl⟩
            go_wp2_with fail
            go_ret
            exact ⟨rfl, HX5.out.trans HE12.out.ahead⟩
          · have e1 : va = s := HVA.out.symm
            have e2 : vb = true := HVB.out.symm
            subst e1 e2
            rw [h4] at HCM
            clear h4
            have h2b : ((va.size : Int) == (q : Int)) = true := by rw [h2]; simp
            have HSZ := Lib.hid h2
            clear h2
            have h1b : ¬ 65536 < q := by omega
            go_wp2_with fail
            refine HCM.out.mono ?_
            rintro e13 w13 ⟨rfl, rfl⟩
            go_wp2_with fail
            go_ret
            exact ⟨rfl, HX5.out.trans HE12.out.ahead⟩
end Go.Proofs.YtkeaoejgboefbaaDoor
