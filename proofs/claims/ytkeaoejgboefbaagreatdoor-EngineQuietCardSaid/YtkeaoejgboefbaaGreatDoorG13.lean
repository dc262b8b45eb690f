/- The texts Jr Js Jt Ju Jv Jw Jx Ka Kh of the seat, joined. -/
import Derived.Test.YtkeaoejgboefbaaGreatDoorG12
import Derived.ArgAppend
import Derived.BigQuiet
import Derived.OwnWalk
/- The reference's value, as the plain law says. -/
namespace Go.Proofs.YtkeaoejgboefbaaGreatDoor
open Go.RowKit Go.Maps

theorem value_any {p : Plc} {C : Nat} {e : E.En} (hform : ∀ c ∈ e.cells, E.formedB c = true) (hvals : ∀ n s, e.vals n = some s → s.size ≤ 65536) (hC : C ≤ 4000000000000000000) (hfew : e.cells.length ≤ 1000) (hon : Once e.cells) (hrev : e.rev < 4000000000000000000) :
    ∀ (k d : Nat) (opn : List ByteArray), E.rem (E.names e) opn < k → k + d ≤ 3000 → GetIsR p C d e opn (E.val (E.findC e.cells) e.vals e.rev E.form k opn) := by
  intro k
  induction k with
  | zero => intro d opn hk; exact absurd hk (Nat.not_lt_zero _)
  | succ k ih =>
    intro d opn hk hd w S st hL n _
    have key : Calls Tryz.prog 47 #[.pointer (some ⟨p.g, p.o, none⟩), .string n] w (RetOR w S p d e opn (E.val (E.findC e.cells) e.vals e.rev E.form (k + 1) opn st n)) := by
      rw [E.val]
      cases hc : E.findC e.cells n with
      | none => exact val_none hL hfew hc
      | some c =>
        obtain ⟨hcm, hcn⟩ := E.findC_some hc
        simp only
        cases hi : E.isIn c with
        | true =>
          rw [if_pos rfl]
          refine val_input hL hfew hc hi rfl ?_
          cases hv : e.vals n with
          | none => exact Nat.zero_le _
          | some s => exact hvals n s hv
        | false =>
          rw [if_neg Bool.false_ne_true]
          cases ho : E.has opn n with
          | true => rw [if_pos rfl]; exact val_loop hL hfew hc hi ho
          | false =>
            rw [if_neg Bool.false_ne_true]
            have hno : n ∉ opn := fun h => by rw [E.has_iff.2 h] at ho; cases ho
            have hr := E.rem_cons hno (E.holds_names e n c hc hi)
            have hget1 := ih (d + 1) (n :: opn) (by omega) (by omega)
            have hget0 := ih d (n :: opn) (by omega) (by omega)
            cases hm : st.ms n with
            | none => exact val_new hL hfew hc hi ho (hform c hcm) hon (by omega) hC hrev hm hget1
            | some m =>
              simp only
              by_cases hat : m.at' = e.rev
              · rw [if_pos hat]
                exact val_kept hL hfew hc hi ho hm hat
              · rw [if_neg hat]
                have := val_old hL hfew hc hi ho (hform c hcm) hon (by omega) hC hrev hm hat hget0 hget1
                refine this.mono ?_
                intro ed w' h
                cases hq : E.staleP (E.val (E.findC e.cells) e.vals e.rev E.form k (n :: opn)) m.reads st with
                | error x => rw [hq] at h; exact h
                | ok q =>
                  obtain ⟨b, st'⟩ := q
                  rw [hq] at h
                  cases b <;> exact h
    exact key.mono fun ed w' h => h.toG (E.holds_names e) hk hL
end Go.Proofs.YtkeaoejgboefbaaGreatDoor

/- The rows of memos are copied. -/
namespace Go.Proofs.YtkeaoejgboefbaaGreatDoor
open Go.RowKit Go.Maps
theorem memo_info : (Tryz.prog.info? 119).map (fun i => (i.zero, i.size, i.bytes)) = some (some (.agg #[.bool false, .int .i64 0, .string ⟨#[]⟩, .bool false, .slice none 0 0, .bool false]), 6, 72) := by kernel_rfl
theorem MRow.news {w : World} {S : Nat → Prop} {b o n : Nat} {ms : Nat → Option E.Memo} {wk : Nat → Bool} (h : MRow w S b o n ms wk) : ∃ news : List Value, news.length = n * 6 ∧ (∀ j u, news[j]? = some u → w.cell? ⟨b, o + j, none⟩ = some u) ∧ (∀ u ∈ news, u.oneCell' = true) ∧ ∀ i, i < n → ∃ us, MOk w S (wk i) us (ms i) ∧ us.length = 6 ∧ ∀ j, j < 6 → news[i * 6 + j]? = us[j]? := by
  obtain ⟨cs, h1, h2⟩ := h
  have hcs : ∀ j, j < n * 6 → ∃ u, cs[o + j]? = some u ∧ u.oneCell' = true := fun j hj => by
    obtain ⟨us, h3, h4, h5⟩ := h2 (j / 6) (by omega)
    have h6 := h5 (j % 6) (by omega)
    have e1 : o + j / 6 * 6 + j % 6 = o + j := by omega
    have hl : j % 6 < us.length := by omega
    rw [e1, List.getElem?_eq_getElem hl] at h6
    refine ⟨_, h6, ?_⟩
    have hall : ∀ u ∈ us, u.oneCell' = true := by
      cases hm : ms (j / 6) with
      | none =>
        rw [hm] at h3
        rw [show us = _ from h3]
        intro u hu
        simp only [List.mem_cons, List.not_mem_nil, or_false] at hu
        rcases hu with rfl | rfl | rfl | rfl | rfl | rfl <;> rfl
      | some m =>
        rw [hm] at h3
        obtain ⟨_, _, _, A, k, h7, _⟩ := h3
        rw [h7]
        intro u hu
        simp only [List.mem_cons, List.not_mem_nil, or_false] at hu
        rcases hu with rfl | rfl | rfl | rfl | rfl | rfl <;> rfl
    exact hall _ (List.getElem_mem hl)
  have hget : ∀ j, j < n * 6 → ((List.range (n * 6)).map fun j => (cs[o + j]?).getD (.bool false))[j]? = cs[o + j]? := fun j hj => by
    obtain ⟨u, hu, _⟩ := hcs j hj
    rw [List.getElem?_map, List.getElem?_range hj, hu]
    simp [hu]
  refine ⟨(List.range (n * 6)).map fun j => (cs[o + j]?).getD (.bool false), by simp, fun j u hu => ?_, fun u hu => ?_, fun i hi => ?_⟩
  · have hj : j < n * 6 := by
      rcases Nat.lt_or_ge j (n * 6) with h | h
      · exact h
      · rw [List.getElem?_eq_none (by simpa using h)] at hu; cases hu
    rw [hget j hj] at hu
    rw [cell_of_row w b _ _ _ _ h1]
    exact hu
  · obtain ⟨j, hj, rfl⟩ := List.mem_map.1 hu
    have hj := List.mem_range.1 hj
    obtain ⟨u, hu, ho⟩ := hcs j hj
    rw [hu]
    exact ho
  · obtain ⟨us, h3, h4, h5⟩ := h2 i hi
    refine ⟨us, h3, h4, fun j hj => ?_⟩
    rw [hget _ (by omega), ← h5 j hj, Nat.add_assoc]
/-- A copied row of memos. -/
theorem MRow.copied {w w' : World} {S S' : Nat → Prop} {n c0 : Nat} {ms : Nat → Option E.Memo} {wk : Nat → Bool} {news : List Value} {v : Value} (hn : 0 < n) (hnews : ∀ i, i < n → ∃ us, MOk w S (wk i) us (ms i) ∧ us.length = 6 ∧ ∀ j, j < 6 → news[i * 6 + j]? = us[j]?) (hown : w'.ownsRow c0 119 6 v n news) (hk : ∀ us wk m, MOk w S wk us m → MOk w' S' wk us m) :
    ∃ g cap, v = .slice (some ⟨g, 0, none⟩) n cap ∧ c0 ≤ g ∧ n ≤ cap ∧ MRow w' S' g 0 n ms wk := by
  obtain ⟨hl, ⟨_, h0⟩ | ⟨g, cap, cur, hv, h1, h2, h3, h4, h5, h6⟩⟩ := hown
  · omega
  · refine ⟨g, cap, hv, h1, h3, cur, h2, fun i hi => ?_⟩
    obtain ⟨us, e1, e2, e3⟩ := hnews i hi
    refine ⟨us, hk _ _ _ e1, e2, fun j hj => ?_⟩
    rw [← e3 j hj, ← h6, List.getElem?_take_of_lt (by omega), Nat.zero_add, Array.getElem?_toList]
end Go.Proofs.YtkeaoejgboefbaaGreatDoor

/- The reference's Get. -/
namespace Go.Proofs.YtkeaoejgboefbaaGreatDoor
open Go.RowKit Go.Maps

/-- What the reference's Get answers. -/
def RetGetR (w : World) (S : Nat → Prop) (p : Plc) (r : E.V × Int × E.En) (ed : Ending) (w' : World) : Prop :=
  ed = .returned (.tuple #[.string (r.1.getD ⟨#[]⟩), .bool r.1.isSome, .int .i64 r.2.1]) ∧ (r.1.getD ⟨#[]⟩).size ≤ 65536 ∧ Tch (MvR p) w w' ∧ ∃ S' bm om cm ft, RefAt w' S' { p with bm := bm, om := om, cm := cm } 0 ft [] r.2.2 ∧ (bm = p.bm ∨ w.heap.size ≤ bm) ∧ ∀ k, S' k → S k ∨ w.heap.size ≤ k
set_option maxRecDepth 100000 in
set_option maxHeartbeats 8000000 in
theorem refGet_any {w : World} {S : Nat → Prop} {p : Plc} {e : E.En} {ft : Int} (h : RefAt w S p 0 ft [] e) (hd : Once e.cells) (hi : E.OkE e) (hform : ∀ c ∈ e.cells, E.formedB c = true) (hvals : ∀ n s, e.vals n = some s → s.size ≤ 65536) (hC : e.st.cnt ≤ 4000000000000000000) (hz : e.cells.length ≤ 1000) (hrev : e.rev < 4000000000000000000)
    {n : ByteArray} (hn : n.size ≤ 9223372036854775807) : Calls Tryz.prog 32 #[.pointer (some ⟨p.g, p.o, none⟩), .string n] w (RetGetR w S p (E.getE e n)) := by
  obtain ⟨R, hR⟩ : ∃ R, R = E.getE e n := ⟨_, rfl⟩
  rw [← hR]
  have HR := Lib.hid hR
  have HE := Lib.hid h
  obtain ⟨c0, c1, c2, c3, c4, c5⟩ := h.row.cells
  have HFI := Lib.hid (refFind_any c0 h.args rfl n)
  replace HFI : Hid (Calls Tryz.prog 45 #[.pointer (some ⟨p.g, p.o, none⟩), .string n] w fun ed w' => w = w' ∧ ∃ r : Int, ed = .returned (.int .i64 r) ∧ FoundAt e.cells n r) := HFI
  cases hc : E.findC e.cells n with
  | none =>
    have HX : Hid (R = (none, 7, e)) := Lib.hid (by rw [HR.out]; unfold E.getE; rw [hc])
    clear h hR HR c0 c1 c2 c3 c4 c5
    go_enter Tryz.func32, Tryz.ntmps32
    go_wp2_with fail
    refine HFI.out.mono ?_
    rintro ed w1 ⟨rfl, r, rfl, hf⟩
    obtain rfl := found_none hf hc
    clear hf hc HFI
    go_wp2_with fail
    go_ret3
    refine ⟨by rw [HX.out]; rfl, by rw [HX.out]; exact Nat.zero_le _, (Ext.refl w).tch _, S, p.bm, p.om, p.cm, ft, by rw [HX.out]; exact HE.out, .inl rfl, fun k hk => .inl hk⟩
  | some c =>
    have HX : Hid (R = match E.val (E.findC e.cells) e.vals e.rev E.form (E.fuel e) [] e.st n with
      | .error x => (none, x, e)
      | .ok (v, S) => (v, 0, { e with st := S })) := Lib.hid (by rw [HR.out]; unfold E.getE; rw [hc]; rfl)
    have HGA := Lib.hid (value_any (p := p) hform hvals hC hz hd hrev (E.fuel e) 0 [] (E.fuel_ok e) (by unfold E.fuel; omega))
    have HOK := Lib.hid hi
    have HLW : Hid (p.g < w.heap.size ∧ p.bm < w.heap.size ∧ p.bv < w.heap.size ∧ ∀ k, S k → k < w.heap.size) := Lib.hid ⟨h.row.lt, h.memos.lt, h.vals.lt, h.lt⟩
    obtain ⟨news, hnl, hnc, hno, hnu⟩ := h.memos.news
    have HNC := Lib.hid hnc
    have HNU := Lib.hid hnu
    generalize hcn : ((e.st.cnt : Int) + (0 : Nat)) = cn at *
    have HCN := Lib.hid hcn
    go_enter Tryz.func32, Tryz.ntmps32
    go_upto_region 1 with (fail)
    go_wp2_with fail
    refine HFI.out.mono ?_
    rintro ed w1 ⟨rfl, r, rfl, hf⟩
    obtain ⟨i, hil, hn1, rfl, rfl⟩ := found_some hf hc
    have HLN : Hid (0 < e.cells.length) := Lib.hid (by omega)
    clear h hR HR c0 c1 c3 c5 hf hc hn1 HFI hcn hnc hnu hd hi hform hvals hC
    obtain ⟨L, hL⟩ : ∃ L, L = e.cells.length := ⟨_, rfl⟩
    rw [← hL] at c2 hz hil hnl
    have HLE := Lib.hid hL
    clear hL
    obtain ⟨Φ, hΦ⟩ : ∃ Φ : World → Prop, ∀ w', Φ w' ↔ (w'.cell? ⟨p.g, p.o + 2, none⟩ = some (.slice (some ⟨p.bm, p.om, none⟩) L p.cm) ∧ w'.cell? ⟨p.g, p.o + 4, none⟩ = some (.int .i64 cn)) := ⟨_, fun _ => Iff.rfl⟩
    have h0 : Φ w.drew := (hΦ _).2 ⟨c2, c4⟩
    have fx0 : ∀ x : Lat Φ, x.w'.cell? ⟨p.g, p.o + 2, none⟩ = some (.slice (some ⟨p.bm, p.om, none⟩) L p.cm) := fun x => ((hΦ _).1 x.h).1
    have fx1 : ∀ x : Lat Φ, x.w'.cell? ⟨p.g, p.o + 4, none⟩ = some (.int .i64 cn) := fun x => ((hΦ _).1 x.h).2
    have hne1 := Lat.some h0
    have HΦ := Lib.hid hΦ
    clear hΦ
    go_upto_region 3 with (fail)
    refine wp_region_lat [0, 5] Φ h0 (by kernel_rfl) (by kernel_rfl) (by kernel_rfl) ?_
    refine lex_eff rfl ?_
    go_wp2_with fail
    obtain ⟨W1, hW1⟩ : ∃ W1, W1 = (w.alloc (.cells #[] 119)).drew := ⟨_, rfl⟩
    have X1 : Ext w W1 := by rw [hW1]; exact ((Ext.refl w).alloc _).drew
    have HX1 := Lib.hid X1
    have HP1 := Lib.hid ((HΦ.out W1).2 ⟨X1.keepc c2, X1.keepc c4⟩)
    rw [← hW1]
    refine ⟨⟨⟨W1, HP1.out⟩, rfl⟩, ?_⟩
    iterate 4 (refine lex_pure rfl rfl rfl ?_; intro K hK; go_big_quiet_op; go_big_quiet_on)
    refine lex_eff rfl ?_
    obtain ⟨i0, hi, hz0, hz1, hz2⟩ := info_parts memo_info
    refine wpList_append_grows _ rfl (.tmp 14) (.tmp 18) 37 rfl 119 i0 _ 6 72 Tryz.underlying37 hi hz0 hz1 hz2 rfl (by decide) (some ⟨w.heap.size, 0, none⟩) 0 0 [] rfl (fun h => by cases h) rfl (fun _ _ j u hj => by simp at hj) ⟨p.bm, p.om, none⟩ L p.cm news rfl hnl (fun j u hj => by rw [Addr.add_lit]; exact HX1.out.keepc (HNC.out j u hj)) hno (by omega) (by unfold maxLen; omega) (by omega) ?_
    intro v' w2 hown hgr
    rw [Nat.zero_add, List.nil_append] at hown
    have X2 : Ext W1 w2 := ⟨hgr.os, hgr.tape, hgr.output, hgr.size, fun k hk => hgr.block k hk (by simp)⟩
    have HX2 := Lib.hid (HX1.out.trans X2)
    have hnu := HNU.out
    have hlp := HLN.out
    rw [← HLE.out] at hnu hlp
    obtain ⟨gm, cap, rfl, hgm, hcap, hmr⟩ := MRow.copied (w' := w2) (S' := S) hlp hnu hown fun us wk m hm => hm.tch (HX2.out.tch fun _ => False) (fun k hk => ⟨HLW.out.2.2.2 k hk, fun h => h⟩) fun _ hk => hk
    have HMR := Lib.hid hmr
    have HCP := Lib.hid hcap
    have HGM : Hid (w.heap.size ≤ gm) := Lib.hid (Nat.le_trans HX1.out.size hgm)
    have HP2 := Lib.hid ((HΦ.out w2).2 ⟨HX2.out.keepc c2, HX2.out.keepc c4⟩)
    clear X1 X2 hW1 hown hgr hnu hlp hgm hcap hmr hi hz0 hz1 hz2
    go_wp2_with fail
    refine ⟨⟨⟨w2, HP2.out⟩, rfl⟩, ?_⟩
    iterate 6 (refine lex_pure rfl rfl rfl ?_; intro K hK; go_big_quiet_op; go_big_quiet_on)
    refine lex_nil ?_
    have HE2 := Lib.hid (HE.out.ext HX2.out)
    have c5 := HE2.out.row.cells.2.2.2.2.2
    have fg5 := HE2.out.row.frozen (p.o + 5)
    clear fx0 fx1 hne1 h0 c2 c4
    go_upto_region 5 with (fail)
    obtain ⟨W3, hW3⟩ : ∃ W3, W3 = w2.setCell ⟨p.g, p.o + 5, none⟩ (.int .i64 0) := ⟨_, rfl⟩
    rw [← hW3]
    have T3 : Tch (fun k => k = p.g) w2 W3 := by rw [hW3]; exact (Tch.refl (fun k => k = p.g) w2).setCell (p := ⟨p.g, p.o + 5, none⟩) (fun _ => rfl) _
    have HT3 := Lib.hid T3
    have HL3 : Hid (RLive W3 S p e.st.cnt 0 { e with st := e.st } []) := Lib.hid (by
      obtain ⟨n1, n2, n3⟩ := HE2.out.ne
      obtain ⟨o1, o2, o3⟩ := HE2.out.out
      have hS : ∀ k, S k → k < w2.heap.size ∧ ¬ k = p.g := fun k hk => ⟨HE2.out.lt k hk, fun e => o1 (e ▸ hk)⟩
      obtain ⟨U, hU⟩ := HOK.out
      refine ⟨⟨?_, HE2.out.args.tch T3 hS, HE2.out.vals.tch T3 fun e => n1 e.symm, HE2.out.memos.tch T3 (fun e => n2 e.symm) hS fun _ hk => hk, HE2.out.caps, HE2.out.ne, HE2.out.out, fun k hk => Nat.lt_of_lt_of_le (HE2.out.lt k hk) T3.size⟩, U, hU, Nat.le_add_right _ _⟩
      rw [hW3]
      exact HE2.out.row.setFault 0)
    have HMR3 := Lib.hid (HMR.out.tch HT3.out (fun h => by have h1 := HGM.out; have h2 := HLW.out.1; omega) (fun k hk => ⟨HE2.out.lt k hk, fun h => HE2.out.out.1 (h ▸ hk)⟩) fun _ hk => hk)
    have HT3w : Hid (Tch (MvR p) w W3) := Lib.hid ((HX2.out.tch _).trans (T3.mono fun k _ hk => .inl hk))
    clear hW3 T3 c5 fg5
    go_wp2_with fail
    refine (HGA.out W3 S e.st HL3.out n hn).mono ?_
    rintro ed w4 ⟨t4, hr⟩
    have HT4 := Lib.hid (HT3w.out.trans t4)
    have HTT := Lib.hid t4
    clear t4
    cases hv : E.val (E.findC e.cells) e.vals e.rev E.form (E.fuel e) [] e.st n with
    | error x =>
      rw [hv] at hr HX
      obtain ⟨rfl, hx0, hd0⟩ := hr
      rw [foundV_none]
      clear hv
      go_upto_region 6 with (fail)
      obtain ⟨W5, hW5⟩ : ∃ W5, W5 = w4.alloc (.cells #[.string ⟨#[]⟩, .bool false] 82) := ⟨_, rfl⟩
      rw [← hW5]
      have X5 : Ext w4 W5 := by rw [hW5]; exact (Ext.refl w4).alloc _
      have HT35 := Lib.hid (HTT.out.trans (X5.tch _))
      obtain ⟨cnt, hrow⟩ := (hd0.ext X5).row
      have HRW := Lib.hid hrow
      obtain ⟨_, _, g2, _, g4, g5⟩ := hrow.cells
      have fg2 := hrow.frozen (p.o + 2)
      have fg4 := hrow.frozen (p.o + 4)
      have hx1 : (x == 0) = false := by rw [beq_eq_false_iff_ne]; exact hx0
      have hx2 : (x != 0) = true := by rw [bne, hx1]; rfl
      clear hW5 X5 hd0 hrow hx0
      go_upto_region 8 with (fail)
      obtain ⟨W6, hW6⟩ : ∃ W6, W6 = (W5.setCell ⟨p.g, p.o + 2, none⟩ (.slice (some ⟨gm, 0, none⟩) L cap)).setCell ⟨p.g, p.o + 4, none⟩ (.int .i64 cn) := ⟨_, rfl⟩
      rw [← hW6]
      have T6 : Tch (MvR p) W5 W6 := by rw [hW6]; exact ((Tch.refl (MvR p) W5).setCell (p := ⟨p.g, p.o + 2, none⟩) (fun _ => .inl rfl) _).setCell (p := ⟨p.g, p.o + 4, none⟩) (fun _ => .inl rfl) _
      have hrow6 : RRow W6 p.g p.o p.pr p.A e.cells.length p.kc p.bv p.ov p.cv gm 0 cap e.rev cn x := by rw [hW6, HLE.out]; exact (HRW.out.setMemos gm 0 cap).setCnt cn
      have g5 : W6.cell? ⟨p.g, p.o + 5, none⟩ = some (.int .i64 x) := hrow6.cells.2.2.2.2.2
      have HT36 := Lib.hid (HT35.out.trans T6)
      have HR6 := Lib.hid hrow6
      clear hW6 T6 hrow6 g2 g4 fg2 fg4
      go_quiet (fail)
      go_wp2_with fail
      go_ret3
      have hY : Ext W6 (W6.drewN nq) := (Ext.refl W6).drewN nq
      have hTY : Tch (MvR p) W3 (W6.drewN nq) := HT36.out.trans (hY.tch _)
      obtain ⟨l1, l2, l3, l4⟩ := HLW.out
      have hgm := HGM.out
      obtain ⟨n1, n2, n3⟩ := HE2.out.ne
      obtain ⟨o1, o2, o3⟩ := HE2.out.out
      have hsz : w.heap.size ≤ W3.heap.size := HT3w.out.size
      have hS : ∀ k, S k → k < W3.heap.size ∧ ¬ MvR p k := fun k hk => ⟨by have := l4 k hk; omega, by
        rintro (h | h)
        · exact o1 (h ▸ hk)
        · exact o3 (h ▸ hk)⟩
      refine ⟨by rw [HX.out]; rfl, by rw [HX.out]; exact Nat.zero_le _, HT3w.out.trans hTY, S, gm, 0, cap, x, ?_, .inr hgm, fun k hk => .inl hk⟩
      rw [HX.out]
      refine ⟨?_, HL3.out.at'.args.tch hTY hS, HL3.out.at'.vals.tch hTY (fun h => ?_), ?_, ⟨HE2.out.caps.1, by rw [← HLE.out]; exact HCP.out⟩, ⟨n1, (by show p.g ≠ gm; omega), (by show p.bv ≠ gm; omega)⟩, ⟨o1, o2, fun hk => by have h1 : gm < w.heap.size := l4 gm hk; omega⟩, fun k hk => Nat.lt_of_lt_of_le (hS k hk).1 hTY.size⟩
      · show RRow _ p.g p.o p.pr p.A e.cells.length p.kc p.bv p.ov p.cv gm 0 cap e.rev ((e.st.cnt : Int) + (0 : Nat)) x
        rw [HCN.out]
        exact HR6.out.tch (hY.tch fun _ => False) fun h => h
      · rcases h with h | h
        · exact n1 h.symm
        · exact n3 h
      · show MRow _ S gm 0 e.cells.length _ _
        rw [← HLE.out]
        exact HMR3.out.tch hTY (by rintro (h | h) <;> omega) hS fun _ hk => hk
    | ok rr =>
      obtain ⟨v, st'⟩ := rr
      rw [hv] at hr HX
      obtain ⟨rfl, hzv, S', hl, hs1, hs2⟩ := hr
      have hfv : foundV v = .agg #[.string (v.getD ⟨#[]⟩), .bool v.isSome] := rfl
      rw [hfv]
      have HZV := Lib.hid hzv
      have HS2 := Lib.hid hs2
      have HL := Lib.hid hl
      obtain ⟨va, hva⟩ : ∃ va, va = v.getD ⟨#[]⟩ := ⟨_, rfl⟩
      obtain ⟨vb, hvb⟩ : ∃ vb, vb = v.isSome := ⟨_, rfl⟩
      rw [← hva, ← hvb]
      have HVA := Lib.hid hva
      have HVB := Lib.hid hvb
      clear hv hfv hva hvb hzv hs1 hs2 hl
      go_upto_region 6 with (fail)
      obtain ⟨W5, hW5⟩ : ∃ W5, W5 = w4.alloc (.cells #[.string va, .bool vb] 82) := ⟨_, rfl⟩
      rw [← hW5]
      have X5 : Ext w4 W5 := by rw [hW5]; exact (Ext.refl w4).alloc _
      have K5 : W5.heap[w4.heap.size]? = some (.cells #[.string va, .bool vb] 82) := by rw [hW5]; exact heap_alloc_new w4 _
      have r0 : W5.cell? ⟨w4.heap.size, 0, none⟩ = some (.string va) := by rw [new_off K5]; rfl
      have r1 : W5.cell? ⟨w4.heap.size, 1, none⟩ = some (.bool vb) := by rw [new_off K5]; rfl
      have HX5 := Lib.hid X5
      have g5 : W5.cell? ⟨p.g, p.o + 5, none⟩ = some (.int .i64 0) := (HL.out.ext X5).at'.row.cells.2.2.2.2.2
      clear hW5 X5 K5
      go_upto_region 9 with (fail)
      go_quiet (fail)
      go_wp2_with fail
      go_ret3
      have hY : Ext w4 (W5.drewN nq) := HX5.out.drewN nq
      refine ⟨by rw [HX.out, HVA.out, HVB.out]; rfl, by rw [HX.out]; exact HZV.out, HT4.out.trans (hY.tch _), S', p.bm, p.om, p.cm, 0, by rw [HX.out]; exact HL.out.at'.ext hY, .inl rfl, fun k hk => ?_⟩
      rcases HS2.out k hk with h | h
      · exact .inl h
      · exact .inr (Nat.le_trans HT3w.out.size h)
end Go.Proofs.YtkeaoejgboefbaaGreatDoor

/- The reference's New. -/
namespace Go.Proofs.YtkeaoejgboefbaaGreatDoor
open Go.RowKit Go.Maps

theorem found_infoR : (Tryz.prog.info? 82).map (fun i => (i.zero, i.size, i.bytes)) = some (some (.agg #[.string ⟨#[]⟩, .bool false]), 2, 24) := by kernel_rfl
theorem made_get (z : Array Value) {n j : Nat} (hj : j < n) (hz : 0 < z.size) : (madeCells z n).toList[j]? = z[j % z.size]? := by
  have hm := Nat.mod_lt j hz
  unfold madeCells
  rw [Array.getElem?_toList, Array.getElem?_map, Array.getElem?_range, if_pos hj]
  simp [getElem!_pos z (j % z.size) hm, Array.getElem?_eq_getElem hm]
theorem VRow.made {w : World} {g n : Nat} (h1 : w.heap[g]? = some (.cells (madeCells (Value.agg #[.string ⟨#[]⟩, .bool false]).cells (n * 2)) 82 (0, 0))) : VRow w g 0 n fun _ => none := by
  refine ⟨_, h1, fun i hi => ⟨?_, ?_⟩⟩
  · rw [← Array.getElem?_toList, made_get _ (by omega) (by decide)]
    show #[Value.string ⟨#[]⟩, .bool false][(0 + i * 2) % 2]? = _
    rw [show (0 + i * 2) % 2 = 0 from by omega]; rfl
  · rw [← Array.getElem?_toList, made_get _ (by omega) (by decide)]
    show #[Value.string ⟨#[]⟩, .bool false][(0 + i * 2 + 1) % 2]? = _
    rw [show (0 + i * 2 + 1) % 2 = 1 from by omega]; rfl
theorem MRow.made {w : World} {S : Nat → Prop} {g n : Nat} (h1 : w.heap[g]? = some (.cells (madeCells (Value.agg #[.bool false, .int .i64 0, .string ⟨#[]⟩, .bool false, .slice none 0 0, .bool false]).cells (n * 6)) 119 (0, 0))) : MRow w S g 0 n (fun _ => none) fun _ => false := by
  refine ⟨_, h1, fun i hi => ⟨_, rfl, rfl, fun j hj => ?_⟩⟩
  rw [← Array.getElem?_toList, made_get _ (by omega) (by decide)]
  show #[Value.bool false, .int .i64 0, .string ⟨#[]⟩, .bool false, .slice none 0 0, .bool false][(0 + i * 6 + j) % 6]? = _
  rw [show (0 + i * 6 + j) % 6 = j from by omega]
  simp
theorem info40 : (Tryz.prog.info? 40).map (·.size) = some 6 := by kernel_rfl
theorem results_row_tmp {P : Program} {fn : Func} {p u : Tmp} {ty : TypeId} (h : fn.results = #[.cell p ty, .tmp u]) (tmps : Array Value) (w : World) (g : Nat) (t : TypeId) (cs : Array Value) (fr : Nat × Nat) (d : TypeDesc)
    (hp : tmps.getD p undef = .pointer (some ⟨g, 0, none⟩)) (hg : w.heap[g]? = some (.cells cs t fr))
    (hu : P.underlying ty = some d) (hd : (match d with | .struct _ | .array _ _ => true | _ => false) = true) (hi : (P.info? ty).map (·.size) = some cs.size) :
    (results fn tmps).run P w = .ok (.tuple #[.agg cs, tmps.getD u undef]) w := by
  have hp' : tmps[p]?.getD undef = .pointer (some ⟨g, 0, none⟩) := by simpa using hp
  simp [results, h, hp', asAddr, run_loadVar_row w g t ty cs fr d hg hu hd hi]
theorem ret_new {fn : Func} (h : fn.results = #[.cell 2 40, .tmp 3]) {R : Ending → World → Prop} {a : Act} {w : World} {g : Nat} {x0 x1 x2 x3 x4 x5 y : Value} (hp : a.tmps.getD 2 undef = .pointer (some ⟨g, 0, none⟩)) (hy : a.tmps.getD 3 undef = y) (hg : w.heap[g]? = some (.cells #[x0, x1, x2, x3, x4, x5] 40 (0, 0))) (hd : a.defers = []) (hR : R (.returned (.tuple #[.agg #[x0, x1, x2, x3, x4, x5], y])) w) : bodyPost Tryz.prog fn R .ret a w :=
  bodyPost_ret (results_row_tmp h a.tmps w g 40 #[x0, x1, x2, x3, x4, x5] (0, 0) _ hp hg Tryz.underlying40 rfl info40) hd (by rw [hy]; exact hR)
/-- What the reference's New answers. -/
def RetNewR (w : World) (cs : List E.Cell) (A : Option Addr) (n kc : Nat) (ed : Ending) (w' : World) : Prop := Ext w w' ∧
  ((E.newErr cs ≠ 0 ∧ ed = .returned (.tuple #[.agg #[.slice none 0 0, .slice none 0 0, .slice none 0 0, .int .i64 0, .int .i64 0, .int .i64 0], .int .i64 (E.newErr cs)])) ∨
   (E.newErr cs = 0 ∧ ∃ bv bm, ed = .returned (.tuple #[.agg #[.slice A n kc, .slice (some ⟨bv, 0, none⟩) n n, .slice (some ⟨bm, 0, none⟩) n n, .int .i64 0, .int .i64 0, .int .i64 0], .int .i64 0]) ∧ w.heap.size ≤ bv ∧ w.heap.size ≤ bm ∧ bv ≠ bm ∧ VRow w' bv 0 n (fun _ => none) ∧ MRow w' (Old w) bm 0 n (fun _ => none) fun _ => false))
theorem new_fin {w W2 WF : World} {cs : List E.Cell} {A : Option Addr} {n kc bv bm : Nat} (h0 : 0 = E.newErr cs) (hx : Ext w WF) (ht : Tch (fun k => k = w.heap.size) W2 WF) (h1 : W2.heap[bv]? = some (.cells (madeCells (Value.agg #[.string ⟨#[]⟩, .bool false]).cells (n * 2)) 82 (0, 0))) (h2 : W2.heap[bm]? = some (.cells (madeCells (Value.agg #[.bool false, .int .i64 0, .string ⟨#[]⟩, .bool false, .slice none 0 0, .bool false]).cells (n * 6)) 119 (0, 0))) (l1 : w.heap.size < bv) (l2 : w.heap.size < bm) (hne : bv ≠ bm) :
    RetNewR w cs A n kc (.returned (.tuple #[.agg #[.slice A n kc, .slice (some ⟨bv, 0, none⟩) n n, .slice (some ⟨bm, 0, none⟩) n n, .int .i64 0, .int .i64 0, .int .i64 0], .int .i64 0])) WF :=
  ⟨hx, .inr ⟨h0.symm, bv, bm, rfl, Nat.le_of_lt l1, Nat.le_of_lt l2, hne, VRow.made ((ht.block bv (Array.getElem?_eq_some_iff.1 h1).1 (by omega)).trans h1), MRow.made ((ht.block bm (Array.getElem?_eq_some_iff.1 h2).1 (by omega)).trans h2)⟩⟩
set_option maxRecDepth 100000 in
set_option maxHeartbeats 1000000 in
theorem refNew_any {w : World} {A : Option Addr} {kc n : Nat} {cs : List E.Cell} (hA : SliceAt cellR w (Old w) A kc cs) (hn : n = cs.length) (harg : ∀ c ∈ cs, c.2.2.1.length ≤ 1000) : Calls Tryz.prog 28 #[.slice A n kc] w (RetNewR w cs A n kc) := by
  obtain ⟨W1, hW1⟩ : ∃ W1, W1 = w.alloc (.cells #[.slice none 0 0, .slice none 0 0, .slice none 0 0, .int .i64 0, .int .i64 0, .int .i64 0] 40) := ⟨_, rfl⟩
  have X1 : Ext w W1 := by rw [hW1]; exact (Ext.refl w).alloc _
  have K1 : Hid (W1.heap[w.heap.size]? = some (.cells #[.slice none 0 0, .slice none 0 0, .slice none 0 0, .int .i64 0, .int .i64 0, .int .i64 0] 40)) := Lib.hid (by rw [hW1]; exact heap_alloc_new w _)
  have hbk : ∀ k, Old w k → Old W1 k := fun k hk => Nat.lt_of_lt_of_le hk X1.size
  have HCH := Lib.hid (refCheck_any ((hA.tch (X1.tch fun _ => False) fun k hk => ⟨hk, fun h => h⟩).keep hbk fun _ _ => rfl) hn harg)
  have HX1 := Lib.hid X1
  clear X1 hbk
  obtain ⟨x, hx⟩ : ∃ x, x = E.newErr cs := ⟨_, rfl⟩
  unfold RetChk at HCH
  rw [← hx] at HCH
  have HXE := Lib.hid hx
  have HZN : Hid (n ≤ 200 ∨ E.newErr cs = 10) := Lib.hid (by by_cases h : n ≤ 200; exact .inl h; right; unfold E.newErr; rw [if_pos (by omega)])
  clear hx hA hn harg
  go_enter Tryz.func28, Tryz.ntmps28
  go_upto_region 1 with (fail)
  rw [← hW1]
  clear hW1
  go_wp2_with fail
  refine HCH.out.mono ?_
  rintro ed w1 ⟨rfl, x1⟩
  have HX2 := Lib.hid (HX1.out.trans x1)
  have K2 : Hid (w1.heap[w.heap.size]? = some (.cells #[.slice none 0 0, .slice none 0 0, .slice none 0 0, .int .i64 0, .int .i64 0, .int .i64 0] 40)) := Lib.hid ((x1.block _ (Array.getElem?_eq_some_iff.1 K1.out).1).trans K1.out)
  clear x1
  by_cases h0 : x = 0
  · have hz : n ≤ 200 := by
      rcases HZN.out with h | h
      · exact h
      · have h1 := HXE.out; rw [h0, h] at h1; cases h1
    subst h0
    obtain ⟨i0, hi, hz0, hz1, hz2⟩ := info_parts found_infoR
    obtain ⟨j0, gi, gz0, gz1, gz2⟩ := info_parts memo_info
    obtain ⟨VC, hVC⟩ : ∃ VC, VC = madeCells (Value.agg #[.string ⟨#[]⟩, .bool false]).cells (n * 2) := ⟨_, rfl⟩
    obtain ⟨MC, hMC⟩ : ∃ MC, MC = madeCells (Value.agg #[.bool false, .int .i64 0, .string ⟨#[]⟩, .bool false, .slice none 0 0, .bool false]).cells (n * 6) := ⟨_, rfl⟩
    have hmk1 : ∀ W : World, (Instr.makeSlice 36 (.int .i64 (n : Int)) (.int .i64 (n : Int))).run Tryz.prog W = .ok (.slice (some ⟨W.heap.size, 0, none⟩) n n) (W.alloc (.cells VC 82)) := fun W => by
      have h := run_make (P := Tryz.prog) W 36 82 i0 _ Tryz.underlying36 hi hz0 .i64 .i64 (n : Int) (n : Int) (by omega) (by omega) (by rw [hz2]; omega) (by omega)
      rw [hz1, Int.toNat_natCast] at h
      rw [hVC]; exact h
    have hmk2 : ∀ W : World, (Instr.makeSlice 37 (.int .i64 (n : Int)) (.int .i64 (n : Int))).run Tryz.prog W = .ok (.slice (some ⟨W.heap.size, 0, none⟩) n n) (W.alloc (.cells MC 119)) := fun W => by
      have h := run_make (P := Tryz.prog) W 37 119 j0 _ Tryz.underlying37 gi gz0 .i64 .i64 (n : Int) (n : Int) (by omega) (by omega) (by rw [gz2]; omega) (by omega)
      rw [gz1, Int.toNat_natCast] at h
      rw [hMC]; exact h
    have HVC := Lib.hid hVC
    have HMC := Lib.hid hMC
    clear hVC hMC hi hz0 hz1 hz2 gi gz0 gz1 gz2
    have HZ := Lib.hid hz
    go_upto_region 4 with (fail)
    have KA : Hid (((w1.alloc (.cells VC 82)).alloc (.cells MC 119)).heap[w.heap.size]? = some (.cells #[.slice none 0 0, .slice none 0 0, .slice none 0 0, .int .i64 0, .int .i64 0, .int .i64 0] 40)) := Lib.hid (heap_old (heap_old K2.out _) _)
    have KB : Hid (((w1.alloc (.cells MC 119)).alloc (.cells VC 82)).heap[w.heap.size]? = some (.cells #[.slice none 0 0, .slice none 0 0, .slice none 0 0, .int .i64 0, .int .i64 0, .int .i64 0] 40)) := Lib.hid (heap_old (heap_old K2.out _) _)
    have ar0 : ((w1.alloc (.cells VC 82)).alloc (.cells MC 119)).cell? ⟨w.heap.size, 0, none⟩ = some (.slice none 0 0) := by rw [new_off KA.out]; rfl
    have af0 : ((w1.alloc (.cells VC 82)).alloc (.cells MC 119)).frozen? ⟨w.heap.size, 0, none⟩ = false := Lib.frozen_of_heap KA.out 0
    have ar1 : ((w1.alloc (.cells VC 82)).alloc (.cells MC 119)).cell? ⟨w.heap.size, 1, none⟩ = some (.slice none 0 0) := by rw [new_off KA.out]; rfl
    have af1 : ((w1.alloc (.cells VC 82)).alloc (.cells MC 119)).frozen? ⟨w.heap.size, 1, none⟩ = false := Lib.frozen_of_heap KA.out 1
    have ar2 : ((w1.alloc (.cells VC 82)).alloc (.cells MC 119)).cell? ⟨w.heap.size, 2, none⟩ = some (.slice none 0 0) := by rw [new_off KA.out]; rfl
    have af2 : ((w1.alloc (.cells VC 82)).alloc (.cells MC 119)).frozen? ⟨w.heap.size, 2, none⟩ = false := Lib.frozen_of_heap KA.out 2
    have ar3 : ((w1.alloc (.cells VC 82)).alloc (.cells MC 119)).cell? ⟨w.heap.size, 3, none⟩ = some (.int .i64 0) := by rw [new_off KA.out]; rfl
    have af3 : ((w1.alloc (.cells VC 82)).alloc (.cells MC 119)).frozen? ⟨w.heap.size, 3, none⟩ = false := Lib.frozen_of_heap KA.out 3
    have ar4 : ((w1.alloc (.cells VC 82)).alloc (.cells MC 119)).cell? ⟨w.heap.size, 4, none⟩ = some (.int .i64 0) := by rw [new_off KA.out]; rfl
    have af4 : ((w1.alloc (.cells VC 82)).alloc (.cells MC 119)).frozen? ⟨w.heap.size, 4, none⟩ = false := Lib.frozen_of_heap KA.out 4
    have ar5 : ((w1.alloc (.cells VC 82)).alloc (.cells MC 119)).cell? ⟨w.heap.size, 5, none⟩ = some (.int .i64 0) := by rw [new_off KA.out]; rfl
    have af5 : ((w1.alloc (.cells VC 82)).alloc (.cells MC 119)).frozen? ⟨w.heap.size, 5, none⟩ = false := Lib.frozen_of_heap KA.out 5
    have br0 : ((w1.alloc (.cells MC 119)).alloc (.cells VC 82)).cell? ⟨w.heap.size, 0, none⟩ = some (.slice none 0 0) := by rw [new_off KB.out]; rfl
    have bf0 : ((w1.alloc (.cells MC 119)).alloc (.cells VC 82)).frozen? ⟨w.heap.size, 0, none⟩ = false := Lib.frozen_of_heap KB.out 0
    have br1 : ((w1.alloc (.cells MC 119)).alloc (.cells VC 82)).cell? ⟨w.heap.size, 1, none⟩ = some (.slice none 0 0) := by rw [new_off KB.out]; rfl
    have bf1 : ((w1.alloc (.cells MC 119)).alloc (.cells VC 82)).frozen? ⟨w.heap.size, 1, none⟩ = false := Lib.frozen_of_heap KB.out 1
    have br2 : ((w1.alloc (.cells MC 119)).alloc (.cells VC 82)).cell? ⟨w.heap.size, 2, none⟩ = some (.slice none 0 0) := by rw [new_off KB.out]; rfl
    have bf2 : ((w1.alloc (.cells MC 119)).alloc (.cells VC 82)).frozen? ⟨w.heap.size, 2, none⟩ = false := Lib.frozen_of_heap KB.out 2
    have br3 : ((w1.alloc (.cells MC 119)).alloc (.cells VC 82)).cell? ⟨w.heap.size, 3, none⟩ = some (.int .i64 0) := by rw [new_off KB.out]; rfl
    have bf3 : ((w1.alloc (.cells MC 119)).alloc (.cells VC 82)).frozen? ⟨w.heap.size, 3, none⟩ = false := Lib.frozen_of_heap KB.out 3
    have br4 : ((w1.alloc (.cells MC 119)).alloc (.cells VC 82)).cell? ⟨w.heap.size, 4, none⟩ = some (.int .i64 0) := by rw [new_off KB.out]; rfl
    have bf4 : ((w1.alloc (.cells MC 119)).alloc (.cells VC 82)).frozen? ⟨w.heap.size, 4, none⟩ = false := Lib.frozen_of_heap KB.out 4
    have br5 : ((w1.alloc (.cells MC 119)).alloc (.cells VC 82)).cell? ⟨w.heap.size, 5, none⟩ = some (.int .i64 0) := by rw [new_off KB.out]; rfl
    have bf5 : ((w1.alloc (.cells MC 119)).alloc (.cells VC 82)).frozen? ⟨w.heap.size, 5, none⟩ = false := Lib.frozen_of_heap KB.out 5
    go_region
    · obtain ⟨WN, hWN⟩ : ∃ WN, WN = ((((((((w1.alloc (.cells VC 82)).alloc (.cells MC 119)).setCell ⟨w.heap.size, 0, none⟩ (.slice A n kc)).setCell ⟨w.heap.size, 1, none⟩ (.slice (some ⟨w1.heap.size, 0, none⟩) n n)).setCell ⟨w.heap.size, 2, none⟩ (.slice (some ⟨w1.heap.size + 1, 0, none⟩) n n)).setCell ⟨w.heap.size, 3, none⟩ (.int .i64 0)).setCell ⟨w.heap.size, 4, none⟩ (.int .i64 0)).setCell ⟨w.heap.size, 5, none⟩ (.int .i64 0)) := ⟨_, rfl⟩
      rw [← hWN]
      have hT : Tch (fun k => k = w.heap.size) ((w1.alloc (.cells VC 82)).alloc (.cells MC 119)) WN := by rw [hWN]; exact (((((((Tch.refl (fun k => k = w.heap.size) ((w1.alloc (.cells VC 82)).alloc (.cells MC 119))).setCell (p := ⟨w.heap.size, 0, none⟩) (fun _ => rfl) (.slice A n kc)).setCell (p := ⟨w.heap.size, 1, none⟩) (fun _ => rfl) (.slice (some ⟨w1.heap.size, 0, none⟩) n n)).setCell (p := ⟨w.heap.size, 2, none⟩) (fun _ => rfl) (.slice (some ⟨w1.heap.size + 1, 0, none⟩) n n)).setCell (p := ⟨w.heap.size, 3, none⟩) (fun _ => rfl) (.int .i64 0)).setCell (p := ⟨w.heap.size, 4, none⟩) (fun _ => rfl) (.int .i64 0)).setCell (p := ⟨w.heap.size, 5, none⟩) (fun _ => rfl) (.int .i64 0))
      have hE : Ext w WN := by rw [hWN]; exact ((((((((HX2.out.alloc _).alloc _).setCell (p := ⟨w.heap.size, 0, none⟩) (Nat.le_refl _) (.slice A n kc)).setCell (p := ⟨w.heap.size, 1, none⟩) (Nat.le_refl _) (.slice (some ⟨w1.heap.size, 0, none⟩) n n)).setCell (p := ⟨w.heap.size, 2, none⟩) (Nat.le_refl _) (.slice (some ⟨w1.heap.size + 1, 0, none⟩) n n)).setCell (p := ⟨w.heap.size, 3, none⟩) (Nat.le_refl _) (.int .i64 0)).setCell (p := ⟨w.heap.size, 4, none⟩) (Nat.le_refl _) (.int .i64 0)).setCell (p := ⟨w.heap.size, 5, none⟩) (Nat.le_refl _) (.int .i64 0))
      have hh : WN.heap[w.heap.size]? = some (.cells #[.slice A n kc, .slice (some ⟨w1.heap.size, 0, none⟩) n n, .slice (some ⟨w1.heap.size + 1, 0, none⟩) n n, .int .i64 0, .int .i64 0, .int .i64 0] 40 (0, 0)) := by rw [hWN]; exact (heap_setCell_cells (heap_setCell_cells (heap_setCell_cells (heap_setCell_cells (heap_setCell_cells (heap_setCell_cells KA.out 0 (.slice A n kc)) 1 (.slice (some ⟨w1.heap.size, 0, none⟩) n n)) 2 (.slice (some ⟨w1.heap.size + 1, 0, none⟩) n n)) 3 (.int .i64 0)) 4 (.int .i64 0)) 5 (.int .i64 0))
      have HW1 : Hid (w.heap.size < w1.heap.size) := Lib.hid (Array.getElem?_eq_some_iff.1 K2.out).1
      have e1 : ((w1.alloc (.cells VC 82)).alloc (.cells MC 119)).heap[w1.heap.size]? = some (.cells VC 82) := heap_old (heap_alloc_new w1 _) _
      have e2 : ((w1.alloc (.cells VC 82)).alloc (.cells MC 119)).heap[w1.heap.size + 1]? = some (.cells MC 119) := by
        have := heap_alloc_new (w1.alloc (.cells VC 82)) (.cells MC 119)
        rw [size_alloc'] at this
        exact this
      have HT := Lib.hid hT
      have HEX := Lib.hid hE
      have HH := Lib.hid hh
      have HE1 := Lib.hid e1
      have HE2 := Lib.hid e2
      clear hWN hT hE hh e1 e2 ar0 ar1 ar2 ar3 ar4 ar5 af0 af1 af2 af3 af4 af5 br0 br1 br2 br3 br4 br5 bf0 bf1 bf2 bf3 bf4 bf5
      generalize ((w1.alloc (.cells VC 82)).alloc (.cells MC 119)) = W2 at HT HE1 HE2
      rw [HVC.out] at HE1
      rw [HMC.out] at HE2
      go_wp2_with fail
      refine ret_new (g := w.heap.size) Tryz.results28 rfl rfl HH.out rfl (new_fin (W2 := W2) HXE.out HEX.out.drew ⟨HT.out.os, HT.out.tape, HT.out.output, HT.out.size, HT.out.block⟩ HE1.out HE2.out ?_ ?_ ?_)
      all_goals (have := HW1.out; omega)
    · obtain ⟨WN, hWN⟩ : ∃ WN, WN = ((((((((w1.alloc (.cells MC 119)).alloc (.cells VC 82)).setCell ⟨w.heap.size, 0, none⟩ (.slice A n kc)).setCell ⟨w.heap.size, 1, none⟩ (.slice (some ⟨w1.heap.size + 1, 0, none⟩) n n)).setCell ⟨w.heap.size, 2, none⟩ (.slice (some ⟨w1.heap.size, 0, none⟩) n n)).setCell ⟨w.heap.size, 3, none⟩ (.int .i64 0)).setCell ⟨w.heap.size, 4, none⟩ (.int .i64 0)).setCell ⟨w.heap.size, 5, none⟩ (.int .i64 0)) := ⟨_, rfl⟩
      rw [← hWN]
      have hT : Tch (fun k => k = w.heap.size) ((w1.alloc (.cells MC 119)).alloc (.cells VC 82)) WN := by rw [hWN]; exact (((((((Tch.refl (fun k => k = w.heap.size) ((w1.alloc (.cells MC 119)).alloc (.cells VC 82))).setCell (p := ⟨w.heap.size, 0, none⟩) (fun _ => rfl) (.slice A n kc)).setCell (p := ⟨w.heap.size, 1, none⟩) (fun _ => rfl) (.slice (some ⟨w1.heap.size + 1, 0, none⟩) n n)).setCell (p := ⟨w.heap.size, 2, none⟩) (fun _ => rfl) (.slice (some ⟨w1.heap.size, 0, none⟩) n n)).setCell (p := ⟨w.heap.size, 3, none⟩) (fun _ => rfl) (.int .i64 0)).setCell (p := ⟨w.heap.size, 4, none⟩) (fun _ => rfl) (.int .i64 0)).setCell (p := ⟨w.heap.size, 5, none⟩) (fun _ => rfl) (.int .i64 0))
      have hE : Ext w WN := by rw [hWN]; exact ((((((((HX2.out.alloc _).alloc _).setCell (p := ⟨w.heap.size, 0, none⟩) (Nat.le_refl _) (.slice A n kc)).setCell (p := ⟨w.heap.size, 1, none⟩) (Nat.le_refl _) (.slice (some ⟨w1.heap.size + 1, 0, none⟩) n n)).setCell (p := ⟨w.heap.size, 2, none⟩) (Nat.le_refl _) (.slice (some ⟨w1.heap.size, 0, none⟩) n n)).setCell (p := ⟨w.heap.size, 3, none⟩) (Nat.le_refl _) (.int .i64 0)).setCell (p := ⟨w.heap.size, 4, none⟩) (Nat.le_refl _) (.int .i64 0)).setCell (p := ⟨w.heap.size, 5, none⟩) (Nat.le_refl _) (.int .i64 0))
      have hh : WN.heap[w.heap.size]? = some (.cells #[.slice A n kc, .slice (some ⟨w1.heap.size + 1, 0, none⟩) n n, .slice (some ⟨w1.heap.size, 0, none⟩) n n, .int .i64 0, .int .i64 0, .int .i64 0] 40 (0, 0)) := by rw [hWN]; exact (heap_setCell_cells (heap_setCell_cells (heap_setCell_cells (heap_setCell_cells (heap_setCell_cells (heap_setCell_cells KB.out 0 (.slice A n kc)) 1 (.slice (some ⟨w1.heap.size + 1, 0, none⟩) n n)) 2 (.slice (some ⟨w1.heap.size, 0, none⟩) n n)) 3 (.int .i64 0)) 4 (.int .i64 0)) 5 (.int .i64 0))
      have HW1 : Hid (w.heap.size < w1.heap.size) := Lib.hid (Array.getElem?_eq_some_iff.1 K2.out).1
      have e1 : ((w1.alloc (.cells MC 119)).alloc (.cells VC 82)).heap[w1.heap.size]? = some (.cells MC 119) := heap_old (heap_alloc_new w1 _) _
      have e2 : ((w1.alloc (.cells MC 119)).alloc (.cells VC 82)).heap[w1.heap.size + 1]? = some (.cells VC 82) := by
        have := heap_alloc_new (w1.alloc (.cells MC 119)) (.cells VC 82)
        rw [size_alloc'] at this
        exact this
      have HT := Lib.hid hT
      have HEX := Lib.hid hE
      have HH := Lib.hid hh
      have HE1 := Lib.hid e1
      have HE2 := Lib.hid e2
      clear hWN hT hE hh e1 e2 ar0 ar1 ar2 ar3 ar4 ar5 af0 af1 af2 af3 af4 af5 br0 br1 br2 br3 br4 br5 bf0 bf1 bf2 bf3 bf4 bf5
      generalize ((w1.alloc (.cells MC 119)).alloc (.cells VC 82)) = W2 at HT HE1 HE2
      rw [HVC.out] at HE2
      rw [HMC.out] at HE1
      go_wp2_with fail
      refine ret_new (g := w.heap.size) Tryz.results28 rfl rfl HH.out rfl (new_fin (W2 := W2) HXE.out HEX.out.drew ⟨HT.out.os, HT.out.tape, HT.out.output, HT.out.size, HT.out.block⟩ HE2.out HE1.out ?_ ?_ ?_)
      all_goals (have := HW1.out; omega)
  · have hx1 : (x == 0) = false := by rw [beq_eq_false_iff_ne]; exact h0
    have hx2 : (x != 0) = true := by rw [bne, hx1]; rfl
    have H0 := Lib.hid h0
    clear h0
    have r0 : w1.cell? ⟨w.heap.size, 0, none⟩ = some (.slice none 0 0) := by rw [new_off K2.out]; rfl
    have f0 := Lib.frozen_of_heap K2.out 0
    have r1 : w1.cell? ⟨w.heap.size, 1, none⟩ = some (.slice none 0 0) := by rw [new_off K2.out]; rfl
    have f1 := Lib.frozen_of_heap K2.out 1
    have r2 : w1.cell? ⟨w.heap.size, 2, none⟩ = some (.slice none 0 0) := by rw [new_off K2.out]; rfl
    have f2 := Lib.frozen_of_heap K2.out 2
    have r3 : w1.cell? ⟨w.heap.size, 3, none⟩ = some (.int .i64 0) := by rw [new_off K2.out]; rfl
    have f3 := Lib.frozen_of_heap K2.out 3
    have r4 : w1.cell? ⟨w.heap.size, 4, none⟩ = some (.int .i64 0) := by rw [new_off K2.out]; rfl
    have f4 := Lib.frozen_of_heap K2.out 4
    have r5 : w1.cell? ⟨w.heap.size, 5, none⟩ = some (.int .i64 0) := by rw [new_off K2.out]; rfl
    have f5 := Lib.frozen_of_heap K2.out 5
    go_upto_region 3 with (fail)
    go_wp2_with fail
    refine ret_new Tryz.results28 rfl rfl (heap_setCell_cells (heap_setCell_cells (heap_setCell_cells (heap_setCell_cells (heap_setCell_cells (heap_setCell_cells K2.out 0 _) 1 _) 2 _) 3 _) 4 _) 5 _) rfl ⟨?_, .inl ⟨?_, ?_⟩⟩
    · exact (((((HX2.out.setCell (Nat.le_refl _) _).setCell (Nat.le_refl _) _).setCell (Nat.le_refl _) _).setCell (Nat.le_refl _) _).setCell (Nat.le_refl _) _).setCell (Nat.le_refl _) _
    · rw [← HXE.out]; exact H0.out
    · rw [← HXE.out]; rfl
end Go.Proofs.YtkeaoejgboefbaaGreatDoor

/- The cell that an act names. -/
namespace Go.Proofs.YtkeaoejgboefbaaGreatDoor
open Go.RowKit Go.Maps

def actN (cs : List E.Cell) (c : Nat) : ByteArray := if c % (cs.length + 1) = cs.length then ⟨#[110, 111, 110, 101]⟩ else nmAt cs (c % (cs.length + 1))
set_option maxRecDepth 100000 in
set_option maxHeartbeats 1000000 in
theorem refName18_any {w : World} {A : Option Addr} {kc n c : Nat} {cs : List E.Cell} (hA : SliceAt cellR w (Old w) A kc cs) (hn : n = cs.length) (hz : cs.length ≤ 1000) (hc : c ≤ 255) (x0 x2 : Value) (h0 : x0.oneCell' = true) (h2 : x2.oneCell' = true) :
    Calls Tryz.prog 29 #[.slice A n kc, .agg #[x0, .int .u8 c, x2]] w (Al (.string (actN cs c)) w) := by
  have HN := Lib.hid hn
  obtain ⟨W1, hW1⟩ : ∃ W1, W1 = w.alloc (.cells #[x0, .int .u8 c, x2] 31) := ⟨_, rfl⟩
  have X1 : Ext w W1 := by rw [hW1]; exact (Ext.refl w).alloc _
  have HX1 := Lib.hid X1
  have K1 : Hid (W1.heap[w.heap.size]? = some (.cells #[x0, .int .u8 c, x2] 31)) := Lib.hid (by rw [hW1]; exact heap_alloc_new w _)
  have a1 : W1.cell? ⟨w.heap.size, 1, none⟩ = some (.int .u8 c) := by rw [new_off K1.out]; rfl
  have hmd : (c : Int).tmod ((n : Int) + 1) = ((c % (n + 1) : Nat) : Int) := by
    rw [Int.tmod_eq_emod_of_nonneg (by omega)]; have := Int.natCast_emod c (n + 1); rw [Int.natCast_add] at this; exact this.symm
  have hlt := Nat.mod_lt c (show 0 < n + 1 by omega)
  have HA := Lib.hid (hA.tch (X1.tch fun _ => False) fun k hk => ⟨hk, fun h => h⟩)
  have HE : Hid (actN cs c = if c % (n + 1) = n then ⟨#[110, 111, 110, 101]⟩ else nmAt cs (c % (n + 1))) := Lib.hid (by rw [hn]; rfl)
  have hnz : n ≤ 1000 := by omega
  clear hn hz hA X1
  generalize hk : c % (n + 1) = k at *
  have HK := Lib.hid hk
  clear hk
  go_enter Tryz.func29, Tryz.ntmps29
  go_upto_region 1 with (fail)
  rw [← hW1]
  clear hW1
  by_cases hkn : k = n
  · have HKN := Lib.hid hkn
    have hq : ((k : Int) == (n : Int)) = true := by rw [hkn]; simp
    clear hkn
    go_wp2_with fail
    go_ret
    exact ⟨by rw [HE.out, if_pos HKN.out]; rfl, HX1.out⟩
  · have HKN := Lib.hid hkn
    have hq : ((k : Int) == (n : Int)) = false := by rw [beq_eq_false_iff_ne]; omega
    have hkl : k < n := by omega
    have hkc : k < cs.length := by rw [← HN.out]; exact hkl
    obtain ⟨b, off, A2, k2, hAe, hbb, d0, d1, d2, d3, z1, z2, z3, z4⟩ := cell_get HA.out hkc
    replace d0 : W1.cell? ⟨b, off + k * 4, none⟩ = some (.string cs[k].1) := d0
    have HNM : Hid (nmAt cs k = cs[k].1) := Lib.hid (nmAt_get hkc)
    subst hAe
    generalize cs[k].1 = nm at *
    clear hkn hbb d1 d2 d3 z1 z2 z3 z4 hkc
    go_wp2_with fail
    go_ret
    exact ⟨by rw [HE.out, if_neg HKN.out, HNM.out]; rfl, HX1.out⟩
end Go.Proofs.YtkeaoejgboefbaaGreatDoor

/- Short: a bool; where it is true, the acts are few and short. -/
namespace Go.Proofs.YtkeaoejgboefbaaGreatDoor
open Go.RowKit Go.Maps

abbrev ActE := Int × Int × ByteArray
def actR : Rep ActE := prodR (intR .u8) (prodR (intR .u8) strR)
theorem act_get {w : World} {B : Nat → Prop} {A : Option Addr} {c : Nat} {l : List ActE} (h : SliceAt actR w B A c l) {j : Nat} (hj : j < l.length) :
    ∃ b off, A = some ⟨b, off, none⟩ ∧ B b ∧ w.cell? ⟨b, off + j * 3, none⟩ = some (.int .u8 l[j].1) ∧ w.cell? ⟨b, off + j * 3 + 1, none⟩ = some (.int .u8 l[j].2.1) ∧ w.cell? ⟨b, off + j * 3 + 2, none⟩ = some (.string l[j].2.2) ∧
      (Lit.int .u8 l[j].1).wf = true ∧ (Lit.int .u8 l[j].2.1).wf = true ∧ l[j].2.2.size ≤ 9223372036854775807 := by
  obtain ⟨_, _, h3⟩ := h
  obtain ⟨b, off, hA, hb, hr⟩ := h3 (by intro e; rw [e] at hj; exact absurd hj (Nat.not_lt_zero _))
  obtain ⟨us, hu, hc⟩ := hr j hj
  obtain ⟨x1, y1, rfl, ⟨rfl, z1⟩, x2, y2, rfl, ⟨rfl, z2⟩, rfl, z4⟩ := hu
  have e : actR.size = 3 := rfl
  have c0 := hc 0 _ rfl
  have c1 := hc 1 _ rfl
  have c2 := hc 2 _ rfl
  rw [e] at c0 c1 c2
  exact ⟨b, off, hA, hb, c0, c1, c2, z1, z2, z4⟩
/-- It returns a bool; where it is true, P. -/
def RetB (w : World) (P : Prop) (e : Ending) (w' : World) : Prop := Ext w w' ∧ ∃ b, e = .returned (.bool b) ∧ (b = true → P)
theorem retB_false {w w' : World} {P : Prop} (h : Ext w w') : RetB w P (.returned (.bool false)) w' := ⟨h, false, rfl, fun h => by cases h⟩
theorem retB_true {w w' : World} {P : Prop} (h : Ext w w') (hp : P) : RetB w P (.returned (.bool true)) w' := ⟨h, true, rfl, fun _ => hp⟩
def ShortA (l : List ActE) (most : Int) : Prop := (l.length : Int) ≤ most ∧ ∀ a ∈ l, a.2.2.size ≤ 200
def shortTo (l : List ActE) (k : Nat) : Prop := ∀ i (h : i < l.length), i < k → l[i].2.2.size ≤ 200
theorem shortTo_succ {t : List ActE} {k : Nat} (h : shortTo t k) (hk : k < t.length) (h1 : t[k].2.2.size ≤ 200) : shortTo t (k + 1) := by
  intro i hi hik
  by_cases e : i = k
  · subst e; exact h1
  · exact h i hi (by omega)
theorem shortA_of {t : List ActE} {most : Int} (h1 : shortTo t t.length) (h2 : (t.length : Int) ≤ most) : ShortA t most :=
  ⟨h2, fun s hs => by obtain ⟨i, hi, rfl⟩ := List.getElem_of_mem hs; exact h1 i hi hi⟩
set_option maxRecDepth 8000 in
set_option maxHeartbeats 1000000 in
theorem refShort_any (t : List ActE) (A : Option Addr) (c n : Nat) (most : Int) (w : World) (hn : n = t.length) (hA : SliceAt actR w (Old w) A c t) :
    Calls Tryz.prog 9 #[.slice A n c, .int .i64 most] w (RetB w (ShortA t most)) := by
  have hn2 : n ≤ 9223372036854775807 := by have := hA.1; have := hA.2.1; omega
  have HF := Lib.hid (@shortA_of t most)
  obtain ⟨P, hP⟩ : ∃ P, P = ShortA t most := ⟨_, rfl⟩
  rw [← hP] at HF ⊢
  have HN := Lib.hid hn
  have HA := Lib.hid hA
  clear hn hA hP
  go_enter Tryz.func9, Tryz.ntmps9
  by_cases hm : most < n
  · go_wp2_with fail
    go_ret
    exact retB_false (Ext.refl _)
  have HM := Lib.hid hm
  go_wp2_with fail
  clear hm
  go_loopw [5] (fun i wr => ∃ (k : Nat), k ≤ n ∧ i = .int .i64 k ∧ Hid (shortTo t k ∧ Ext w wr)) (fun i _ => n - (intOf i).toNat)
  case atStart => exact ⟨0, Nat.zero_le _, rfl, fun _ _ h => absurd h (Nat.not_lt_zero _), Ext.refl _⟩
  case round =>
    obtain ⟨k, hk, rfl, HK⟩ := hrel
    by_cases hlt : k < n
    · have hkz : k < t.length := by rw [← HN.out]; exact hlt
      obtain ⟨b, off, hAe, hB, ca0, ca1, ca2, za1, za2, za3⟩ := act_get (HA.out.tch (HK.out.2.tch fun _ => False) fun k hk => ⟨hk, fun h => h⟩) hkz
      subst hAe
      have H9 := Lib.hid (fun h1 => shortTo_succ HK.out.1 hkz h1)
      generalize t[k] = f at *
      obtain ⟨f1, f2, fv⟩ := f
      simp only at ca0 ca1 ca2 za1 za2 za3 H9
      clear ca0 ca1 za1 za2
      by_cases h1 : 200 < fv.size
      · go_wp2_with fail
        go_ret
        exact retB_false HK.out.2
      have H8 := Lib.hid (H9.out (by omega))
      go_wp2_with fail
      go_roundw
      case rel => exact ⟨k + 1, by omega, by go_num, H8.out, HK.out.2⟩
      case measure => simp [intOf]; omega
    · have HS := Lib.hid (show shortTo t t.length by have := HK.out.1; rwa [show k = t.length by have := HN.out; omega] at this)
      go_wp2_with fail
      go_ret
      exact retB_true HK.out.2 (HF.out HS.out (by have := HN.out; have := HM.out; omega))
end Go.Proofs.YtkeaoejgboefbaaGreatDoor

/- Few: a bool; where it is true, the cells are few and small. -/
namespace Go.Proofs.YtkeaoejgboefbaaGreatDoor
open Go.RowKit Go.Maps

def SmallC (c : E.Cell) : Prop := c.1.size ≤ 200 ∧ c.2.2.1.length ≤ 10 ∧ c.2.2.2.size ≤ 100 ∧ ∀ a ∈ c.2.2.1, a.size ≤ 200
def FewC (l : List E.Cell) (most : Int) : Prop := (l.length : Int) ≤ most ∧ ∀ c ∈ l, SmallC c
def fewTo (l : List E.Cell) (k : Nat) : Prop := ∀ i (h : i < l.length), i < k → SmallC l[i]
theorem fewTo_succ {t : List E.Cell} {k : Nat} (h : fewTo t k) (hk : k < t.length) (h1 : SmallC t[k]) : fewTo t (k + 1) := by
  intro i hi hik
  by_cases e : i = k
  · subst e; exact h1
  · exact h i hi (by omega)
theorem fewC_of {t : List E.Cell} {most : Int} (h1 : fewTo t t.length) (h2 : (t.length : Int) ≤ most) : FewC t most :=
  ⟨h2, fun s hs => by obtain ⟨i, hi, rfl⟩ := List.getElem_of_mem hs; exact h1 i hi hi⟩
def argTo (l : List ByteArray) (k : Nat) : Prop := ∀ i (h : i < l.length), i < k → l[i].size ≤ 200
theorem argTo_succ {t : List ByteArray} {k : Nat} (h : argTo t k) (hk : k < t.length) (h1 : t[k].size ≤ 200) : argTo t (k + 1) := by
  intro i hi hik
  by_cases e : i = k
  · subst e; exact h1
  · exact h i hi (by omega)
set_option maxRecDepth 8000 in
set_option maxHeartbeats 1000000 in
theorem refFew_any (t : List E.Cell) (A : Option Addr) (c n : Nat) (most : Int) (w : World) (hn : n = t.length) (hA : SliceAt cellR w (Old w) A c t) :
    Calls Tryz.prog 8 #[.slice A n c, .int .i64 most] w (RetB w (FewC t most)) := by
  have hn2 : n ≤ 9223372036854775807 := by have := hA.1; have := hA.2.1; omega
  have HF := Lib.hid (@fewC_of t most)
  obtain ⟨P, hP⟩ : ∃ P, P = FewC t most := ⟨_, rfl⟩
  rw [← hP] at HF ⊢
  have HN := Lib.hid hn
  have HA := Lib.hid hA
  clear hn hA hP
  go_enter Tryz.func8, Tryz.ntmps8
  by_cases hm : most < n
  · go_wp2_with fail
    go_ret
    exact retB_false (Ext.refl _)
  have HM := Lib.hid hm
  go_wp2_with fail
  clear hm
  go_loopw [5] (fun i wr => ∃ (k : Nat), k ≤ n ∧ i = .int .i64 k ∧ Hid (fewTo t k) ∧ wr = w) (fun i _ => n - (intOf i).toNat)
  case atStart => exact ⟨0, Nat.zero_le _, rfl, fun _ _ h => absurd h (Nat.not_lt_zero _), rfl⟩
  case round =>
    obtain ⟨k, hk, rfl, HK, hwr⟩ := hrel
    subst hwr
    by_cases hlt : k < n
    · have hkz : k < t.length := by rw [← HN.out]; exact hlt
      obtain ⟨b, off, A2, k2, hAe, hbb, d0, d1, d2, d3, z1, z2, z3, z4⟩ := cell_get HA.out hkz
      subst hAe
      have H9 := Lib.hid (fun h1 => fewTo_succ HK.out hkz h1)
      generalize t[k] = f at *
      obtain ⟨f1, f2, fa, ft⟩ := f
      simp only at d0 d1 d2 d3 z1 z2 z3 z4 H9
      have HZ3 := Lib.hid z3
      have hl63 : fa.length ≤ 9223372036854775807 := by have := z3.1; have := z3.2.1; omega
      clear d1 z2 hbb hkz z3
      obtain ⟨m, hm⟩ : ∃ m, m = fa.length := ⟨_, rfl⟩
      rw [← hm] at d2 hl63
      have HMM := Lib.hid hm
      clear hm
      by_cases h1 : 200 < f1.size
      · go_wp2_with fail
        go_ret
        exact retB_false (Ext.refl _)
      by_cases h2 : 10 < m
      · go_wp2_with fail
        go_ret
        exact retB_false (Ext.refl _)
      by_cases h3 : 100 < ft.size
      · go_wp2_with fail
        go_ret
        exact retB_false (Ext.refl _)
      have H8 := Lib.hid (fun (h4 : ∀ a ∈ fa, a.size ≤ 200) => H9.out ⟨show f1.size ≤ 200 by omega, show fa.length ≤ 10 by have := HMM.out; omega, show ft.size ≤ 100 by omega, h4⟩)
      go_wp2_with fail
      go_loopw [6] (fun i wr2 => ∃ (j : Nat), j ≤ m ∧ i = .int .i64 j ∧ Hid (argTo fa j) ∧ wr2 = wr) (fun i _ => m - (intOf i).toNat)
      case atStart => exact ⟨0, Nat.zero_le _, rfl, fun _ _ h => absurd h (Nat.not_lt_zero _), rfl⟩
      case round =>
        obtain ⟨j, hj, rfl, HJ, hwr⟩ := hrel
        subst hwr
        by_cases hjt : j < m
        · have hjz : j < fa.length := by rw [← HMM.out]; exact hjt
          obtain ⟨b2, off2, hA2, hb2, y0, y1⟩ := str_get HZ3.out hjz
          subst hA2
          have H7 := Lib.hid (fun h1 => argTo_succ HJ.out hjz h1)
          generalize fa[j] = g at *
          clear hb2 hjz
          by_cases h5 : 200 < g.size
          · go_wp2_with fail
            go_ret
            exact retB_false (Ext.refl _)
          have H6 := Lib.hid (H7.out (by omega))
          go_wp2_with fail
          go_roundw
          case rel => exact ⟨j + 1, by omega, by go_num, H6, by trivial⟩
          case measure => simp [intOf]; omega
        · have HL := Lib.hid (H8.out fun a ha => by
            obtain ⟨i, hi, rfl⟩ := List.getElem_of_mem ha
            exact HJ.out i hi (by have := HMM.out; omega))
          go_wp2_with fail
          go_roundw
          case rel => exact ⟨k + 1, by omega, by go_num, HL, by trivial⟩
          case measure => simp [intOf]; omega
    · have HS := Lib.hid (show fewTo t t.length by have := HK.out; rwa [show k = t.length by have := HN.out; omega] at this)
      go_wp2_with fail
      go_ret
      exact retB_true (Ext.refl _) (HF.out HS.out (by have := HN.out; have := HM.out; omega))
end Go.Proofs.YtkeaoejgboefbaaGreatDoor

/- An act in plain words; what stays true of an engine. -/
namespace Go.Proofs.YtkeaoejgboefbaaGreatDoor
open Go.RowKit Go.Maps

theorem newE_nodup : ∀ (cs before : List E.Cell), E.newE before cs = 0 → (cs.map (·.1)).Nodup ∧ ∀ n ∈ cs.map (·.1), n ∉ before.map (·.1)
  | [], _, _ => ⟨List.nodup_nil, fun _ h => absurd h List.not_mem_nil⟩
  | c :: cs, before, h => by
    rw [newE_cons] at h
    by_cases he : E.cellE before c = 0
    · rw [if_neg (by simpa using he)] at h
      obtain ⟨h1, h2⟩ := newE_nodup cs _ h
      have hb : c.1 ∉ before.map (·.1) := fun hm => by
        unfold E.cellE at he
        rw [E.has_iff.2 hm] at he
        split at he
        · cases he
        · split at he <;> cases he
      refine ⟨List.nodup_cons.2 ⟨fun hm => h2 _ hm ?_, h1⟩, fun n hn => ?_⟩
      · rw [List.map_append]
        exact List.mem_append_right _ (List.mem_singleton_self _)
      · rcases List.mem_cons.1 hn with rfl | hn
        · exact hb
        · exact fun hm => h2 n hn (by rw [List.map_append]; exact List.mem_append_left _ hm)
    · rw [if_pos he] at h
      exact absurd h he
theorem once_of {cs : List E.Cell} (h : E.newErr cs = 0) : Once cs := by
  intro i j hi hj he
  unfold E.newErr at h
  by_cases hl : 200 < cs.length
  · rw [if_pos hl] at h; cases h
  · rw [if_neg hl] at h
    obtain ⟨h1, _⟩ := newE_nodup cs [] h
    rw [nmAt_get hi, nmAt_get hj] at he
    have e : (cs.map (·.1))[i]'(by simpa using hi) = (cs.map (·.1))[j]'(by simpa using hj) := by simpa using he
    exact (List.getElem_inj h1).1 e
/-- What an act makes of an engine. -/
def actE (e : E.En) (a : ActE) : E.En :=
  if a.1 % 8 ≤ 2 then (E.setE e (actN e.cells a.2.1.toNat) a.2.2).2 else if a.1 % 8 = 3 then (E.clearE e (actN e.cells a.2.1.toNat)).2 else (E.getE e (actN e.cells a.2.1.toNat)).2.2
/-- What stays true of an engine; m: how many acts there were. -/
structure Fit (cs : List E.Cell) (m : Nat) (e : E.En) : Prop where
  cells : e.cells = cs
  right : E.newErr cs = 0
  ok : E.OkE e
  eok : EOk e
  rev : e.rev ≤ m
  cnt : e.st.cnt ≤ m * 200
theorem clear_cells (e : E.En) (n : ByteArray) : (E.clearE e n).2.cells = e.cells := by
  unfold E.clearE
  split
  · rfl
  · exact E.change_cells _ _ _
theorem get_cells (e : E.En) (n : ByteArray) : (E.getE e n).2.2.cells = e.cells ∧ (E.getE e n).2.2.vals = e.vals ∧ (E.getE e n).2.2.rev = e.rev := by
  obtain ⟨S, hS⟩ := E.get_st e n
  rw [hS]
  exact ⟨rfl, rfl, rfl⟩
theorem change_st (e : E.En) (n : ByteArray) (v : E.V) : (E.change e n v).st = e.st ∧ (E.change e n v).rev ≤ e.rev + 1 := by
  unfold E.change
  split
  · exact ⟨rfl, Nat.le_succ _⟩
  · exact ⟨rfl, Nat.le_refl _⟩
theorem set_st (e : E.En) (n s : ByteArray) : (E.setE e n s).2.st = e.st ∧ (E.setE e n s).2.rev ≤ e.rev + 1 := by
  unfold E.setE
  split
  · exact ⟨rfl, Nat.le_succ _⟩
  · split
    · exact ⟨rfl, Nat.le_succ _⟩
    · exact change_st _ _ _
theorem clear_st (e : E.En) (n : ByteArray) : (E.clearE e n).2.st = e.st ∧ (E.clearE e n).2.rev ≤ e.rev + 1 := by
  unfold E.clearE
  split
  · exact ⟨rfl, Nat.le_succ _⟩
  · exact change_st _ _ _
theorem eok_get {e : E.En} (h : EOk e) (n : ByteArray) : EOk (E.getE e n).2.2 := by
  obtain ⟨S, hS⟩ := E.get_st e n
  rw [hS]
  exact ⟨h.few, h.vals⟩
theorem names_len (e : E.En) : (E.names e).length ≤ e.cells.length := by
  unfold E.names
  rw [List.length_map]
  exact List.length_filter_le _ _
theorem Fit.few {cs : List E.Cell} {m : Nat} {e : E.En} (h : Fit cs m e) : cs.length ≤ 200 := (newErr_formed h.right).1
theorem Fit.more {cs : List E.Cell} {m m' : Nat} {e : E.En} (h : Fit cs m e) (hm : m ≤ m') : Fit cs m' e := ⟨h.cells, h.right, h.ok, h.eok, Nat.le_trans h.rev hm, Nat.le_trans h.cnt (Nat.mul_le_mul_right _ hm)⟩
theorem Fit.set {cs : List E.Cell} {m : Nat} {e : E.En} (h : Fit cs m e) (n s : ByteArray) : Fit cs (m + 1) (E.setE e n s).2 := by
  obtain ⟨h1, h2⟩ := set_st e n s
  exact ⟨(E.set_cells e n s).trans h.cells, h.right, E.ok_set h.ok n s, h.eok.set n s, by have := h.rev; omega, by rw [h1]; have := h.cnt; omega⟩
theorem Fit.clear {cs : List E.Cell} {m : Nat} {e : E.En} (h : Fit cs m e) (n : ByteArray) : Fit cs (m + 1) (E.clearE e n).2 := by
  obtain ⟨h1, h2⟩ := clear_st e n
  exact ⟨(clear_cells e n).trans h.cells, h.right, E.ok_clear h.ok n, h.eok.clear n, by have := h.rev; omega, by rw [h1]; have := h.cnt; omega⟩
theorem Fit.get {cs : List E.Cell} {m : Nat} {e : E.En} (h : Fit cs m e) (n : ByteArray) : Fit cs (m + 1) (E.getE e n).2.2 := by
  obtain ⟨h1, h2, h3⟩ := get_cells e n
  refine ⟨h1.trans h.cells, h.right, E.ok_get h.ok n, eok_get h.eok n, by rw [h3]; have := h.rev; omega, ?_⟩
  have h4 := (E.get_once h.ok n).2
  have h5 := names_len e
  have h6 := h.few
  have h7 := h.cnt
  rw [h.cells] at h5
  omega
theorem Fit.act {cs : List E.Cell} {m : Nat} {e : E.En} (h : Fit cs m e) (a : ActE) : Fit cs (m + 1) (actE e a) := by
  unfold actE
  split
  · exact h.set _ _
  · split
    · exact h.clear _
    · exact h.get _
theorem fit_fresh {cs : List E.Cell} (h : E.newErr cs = 0) : Fit cs 0 (E.fresh cs) := ⟨rfl, h, E.ok_fresh cs, ⟨(newErr_formed h).1, fun _ _ h => by cases h⟩, Nat.le_refl _, Nat.zero_le _⟩
theorem Fit.formed {cs : List E.Cell} {m : Nat} {e : E.En} (h : Fit cs m e) : ∀ c ∈ e.cells, E.formedB c = true := by rw [h.cells]; exact fun c hc => ((newErr_formed h.right).2 c hc).1
theorem Fit.vals {cs : List E.Cell} {m : Nat} {e : E.En} (h : Fit cs m e) : ∀ n s, e.vals n = some s → s.size ≤ 65536 := fun n s hn => (h.eok.vals n s hn).2
theorem Fit.once {cs : List E.Cell} {m : Nat} {e : E.En} (h : Fit cs m e) : Once e.cells := by rw [h.cells]; exact once_of h.right
/-- How often formulas are computed in an act. -/
theorem act_cnt {cs : List E.Cell} {m : Nat} {e : E.En} (h : Fit cs m e) (a : ActE) : e.st.cnt ≤ (actE e a).st.cnt ∧ (actE e a).st.cnt ≤ e.st.cnt + (E.names e).length := by
  unfold actE
  split
  · rw [(set_st e _ _).1]; exact ⟨Nat.le_refl _, Nat.le_add_right _ _⟩
  · split
    · rw [(clear_st e _).1]; exact ⟨Nat.le_refl _, Nat.le_add_right _ _⟩
    · exact E.get_once h.ok _
end Go.Proofs.YtkeaoejgboefbaaGreatDoor

/- An engine alone, from a world on: its calls. -/
namespace Go.Proofs.YtkeaoejgboefbaaGreatDoor
open Go.RowKit Go.Maps

theorem Ext.wrote {a b c : World} {X : Nat → Prop} (h : Ext a b) (t : Tch X b c) (hX : ∀ k, X k → a.heap.size ≤ k) : Ext a c :=
  ((h.tch fun _ => False).trans' t fun i hi hx => by have := hX i hx; omega).ext fun _ _ h => h
/-- An engine that has come since w0, behind m acts. -/
def Eng1 (w0 w : World) (g : Nat) (cs : List E.Cell) (m : Nat) (e : E.En) : Prop := Gl w0 ∧ Ext w0 w ∧ Fit cs m e ∧ ∃ S bc bi br, EngAt w S g bc bi br e ∧ w0.heap.size ≤ g ∧ w0.heap.size ≤ bi ∧ w0.heap.size ≤ br
section
variable {w0 w w' : World} {g m : Nat} {cs : List E.Cell} {e : E.En}
theorem Eng1.ext (h : Eng1 w0 w g cs m e) (hx : Ext w w') : Eng1 w0 w' g cs m e := by
  obtain ⟨h1, h2, h3, S, bc, bi, br, h4, h5⟩ := h
  exact ⟨h1, h2.trans hx, h3, S, bc, bi, br, h4.ext hx, h5⟩
theorem Eng1.ahead (h : Eng1 w0 w g cs m e) : Ext w0 w := h.2.1
theorem Eng1.fit (h : Eng1 w0 w g cs m e) : Fit cs m e := h.2.2.1
theorem Eng1.made {w1 : World} {S : Nat → Prop} (hg : Gl w0) (hx : Ext w0 w1) (hn : E.newErr cs = 0) (h : Fresh w1 S cs w) : Eng1 w0 w (w1.heap.size + 3) cs 0 (E.fresh cs) := by
  have := hx.size
  exact ⟨hg, hx.trans h.ext, fit_fresh hn, S, _, _, _, h.engAt, by omega, by omega, by omega⟩
theorem Eng1.set (h : Eng1 w0 w g cs m e) (hm : m ≤ 1000000) {n s : ByteArray} (hn : n.size ≤ 9223372036854775807) (hs : s.size ≤ 9223372036854775807) :
    Calls Tryz.prog 24 #[.pointer (some ⟨g, 0, none⟩), .string n, .string s] w fun ed w' => ed = .returned (.int .i64 (E.setE e n s).1) ∧ Eng1 w0 w' g cs (m + 1) (E.setE e n s).2 := by
  obtain ⟨hg, hx, hf, S, bc, bi, br, he, l1, l2, l3⟩ := h
  refine (Set_any he hf.eok (by have := hf.rev; omega) hn hs).mono ?_
  rintro ed w' ⟨h1, h2, h3⟩
  exact ⟨h1, hg, hx.wrote h3 (by rintro k (rfl | rfl) <;> assumption), hf.set n s, S, bc, bi, br, h2, l1, l2, l3⟩
theorem Eng1.clear (h : Eng1 w0 w g cs m e) (hm : m ≤ 1000000) {n : ByteArray} (hn : n.size ≤ 9223372036854775807) :
    Calls Tryz.prog 26 #[.pointer (some ⟨g, 0, none⟩), .string n] w fun ed w' => ed = .returned (.int .i64 (E.clearE e n).1) ∧ Eng1 w0 w' g cs (m + 1) (E.clearE e n).2 := by
  obtain ⟨hg, hx, hf, S, bc, bi, br, he, l1, l2, l3⟩ := h
  refine (Clear_any he (by have := hf.rev; omega) hn).mono ?_
  rintro ed w' ⟨h1, h2, h3⟩
  exact ⟨h1, hg, hx.wrote h3 (by rintro k (rfl | rfl) <;> assumption), hf.clear n, S, bc, bi, br, h2, l1, l2, l3⟩
theorem Eng1.get (h : Eng1 w0 w g cs m e) (hm : m ≤ 1000000) {n : ByteArray} (hn : n.size ≤ 9223372036854775807) :
    Calls Tryz.prog 16 #[.pointer (some ⟨g, 0, none⟩), .string n] w fun ed w' => ed = .returned (.tuple #[.string ((E.getE e n).1.getD ⟨#[]⟩), .bool (E.getE e n).1.isSome, .int .i64 (E.getE e n).2.1]) ∧ ((E.getE e n).1.getD ⟨#[]⟩).size ≤ 65536 ∧ Eng1 w0 w' g cs (m + 1) (E.getE e n).2.2 := by
  obtain ⟨hg, hx, hf, S, bc, bi, br, he, l1, l2, l3⟩ := h
  have hfew := hf.few
  refine (Get_any he (hg.ext hx) ⟨hg.off l1, hg.off l3⟩ hf.ok hf.formed hf.vals (by have := hf.cnt; omega) (by rw [hf.cells]; omega) (by have := hf.rev; omega) hn).mono ?_
  rintro ed w' ⟨h1, hz, h2, S', br', h3, h4, h5⟩
  exact ⟨h1, hz, hg, hx.wrote h2 (by rintro k (rfl | rfl) <;> assumption), hf.get n, S', bc, bi, br', h3, l1, l2, by have := hx.size; omega⟩
theorem Eng1.computed (h : Eng1 w0 w g cs m e) : Calls Tryz.prog 15 #[.pointer (some ⟨g, 0, none⟩)] w fun ed w' => ed = .returned (.int .i64 e.st.cnt) ∧ w = w' := by
  obtain ⟨hg, hx, hf, S, bc, bi, br, he, _⟩ := h
  exact Computed_any he
end

/-! ### The example -/
def exC : List E.Cell := [(⟨#[116, 101, 120, 116]⟩, 1, [], ⟨#[]⟩), (⟨#[110]⟩, 3, [⟨#[116, 101, 120, 116]⟩], ⟨#[]⟩), (⟨#[98, 105, 103]⟩, 5, [⟨#[110]⟩, ⟨#[116, 101, 120, 116]⟩, ⟨#[116, 101, 120, 116]⟩], ⟨#[]⟩), (⟨#[109]⟩, 2, [⟨#[110]⟩], ⟨#[]⟩)]
def ex1 : E.En := (E.setE (E.fresh exC) ⟨#[116, 101, 120, 116]⟩ ⟨#[97, 10, 98]⟩).2
def ex2 : E.En := (E.getE ex1 ⟨#[98, 105, 103]⟩).2.2
def ex3 : E.En := (E.getE ex2 ⟨#[109]⟩).2.2
def ex4 : E.En := (E.setE ex3 ⟨#[116, 101, 120, 116]⟩ ⟨#[99, 10, 100]⟩).2
def ex5 : E.En := (E.getE ex4 ⟨#[109]⟩).2.2
def ex6 : E.En := (E.getE ex5 ⟨#[98, 105, 103]⟩).2.2
theorem ex_new : E.newErr exC = 0 := by decide +kernel
theorem ex_set1 : (E.setE (E.fresh exC) ⟨#[116, 101, 120, 116]⟩ ⟨#[97, 10, 98]⟩).1 = 0 := by decide +kernel
theorem ex_get2 : (E.getE ex1 ⟨#[98, 105, 103]⟩).1 = some ⟨#[97, 10, 98]⟩ ∧ (E.getE ex1 ⟨#[98, 105, 103]⟩).2.1 = 0 ∧ ex2.st.cnt = 2 := by decide +kernel
theorem ex_get3 : (E.getE ex2 ⟨#[109]⟩).1 = some ⟨#[50]⟩ ∧ (E.getE ex2 ⟨#[109]⟩).2.1 = 0 ∧ ex3.st.cnt = 3 := by decide +kernel
theorem ex_set4 : (E.setE ex3 ⟨#[116, 101, 120, 116]⟩ ⟨#[99, 10, 100]⟩).1 = 0 := by decide +kernel
theorem ex_get5 : (E.getE ex4 ⟨#[109]⟩).2.1 = 0 ∧ ex5.st.cnt = 4 := by decide +kernel
theorem ex_get6 : (E.getE ex5 ⟨#[98, 105, 103]⟩).1 = some ⟨#[99, 10, 100]⟩ ∧ ex6.st.cnt = 5 := by decide +kernel
theorem strs_new {w w' : World} {l : List ByteArray} {g : Nat} (hg : g = w.heap.size) (hz : ∀ s ∈ l, s.size ≤ 9223372036854775807) (hl : l.length ≤ 100) (hk : Ext (w.alloc (.cells (l.map Value.string).toArray 9)) w') : SliceAt strR w' (Old w') (some ⟨g, 0, none⟩) l.length l := by
  subst hg
  have hlt : w.heap.size < w'.heap.size := by have := hk.size; simp at this; omega
  refine ⟨Nat.le_refl _, by omega, fun _ => ⟨_, 0, rfl, hlt, fun i hi => ⟨[.string l[i]], ⟨rfl, hz _ (List.getElem_mem hi)⟩, fun j u hj => ?_⟩⟩⟩
  refine hk.keepc ?_
  rw [cell_new, List.getElem?_toArray, Nat.zero_add]
  match j with
  | 0 => simp at hj; subst hj; simp [strR, hi]
  | j + 1 => simp at hj
theorem ex_slice (w : World) : ∀ W1 W2 W3 W4, W1 = w.alloc (.cells #[.string ⟨#[116, 101, 120, 116]⟩] 9) → W2 = W1.alloc (.cells #[.string ⟨#[110]⟩, .string ⟨#[116, 101, 120, 116]⟩, .string ⟨#[116, 101, 120, 116]⟩] 9) → W3 = W2.alloc (.cells #[.string ⟨#[110]⟩] 9) →
    W4 = W3.alloc (.cells #[.string ⟨#[116, 101, 120, 116]⟩, .int .i64 1, .slice none 0 0, .string ⟨#[]⟩, .string ⟨#[110]⟩, .int .i64 3, .slice (some ⟨w.heap.size, 0, none⟩) 1 1, .string ⟨#[]⟩, .string ⟨#[98, 105, 103]⟩, .int .i64 5, .slice (some ⟨W1.heap.size, 0, none⟩) 3 3, .string ⟨#[]⟩, .string ⟨#[109]⟩, .int .i64 2, .slice (some ⟨W2.heap.size, 0, none⟩) 1 1, .string ⟨#[]⟩] 50) →
    SliceAt cellR W4 (Old W4) (some ⟨W3.heap.size, 0, none⟩) 4 exC := by
  intro W1 W2 W3 W4 e1 e2 e3 e4
  have x1 : Ext w W1 := by rw [e1]; exact (Ext.refl _).alloc _
  have x2 : Ext W1 W2 := by rw [e2]; exact (Ext.refl _).alloc _
  have x3 : Ext W2 W3 := by rw [e3]; exact (Ext.refl _).alloc _
  have x4 : Ext W3 W4 := by rw [e4]; exact (Ext.refl _).alloc _
  have s1 : SliceAt strR W4 (Old W4) (some ⟨w.heap.size, 0, none⟩) 1 [⟨#[116, 101, 120, 116]⟩] := strs_new (w := w) rfl (fun s hs => by rw [List.mem_singleton.1 hs]; decide) (by decide) (by rw [e1] at x2; exact (x2.trans x3).trans x4)
  have s2 : SliceAt strR W4 (Old W4) (some ⟨W1.heap.size, 0, none⟩) 3 [⟨#[110]⟩, ⟨#[116, 101, 120, 116]⟩, ⟨#[116, 101, 120, 116]⟩] := strs_new (w := W1) rfl (fun s hs => by simp only [List.mem_cons, List.not_mem_nil, or_false] at hs; rcases hs with rfl | rfl | rfl <;> decide) (by decide) (by rw [e2] at x3; exact x3.trans x4)
  have s3 : SliceAt strR W4 (Old W4) (some ⟨W2.heap.size, 0, none⟩) 1 [⟨#[110]⟩] := strs_new (w := W2) rfl (fun s hs => by rw [List.mem_singleton.1 hs]; decide) (by decide) (by rw [e3] at x4; exact x4)
  have hlt : W3.heap.size < W4.heap.size := by rw [e4]; simp
  have hf : Flat cellR W4 (Old W4) exC [.string ⟨#[116, 101, 120, 116]⟩, .int .i64 1, .slice none 0 0, .string ⟨#[]⟩, .string ⟨#[110]⟩, .int .i64 3, .slice (some ⟨w.heap.size, 0, none⟩) 1 1, .string ⟨#[]⟩, .string ⟨#[98, 105, 103]⟩, .int .i64 5, .slice (some ⟨W1.heap.size, 0, none⟩) 3 3, .string ⟨#[]⟩, .string ⟨#[109]⟩, .int .i64 2, .slice (some ⟨W2.heap.size, 0, none⟩) 1 1, .string ⟨#[]⟩] := by
    refine ⟨[_, _, _, _], _, rfl, ⟨[_], _, rfl, ⟨rfl, by decide⟩, [_], _, rfl, ⟨rfl, by decide⟩, [_], _, rfl, ⟨_, _, rfl, SliceAt.nil _ _ _ _ _ (by decide)⟩, ⟨rfl, by decide⟩⟩, [_, _, _, _], _, rfl, ⟨[_], _, rfl, ⟨rfl, by decide⟩, [_], _, rfl, ⟨rfl, by decide⟩, [_], _, rfl, ⟨_, _, rfl, s1⟩, ⟨rfl, by decide⟩⟩, [_, _, _, _], _, rfl, ⟨[_], _, rfl, ⟨rfl, by decide⟩, [_], _, rfl, ⟨rfl, by decide⟩, [_], _, rfl, ⟨_, _, rfl, s2⟩, ⟨rfl, by decide⟩⟩, [_, _, _, _], _, rfl, ⟨[_], _, rfl, ⟨rfl, by decide⟩, [_], _, rfl, ⟨rfl, by decide⟩, [_], _, rfl, ⟨_, _, rfl, s3⟩, ⟨rfl, by decide⟩⟩, rfl⟩
  refine ⟨by decide, by decide, fun _ => ⟨_, 0, rfl, hlt, hf.row fun j u hj => ?_⟩⟩
  rw [Nat.zero_add, e4, cell_new, ← hj]
  exact List.getElem?_toArray
end Go.Proofs.YtkeaoejgboefbaaGreatDoor
