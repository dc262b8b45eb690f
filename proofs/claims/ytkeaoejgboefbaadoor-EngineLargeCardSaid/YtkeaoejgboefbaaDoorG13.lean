/- The texts Jr Js Jt Ju Jv Jw Jx Kd Ka Ke Fl Kb of the seat, joined. -/
import Derived.Test.YtkeaoejgboefbaaDoorG12
import Derived.ArgAppend
import Derived.BigQuiet
import Derived.OwnWalk
/- The reference's value, as the plain law says. -/
namespace Go.Proofs.YtkeaoejgboefbaaDoor
open Go.RowKit Go.Maps

theorem value_any {p : Plc} {C : Nat} {e : E.En} (hform : ∀ c ∈ e.cells, E.formedB c = true) (hvals : ∀ n s, e.vals n = some s → s.size ≤ 65536) (hC : C ≤ 4000000000000000000) (hfew : e.cells.length ≤ 1000) (hon : Once e.cells) (hrev : e.rev < 4000000000000000000) :
    ∀ (k d : Nat) (opn : List ByteArray), E.rem (E.names e) opn < k → k + d ≤ 3000 → GetIsR p C d e opn (E.val (E.findC e.cells) e.vals e.rev E.form k opn) := by
  intro k
  induction k with
  | zero => intro d opn hk; exact absurd hk (Nat.not_lt_zero _)
  | succ k ih =>
    intro d opn hk hd w S st hL n _
    have key : Calls Tryd.prog 52 #[.pointer (some ⟨p.g, p.o, none⟩), .string n] w (RetOR w S p d e opn (E.val (E.findC e.cells) e.vals e.rev E.form (k + 1) opn st n)) := by
      rw [E.val]
      cases hc : E.findC e.cells n with
      | none => exact val_none hL hfew hc
      | some c =>
        obtain ⟨hcm, hcn⟩ := E.findC_some hc
        simp only
        cases hi : E.isIn c with
        | true =>
          rw [if_pos rfl]
          refine val_input hL hfew hc hi rfl ?_
          cases hv : e.vals n with
          | none => exact Nat.zero_le _
          | some s => exact hvals n s hv
        | false =>
          rw [if_neg Bool.false_ne_true]
          cases ho : E.has opn n with
          | true => rw [if_pos rfl]; exact val_loop hL hfew hc hi ho
          | false =>
            rw [if_neg Bool.false_ne_true]
            have hno : n ∉ opn := fun h => by rw [E.has_iff.2 h] at ho; cases ho
            have hr := E.rem_cons hno (E.holds_names e n c hc hi)
            have hget1 := ih (d + 1) (n :: opn) (by omega) (by omega)
            have hget0 := ih d (n :: opn) (by omega) (by omega)
            cases hm : st.ms n with
            | none => exact val_new hL hfew hc hi ho (hform c hcm) hon (by omega) hC hrev hm hget1
            | some m =>
              simp only
              by_cases hat : m.at' = e.rev
              · rw [if_pos hat]
                exact val_kept hL hfew hc hi ho hm hat
              · rw [if_neg hat]
                have := val_old hL hfew hc hi ho (hform c hcm) hon (by omega) hC hrev hm hat hget0 hget1
                refine this.mono ?_
                intro ed w' h
                cases hq : E.staleP (E.val (E.findC e.cells) e.vals e.rev E.form k (n :: opn)) m.reads st with
                | error x => rw [hq] at h; exact h
                | ok q =>
                  obtain ⟨b, st'⟩ := q
                  rw [hq] at h
                  cases b <;> exact h
    exact key.mono fun ed w' h => h.toG (E.holds_names e) hk hL
end Go.Proofs.YtkeaoejgboefbaaDoor

/- The rows of memos are copied. -/
namespace Go.Proofs.YtkeaoejgboefbaaDoor
open Go.RowKit Go.Maps
theorem memo_info : (Tryd.prog.info? 93).map (fun i => (i.zero, i.size, i.bytes)) = some (some (.agg #[.bool false, .int .i64 0, .string ⟨#[]⟩, .bool false, .slice none 0 0, .bool false]), 6, 72) := by kernel_rfl
theorem MRow.news {w : World} {S : Nat → Prop} {b o n : Nat} {ms : Nat → Option E.Memo} {wk : Nat → Bool} (h : MRow w S b o n ms wk) : ∃ news : List Value, news.length = n * 6 ∧ (∀ j u, news[j]? = some u → w.cell? ⟨b, o + j, none⟩ = some u) ∧ (∀ u ∈ news, u.oneCell' = true) ∧ ∀ i, i < n → ∃ us, MOk w S (wk i) us (ms i) ∧ us.length = 6 ∧ ∀ j, j < 6 → news[i * 6 + j]? = us[j]? := by
  obtain ⟨cs, h1, h2⟩ := h
  have hcs : ∀ j, j < n * 6 → ∃ u, cs[o + j]? = some u ∧ u.oneCell' = true := fun j hj => by
    obtain ⟨us, h3, h4, h5⟩ := h2 (j / 6) (by omega)
    have h6 := h5 (j % 6) (by omega)
    have e1 : o + j / 6 * 6 + j % 6 = o + j := by omega
    have hl : j % 6 < us.length := by omega
    rw [e1, List.getElem?_eq_getElem hl] at h6
    refine ⟨_, h6, ?_⟩
    have hall : ∀ u ∈ us, u.oneCell' = true := by
      cases hm : ms (j / 6) with
      | none =>
        rw [hm] at h3
        rw [show us = _ from h3]
        intro u hu
        simp only [List.mem_cons, List.not_mem_nil, or_false] at hu
        rcases hu with rfl | rfl | rfl | rfl | rfl | rfl <;> rfl
      | some m =>
        rw [hm] at h3
        obtain ⟨_, _, _, A, k, h7, _⟩ := h3
        rw [h7]
        intro u hu
        simp only [List.mem_cons, List.not_mem_nil, or_false] at hu
        rcases hu with rfl | rfl | rfl | rfl | rfl | rfl <;> rfl
    exact hall _ (List.getElem_mem hl)
  have hget : ∀ j, j < n * 6 → ((List.range (n * 6)).map fun j => (cs[o + j]?).getD (.bool false))[j]? = cs[o + j]? := fun j hj => by
    obtain ⟨u, hu, _⟩ := hcs j hj
    rw [List.getElem?_map, List.getElem?_range hj, hu]
    simp [hu]
  refine ⟨(List.range (n * 6)).map fun j => (cs[o + j]?).getD (.bool false), by simp, fun j u hu => ?_, fun u hu => ?_, fun i hi => ?_⟩
  · have hj : j < n * 6 := by
      rcases Nat.lt_or_ge j (n * 6) with h | h
      · exact h
      · rw [List.getElem?_eq_none (by simpa using h)] at hu; cases hu
    rw [hget j hj] at hu
    rw [cell_of_row w b _ _ _ _ h1]
    exact hu
  · obtain ⟨j, hj, rfl⟩ := List.mem_map.1 hu
    have hj := List.mem_range.1 hj
    obtain ⟨u, hu, ho⟩ := hcs j hj
    rw [hu]
    exact ho
  · obtain ⟨us, h3, h4, h5⟩ := h2 i hi
    refine ⟨us, h3, h4, fun j hj => ?_⟩
    rw [hget _ (by omega), ← h5 j hj, Nat.add_assoc]
/-- A copied row of memos. -/
theorem MRow.copied {w w' : World} {S S' : Nat → Prop} {n c0 : Nat} {ms : Nat → Option E.Memo} {wk : Nat → Bool} {news : List Value} {v : Value} (hn : 0 < n) (hnews : ∀ i, i < n → ∃ us, MOk w S (wk i) us (ms i) ∧ us.length = 6 ∧ ∀ j, j < 6 → news[i * 6 + j]? = us[j]?) (hown : w'.ownsRow c0 93 6 v n news) (hk : ∀ us wk m, MOk w S wk us m → MOk w' S' wk us m) :
    ∃ g cap, v = .slice (some ⟨g, 0, none⟩) n cap ∧ c0 ≤ g ∧ n ≤ cap ∧ MRow w' S' g 0 n ms wk := by
  obtain ⟨hl, ⟨_, h0⟩ | ⟨g, cap, cur, hv, h1, h2, h3, h4, h5, h6⟩⟩ := hown
  · omega
  · refine ⟨g, cap, hv, h1, h3, cur, h2, fun i hi => ?_⟩
    obtain ⟨us, e1, e2, e3⟩ := hnews i hi
    refine ⟨us, hk _ _ _ e1, e2, fun j hj => ?_⟩
    rw [← e3 j hj, ← h6, List.getElem?_take_of_lt (by omega), Nat.zero_add, Array.getElem?_toList]
end Go.Proofs.YtkeaoejgboefbaaDoor

/- The reference's Get. -/
namespace Go.Proofs.YtkeaoejgboefbaaDoor
open Go.RowKit Go.Maps

/-- What the reference's Get answers. -/
def RetGetR (w : World) (S : Nat → Prop) (p : Plc) (r : E.V × Int × E.En) (ed : Ending) (w' : World) : Prop :=
  ed = .returned (.tuple #[.string (r.1.getD ⟨#[]⟩), .bool r.1.isSome, .int .i64 r.2.1]) ∧ (r.1.getD ⟨#[]⟩).size ≤ 65536 ∧ Tch (MvR p) w w' ∧ ∃ S' bm om cm ft, RefAt w' S' { p with bm := bm, om := om, cm := cm } 0 ft [] r.2.2 ∧ (bm = p.bm ∨ w.heap.size ≤ bm) ∧ ∀ k, S' k → S k ∨ w.heap.size ≤ k
set_option maxRecDepth 100000 in
set_option maxHeartbeats 8000000 in
theorem refGet_any {w : World} {S : Nat → Prop} {p : Plc} {e : E.En} {ft : Int} (h : RefAt w S p 0 ft [] e) (hd : Once e.cells) (hi : E.OkE e) (hform : ∀ c ∈ e.cells, E.formedB c = true) (hvals : ∀ n s, e.vals n = some s → s.size ≤ 65536) (hC : e.st.cnt ≤ 4000000000000000000) (hz : e.cells.length ≤ 1000) (hrev : e.rev < 4000000000000000000)
    {n : ByteArray} (hn : n.size ≤ 9223372036854775807) : Calls Tryd.prog 32 #[.pointer (some ⟨p.g, p.o, none⟩), .string n] w (RetGetR w S p (E.getE e n)) := by
  obtain ⟨R, hR⟩ : ∃ R, R = E.getE e n := ⟨_, rfl⟩
  rw [← hR]
  have HR := Lib.hid hR
  have HE := Lib.hid h
  obtain ⟨c0, c1, c2, c3, c4, c5⟩ := h.row.cells
  have HFI := Lib.hid (refFind_any c0 h.args rfl n)
  replace HFI : Hid (Calls Tryd.prog 36 #[.pointer (some ⟨p.g, p.o, none⟩), .string n] w fun ed w' => w = w' ∧ ∃ r : Int, ed = .returned (.int .i64 r) ∧ FoundAt e.cells n r) := HFI
  cases hc : E.findC e.cells n with
  | none =>
    have HX : Hid (R = (none, 7, e)) := Lib.hid (by rw [HR.out]; unfold E.getE; rw [hc])
    clear h hR HR c0 c1 c2 c3 c4 c5
    go_enter Tryd.func32, Tryd.ntmps32
    go_wp2_with fail
    refine HFI.out.mono ?_
    rintro ed w1 ⟨rfl, r, rfl, hf⟩
    obtain rfl := found_none hf hc
    clear hf hc HFI
    go_wp2_with fail
    go_ret3
    refine ⟨by rw [HX.out]; rfl, by rw [HX.out]; exact Nat.zero_le _, (Ext.refl w).tch _, S, p.bm, p.om, p.cm, ft, by rw [HX.out]; exact HE.out, .inl rfl, fun k hk => .inl hk⟩
  | some c =>
    have HX : Hid (R = match E.val (E.findC e.cells) e.vals e.rev E.form (E.fuel e) [] e.st n with
      | .error x => (none, x, e)
      | .ok (v, S) => (v, 0, { e with st := S })) := Lib.hid (by rw [HR.out]; unfold E.getE; rw [hc]; rfl)
    have HGA := Lib.hid (value_any (p := p) hform hvals hC hz hd hrev (E.fuel e) 0 [] (E.fuel_ok e) (by unfold E.fuel; omega))
    have HOK := Lib.hid hi
    have HLW : Hid (p.g < w.heap.size ∧ p.bm < w.heap.size ∧ p.bv < w.heap.size ∧ ∀ k, S k → k < w.heap.size) := Lib.hid ⟨h.row.lt, h.memos.lt, h.vals.lt, h.lt⟩
    obtain ⟨news, hnl, hnc, hno, hnu⟩ := h.memos.news
    have HNC := Lib.hid hnc
    have HNU := Lib.hid hnu
    generalize hcn : ((e.st.cnt : Int) + (0 : Nat)) = cn at *
    have HCN := Lib.hid hcn
    go_enter Tryd.func32, Tryd.ntmps32
    go_upto_region 1 with (fail)
    go_wp2_with fail
    refine HFI.out.mono ?_
    rintro ed w1 ⟨rfl, r, rfl, hf⟩
    obtain ⟨i, hil, hn1, rfl, rfl⟩ := found_some hf hc
    have HLN : Hid (0 < e.cells.length) := Lib.hid (by omega)
    clear h hR HR c0 c1 c3 c5 hf hc hn1 HFI hcn hnc hnu hd hi hform hvals hC
    obtain ⟨L, hL⟩ : ∃ L, L = e.cells.length := ⟨_, rfl⟩
    rw [← hL] at c2 hz hil hnl
    have HLE := Lib.hid hL
    clear hL
    obtain ⟨Φ, hΦ⟩ : ∃ Φ : World → Prop, ∀ w', Φ w' ↔ (w'.cell? ⟨p.g, p.o + 2, none⟩ = some (.slice (some ⟨p.bm, p.om, none⟩) L p.cm) ∧ w'.cell? ⟨p.g, p.o + 4, none⟩ = some (.int .i64 cn)) := ⟨_, fun _ => Iff.rfl⟩
    have h0 : Φ w.drew := (hΦ _).2 ⟨c2, c4⟩
    have fx0 : ∀ x : Lat Φ, x.w'.cell? ⟨p.g, p.o + 2, none⟩ = some (.slice (some ⟨p.bm, p.om, none⟩) L p.cm) := fun x => ((hΦ _).1 x.h).1
    have fx1 : ∀ x : Lat Φ, x.w'.cell? ⟨p.g, p.o + 4, none⟩ = some (.int .i64 cn) := fun x => ((hΦ _).1 x.h).2
    have hne1 := Lat.some h0
    have HΦ := Lib.hid hΦ
    clear hΦ
    go_upto_region 3 with (fail)
    refine wp_region_lat [0, 5] Φ h0 (by kernel_rfl) (by kernel_rfl) (by kernel_rfl) ?_
    refine lex_eff rfl ?_
    go_wp2_with fail
    obtain ⟨W1, hW1⟩ : ∃ W1, W1 = (w.alloc (.cells #[] 93)).drew := ⟨_, rfl⟩
    have X1 : Ext w W1 := by rw [hW1]; exact ((Ext.refl w).alloc _).drew
    have HX1 := Lib.hid X1
    have HP1 := Lib.hid ((HΦ.out W1).2 ⟨X1.keepc c2, X1.keepc c4⟩)
    rw [← hW1]
    refine ⟨⟨⟨W1, HP1.out⟩, rfl⟩, ?_⟩
    iterate 4 (refine lex_pure rfl rfl rfl ?_; intro K hK; go_big_quiet_op; go_big_quiet_on)
    refine lex_eff rfl ?_
    obtain ⟨i0, hi, hz0, hz1, hz2⟩ := info_parts memo_info
    refine wpList_append_grows _ rfl (.tmp 14) (.tmp 18) 37 rfl 93 i0 _ 6 72 Tryd.underlying37 hi hz0 hz1 hz2 rfl (by decide) (some ⟨w.heap.size, 0, none⟩) 0 0 [] rfl (fun h => by cases h) rfl (fun _ _ j u hj => by simp at hj) ⟨p.bm, p.om, none⟩ L p.cm news rfl hnl (fun j u hj => by rw [Addr.add_lit]; exact HX1.out.keepc (HNC.out j u hj)) hno (by omega) (by unfold maxLen; omega) (by omega) ?_
    intro v' w2 hown hgr
    rw [Nat.zero_add, List.nil_append] at hown
    have X2 : Ext W1 w2 := ⟨hgr.os, hgr.tape, hgr.output, hgr.size, fun k hk => hgr.block k hk (by simp)⟩
    have HX2 := Lib.hid (HX1.out.trans X2)
    have hnu := HNU.out
    have hlp := HLN.out
    rw [← HLE.out] at hnu hlp
    obtain ⟨gm, cap, rfl, hgm, hcap, hmr⟩ := MRow.copied (w' := w2) (S' := S) hlp hnu hown fun us wk m hm => hm.tch (HX2.out.tch fun _ => False) (fun k hk => ⟨HLW.out.2.2.2 k hk, fun h => h⟩) fun _ hk => hk
    have HMR := Lib.hid hmr
    have HCP := Lib.hid hcap
    have HGM : Hid (w.heap.size ≤ gm) := Lib.hid (Nat.le_trans HX1.out.size hgm)
    have HP2 := Lib.hid ((HΦ.out w2).2 ⟨HX2.out.keepc c2, HX2.out.keepc c4⟩)
    clear X1 X2 hW1 hown hgr hnu hlp hgm hcap hmr hi hz0 hz1 hz2
    go_wp2_with fail
    refine ⟨⟨⟨w2, HP2.out⟩, rfl⟩, ?_⟩
    iterate 6 (refine lex_pure rfl rfl rfl ?_; intro K hK; go_big_quiet_op; go_big_quiet_on)
    refine lex_nil ?_
    have HE2 := Lib.hid (HE.out.ext HX2.out)
    have c5 := HE2.out.row.cells.2.2.2.2.2
    have fg5 := HE2.out.row.frozen (p.o + 5)
    clear fx0 fx1 hne1 h0 c2 c4
    go_upto_region 5 with (fail)
    obtain ⟨W3, hW3⟩ : ∃ W3, W3 = w2.setCell ⟨p.g, p.o + 5, none⟩ (.int .i64 0) := ⟨_, rfl⟩
    rw [← hW3]
    have T3 : Tch (fun k => k = p.g) w2 W3 := by rw [hW3]; exact (Tch.refl (fun k => k = p.g) w2).setCell (p := ⟨p.g, p.o + 5, none⟩) (fun _ => rfl) _
    have HT3 := Lib.hid T3
    have HL3 : Hid (RLive W3 S p e.st.cnt 0 { e with st := e.st } []) := Lib.hid (by
      obtain ⟨n1, n2, n3⟩ := HE2.out.ne
      obtain ⟨o1, o2, o3⟩ := HE2.out.out
      have hS : ∀ k, S k → k < w2.heap.size ∧ ¬ k = p.g := fun k hk => ⟨HE2.out.lt k hk, fun e => o1 (e ▸ hk)⟩
      obtain ⟨U, hU⟩ := HOK.out
      refine ⟨⟨?_, HE2.out.args.tch T3 hS, HE2.out.vals.tch T3 fun e => n1 e.symm, HE2.out.memos.tch T3 (fun e => n2 e.symm) hS fun _ hk => hk, HE2.out.caps, HE2.out.ne, HE2.out.out, fun k hk => Nat.lt_of_lt_of_le (HE2.out.lt k hk) T3.size⟩, U, hU, Nat.le_add_right _ _⟩
      rw [hW3]
      exact HE2.out.row.setFault 0)
    have HMR3 := Lib.hid (HMR.out.tch HT3.out (fun h => by have h1 := HGM.out; have h2 := HLW.out.1; omega) (fun k hk => ⟨HE2.out.lt k hk, fun h => HE2.out.out.1 (h ▸ hk)⟩) fun _ hk => hk)
    have HT3w : Hid (Tch (MvR p) w W3) := Lib.hid ((HX2.out.tch _).trans (T3.mono fun k _ hk => .inl hk))
    clear hW3 T3 c5 fg5
    go_wp2_with fail
    refine (HGA.out W3 S e.st HL3.out n hn).mono ?_
    rintro ed w4 ⟨t4, hr⟩
    have HT4 := Lib.hid (HT3w.out.trans t4)
    have HTT := Lib.hid t4
    clear t4
    cases hv : E.val (E.findC e.cells) e.vals e.rev E.form (E.fuel e) [] e.st n with
    | error x =>
      rw [hv] at hr HX
      obtain ⟨rfl, hx0, hd0⟩ := hr
      rw [foundV_none]
      clear hv
      go_upto_region 6 with (fail)
      obtain ⟨W5, hW5⟩ : ∃ W5, W5 = w4.alloc (.cells #[.string ⟨#[]⟩, .bool false] 90) := ⟨_, rfl⟩
      rw [← hW5]
      have X5 : Ext w4 W5 := by rw [hW5]; exact (Ext.refl w4).alloc _
      have HT35 := Lib.hid (HTT.out.trans (X5.tch _))
      obtain ⟨cnt, hrow⟩ := (hd0.ext X5).row
      have HRW := Lib.hid hrow
      obtain ⟨_, _, g2, _, g4, g5⟩ := hrow.cells
      have fg2 := hrow.frozen (p.o + 2)
      have fg4 := hrow.frozen (p.o + 4)
      have hx1 : (x == 0) = false := by rw [beq_eq_false_iff_ne]; exact hx0
      have hx2 : (x != 0) = true := by rw [bne, hx1]; rfl
      clear hW5 X5 hd0 hrow hx0
      go_upto_region 8 with (fail)
      obtain ⟨W6, hW6⟩ : ∃ W6, W6 = (W5.setCell ⟨p.g, p.o + 2, none⟩ (.slice (some ⟨gm, 0, none⟩) L cap)).setCell ⟨p.g, p.o + 4, none⟩ (.int .i64 cn) := ⟨_, rfl⟩
      rw [← hW6]
      have T6 : Tch (MvR p) W5 W6 := by rw [hW6]; exact ((Tch.refl (MvR p) W5).setCell (p := ⟨p.g, p.o + 2, none⟩) (fun _ => .inl rfl) _).setCell (p := ⟨p.g, p.o + 4, none⟩) (fun _ => .inl rfl) _
      have hrow6 : RRow W6 p.g p.o p.pr p.A e.cells.length p.kc p.bv p.ov p.cv gm 0 cap e.rev cn x := by rw [hW6, HLE.out]; exact (HRW.out.setMemos gm 0 cap).setCnt cn
      have g5 : W6.cell? ⟨p.g, p.o + 5, none⟩ = some (.int .i64 x) := hrow6.cells.2.2.2.2.2
      have HT36 := Lib.hid (HT35.out.trans T6)
      have HR6 := Lib.hid hrow6
      clear hW6 T6 hrow6 g2 g4 fg2 fg4
      go_quiet (fail)
      go_wp2_with fail
      go_ret3
      have hY : Ext W6 (W6.drewN nq) := (Ext.refl W6).drewN nq
      have hTY : Tch (MvR p) W3 (W6.drewN nq) := HT36.out.trans (hY.tch _)
      obtain ⟨l1, l2, l3, l4⟩ := HLW.out
      have hgm := HGM.out
      obtain ⟨n1, n2, n3⟩ := HE2.out.ne
      obtain ⟨o1, o2, o3⟩ := HE2.out.out
      have hsz : w.heap.size ≤ W3.heap.size := HT3w.out.size
      have hS : ∀ k, S k → k < W3.heap.size ∧ ¬ MvR p k := fun k hk => ⟨by have := l4 k hk; omega, by
        rintro (h | h)
        · exact o1 (h ▸ hk)
        · exact o3 (h ▸ hk)⟩
      refine ⟨by rw [HX.out]; rfl, by rw [HX.out]; exact Nat.zero_le _, HT3w.out.trans hTY, S, gm, 0, cap, x, ?_, .inr hgm, fun k hk => .inl hk⟩
      rw [HX.out]
      refine ⟨?_, HL3.out.at'.args.tch hTY hS, HL3.out.at'.vals.tch hTY (fun h => ?_), ?_, ⟨HE2.out.caps.1, by rw [← HLE.out]; exact HCP.out⟩, ⟨n1, (by show p.g ≠ gm; omega), (by show p.bv ≠ gm; omega)⟩, ⟨o1, o2, fun hk => by have h1 : gm < w.heap.size := l4 gm hk; omega⟩, fun k hk => Nat.lt_of_lt_of_le (hS k hk).1 hTY.size⟩
      · show RRow _ p.g p.o p.pr p.A e.cells.length p.kc p.bv p.ov p.cv gm 0 cap e.rev ((e.st.cnt : Int) + (0 : Nat)) x
        rw [HCN.out]
        exact HR6.out.tch (hY.tch fun _ => False) fun h => h
      · rcases h with h | h
        · exact n1 h.symm
        · exact n3 h
      · show MRow _ S gm 0 e.cells.length _ _
        rw [← HLE.out]
        exact HMR3.out.tch hTY (by rintro (h | h) <;> omega) hS fun _ hk => hk
    | ok rr =>
      obtain ⟨v, st'⟩ := rr
      rw [hv] at hr HX
      obtain ⟨rfl, hzv, S', hl, hs1, hs2⟩ := hr
      have hfv : foundV v = .agg #[.string (v.getD ⟨#[]⟩), .bool v.isSome] := rfl
      rw [hfv]
      have HZV := Lib.hid hzv
      have HS2 := Lib.hid hs2
      have HL := Lib.hid hl
      obtain ⟨va, hva⟩ : ∃ va, va = v.getD ⟨#[]⟩ := ⟨_, rfl⟩
      obtain ⟨vb, hvb⟩ : ∃ vb, vb = v.isSome := ⟨_, rfl⟩
      rw [← hva, ← hvb]
      have HVA := Lib.hid hva
      have HVB := Lib.hid hvb
      clear hv hfv hva hvb hzv hs1 hs2 hl
      go_upto_region 6 with (fail)
      obtain ⟨W5, hW5⟩ : ∃ W5, W5 = w4.alloc (.cells #[.string va, .bool vb] 90) := ⟨_, rfl⟩
      rw [← hW5]
      have X5 : Ext w4 W5 := by rw [hW5]; exact (Ext.refl w4).alloc _
      have K5 : W5.heap[w4.heap.size]? = some (.cells #[.string va, .bool vb] 90) := by rw [hW5]; exact heap_alloc_new w4 _
      have r0 : W5.cell? ⟨w4.heap.size, 0, none⟩ = some (.string va) := by rw [new_off K5]; rfl
      have r1 : W5.cell? ⟨w4.heap.size, 1, none⟩ = some (.bool vb) := by rw [new_off K5]; rfl
      have HX5 := Lib.hid X5
      have g5 : W5.cell? ⟨p.g, p.o + 5, none⟩ = some (.int .i64 0) := (HL.out.ext X5).at'.row.cells.2.2.2.2.2
      clear hW5 X5 K5
      go_upto_region 9 with (fail)
      go_quiet (fail)
      go_wp2_with fail
      go_ret3
      have hY : Ext w4 (W5.drewN nq) := HX5.out.drewN nq
      refine ⟨by rw [HX.out, HVA.out, HVB.out]; rfl, by rw [HX.out]; exact HZV.out, HT4.out.trans (hY.tch _), S', p.bm, p.om, p.cm, 0, by rw [HX.out]; exact HL.out.at'.ext hY, .inl rfl, fun k hk => ?_⟩
      rcases HS2.out k hk with h | h
      · exact .inl h
      · exact .inr (Nat.le_trans HT3w.out.size h)
end Go.Proofs.YtkeaoejgboefbaaDoor

/- The reference's New. -/
namespace Go.Proofs.YtkeaoejgboefbaaDoor
open Go.RowKit Go.Maps

theorem found_infoR : (Tryd.prog.info? 90).map (fun i => (i.zero, i.size, i.bytes)) = some (some (.agg #[.string ⟨#[]⟩, .bool false]), 2, 24) := by kernel_rfl
theorem made_get (z : Array Value) {n j : Nat} (hj : j < n) (hz : 0 < z.size) : (madeCells z n).toList[j]? = z[j % z.size]? := by
  have hm := Nat.mod_lt j hz
  unfold madeCells
  rw [Array.getElem?_toList, Array.getElem?_map, Array.getElem?_range, if_pos hj]
  simp [getElem!_pos z (j % z.size) hm, Array.getElem?_eq_getElem hm]
theorem VRow.made {w : World} {g n : Nat} (h1 : w.heap[g]? = some (.cells (madeCells (Value.agg #[.string ⟨#[]⟩, .bool false]).cells (n * 2)) 90 (0, 0))) : VRow w g 0 n fun _ => none := by
  refine ⟨_, h1, fun i hi => ⟨?_, ?_⟩⟩
  · rw [← Array.getElem?_toList, made_get _ (by omega) (by decide)]
    show #[Value.string ⟨#[]⟩, .bool false][(0 + i * 2) % 2]? = _
    rw [show (0 + i * 2) % 2 = 0 from by omega]; rfl
  · rw [← Array.getElem?_toList, made_get _ (by omega) (by decide)]
    show #[Value.string ⟨#[]⟩, .bool false][(0 + i * 2 + 1) % 2]? = _
    rw [show (0 + i * 2 + 1) % 2 = 1 from by omega]; rfl
theorem MRow.made {w : World} {S : Nat → Prop} {g n : Nat} (h1 : w.heap[g]? = some (.cells (madeCells (Value.agg #[.bool false, .int .i64 0, .string ⟨#[]⟩, .bool false, .slice none 0 0, .bool false]).cells (n * 6)) 93 (0, 0))) : MRow w S g 0 n (fun _ => none) fun _ => false := by
  refine ⟨_, h1, fun i hi => ⟨_, rfl, rfl, fun j hj => ?_⟩⟩
  rw [← Array.getElem?_toList, made_get _ (by omega) (by decide)]
  show #[Value.bool false, .int .i64 0, .string ⟨#[]⟩, .bool false, .slice none 0 0, .bool false][(0 + i * 6 + j) % 6]? = _
  rw [show (0 + i * 6 + j) % 6 = j from by omega]
  simp
theorem info40 : (Tryd.prog.info? 40).map (·.size) = some 6 := by kernel_rfl
theorem results_row_tmp {P : Program} {fn : Func} {p u : Tmp} {ty : TypeId} (h : fn.results = #[.cell p ty, .tmp u]) (tmps : Array Value) (w : World) (g : Nat) (t : TypeId) (cs : Array Value) (fr : Nat × Nat) (d : TypeDesc)
    (hp : tmps.getD p undef = .pointer (some ⟨g, 0, none⟩)) (hg : w.heap[g]? = some (.cells cs t fr))
    (hu : P.underlying ty = some d) (hd : (match d with | .struct _ | .array _ _ => true | _ => false) = true) (hi : (P.info? ty).map (·.size) = some cs.size) :
    (results fn tmps).run P w = .ok (.tuple #[.agg cs, tmps.getD u undef]) w := by
  have hp' : tmps[p]?.getD undef = .pointer (some ⟨g, 0, none⟩) := by simpa using hp
  simp [results, h, hp', asAddr, run_loadVar_row w g t ty cs fr d hg hu hd hi]
theorem ret_new {fn : Func} (h : fn.results = #[.cell 2 40, .tmp 3]) {R : Ending → World → Prop} {a : Act} {w : World} {g : Nat} {x0 x1 x2 x3 x4 x5 y : Value} (hp : a.tmps.getD 2 undef = .pointer (some ⟨g, 0, none⟩)) (hy : a.tmps.getD 3 undef = y) (hg : w.heap[g]? = some (.cells #[x0, x1, x2, x3, x4, x5] 40 (0, 0))) (hd : a.defers = []) (hR : R (.returned (.tuple #[.agg #[x0, x1, x2, x3, x4, x5], y])) w) : bodyPost Tryd.prog fn R .ret a w :=
  bodyPost_ret (results_row_tmp h a.tmps w g 40 #[x0, x1, x2, x3, x4, x5] (0, 0) _ hp hg Tryd.underlying40 rfl info40) hd (by rw [hy]; exact hR)
/-- What the reference's New answers. -/
def RetNewR (w : World) (cs : List E.Cell) (A : Option Addr) (n kc : Nat) (ed : Ending) (w' : World) : Prop := Ext w w' ∧
  ((E.newErr cs ≠ 0 ∧ ed = .returned (.tuple #[.agg #[.slice none 0 0, .slice none 0 0, .slice none 0 0, .int .i64 0, .int .i64 0, .int .i64 0], .int .i64 (E.newErr cs)])) ∨
   (E.newErr cs = 0 ∧ ∃ bv bm, ed = .returned (.tuple #[.agg #[.slice A n kc, .slice (some ⟨bv, 0, none⟩) n n, .slice (some ⟨bm, 0, none⟩) n n, .int .i64 0, .int .i64 0, .int .i64 0], .int .i64 0]) ∧ w.heap.size ≤ bv ∧ w.heap.size ≤ bm ∧ bv ≠ bm ∧ VRow w' bv 0 n (fun _ => none) ∧ MRow w' (Old w) bm 0 n (fun _ => none) fun _ => false))
theorem new_fin {w W2 WF : World} {cs : List E.Cell} {A : Option Addr} {n kc bv bm : Nat} (h0 : 0 = E.newErr cs) (hx : Ext w WF) (ht : Tch (fun k => k = w.heap.size) W2 WF) (h1 : W2.heap[bv]? = some (.cells (madeCells (Value.agg #[.string ⟨#[]⟩, .bool false]).cells (n * 2)) 90 (0, 0))) (h2 : W2.heap[bm]? = some (.cells (madeCells (Value.agg #[.bool false, .int .i64 0, .string ⟨#[]⟩, .bool false, .slice none 0 0, .bool false]).cells (n * 6)) 93 (0, 0))) (l1 : w.heap.size < bv) (l2 : w.heap.size < bm) (hne : bv ≠ bm) :
    RetNewR w cs A n kc (.returned (.tuple #[.agg #[.slice A n kc, .slice (some ⟨bv, 0, none⟩) n n, .slice (some ⟨bm, 0, none⟩) n n, .int .i64 0, .int .i64 0, .int .i64 0], .int .i64 0])) WF :=
  ⟨hx, .inr ⟨h0.symm, bv, bm, rfl, Nat.le_of_lt l1, Nat.le_of_lt l2, hne, VRow.made ((ht.block bv (Array.getElem?_eq_some_iff.1 h1).1 (by omega)).trans h1), MRow.made ((ht.block bm (Array.getElem?_eq_some_iff.1 h2).1 (by omega)).trans h2)⟩⟩
set_option maxRecDepth 100000 in
set_option maxHeartbeats 1000000 in
theorem refNew_any {w : World} {A : Option Addr} {kc n : Nat} {cs : List E.Cell} (hA : SliceAt cellR w (Old w) A kc cs) (hn : n = cs.length) (harg : ∀ c ∈ cs, c.2.2.1.length ≤ 1000) : Calls Tryd.prog 24 #[.slice A n kc] w (RetNewR w cs A n kc) := by
  obtain ⟨W1, hW1⟩ : ∃ W1, W1 = w.alloc (.cells #[.slice none 0 0, .slice none 0 0, .slice none 0 0, .int .i64 0, .int .i64 0, .int .i64 0] 40) := ⟨_, rfl⟩
  have X1 : Ext w W1 := by rw [hW1]; exact (Ext.refl w).alloc _
  have K1 : Hid (W1.heap[w.heap.size]? = some (.cells #[.slice none 0 0, .slice none 0 0, .slice none 0 0, .int .i64 0, .int .i64 0, .int .i64 0] 40)) := Lib.hid (by rw [hW1]; exact heap_alloc_new w _)
  have hbk : ∀ k, Old w k → Old W1 k := fun k hk => Nat.lt_of_lt_of_le hk X1.size
  have HCH := Lib.hid (refCheck_any ((hA.tch (X1.tch fun _ => False) fun k hk => ⟨hk, fun h => h⟩).keep hbk fun _ _ => rfl) hn harg)
  have HX1 := Lib.hid X1
  clear X1 hbk
  obtain ⟨x, hx⟩ : ∃ x, x = E.newErr cs := ⟨_, rfl⟩
  unfold RetChk at HCH
  rw [← hx] at HCH
  have HXE := Lib.hid hx
  have HZN : Hid (n ≤ 200 ∨ E.newErr cs = 10) := Lib.hid (by by_cases h : n ≤ 200; exact .inl h; right; unfold E.newErr; rw [if_pos (by omega)])
  clear hx hA hn harg
  go_enter Tryd.func24, Tryd.ntmps24
  go_upto_region 1 with (fail)
  rw [← hW1]
  clear hW1
  go_wp2_with fail
  refine HCH.out.mono ?_
  rintro ed w1 ⟨rfl, x1⟩
  have HX2 := Lib.hid (HX1.out.trans x1)
  have K2 : Hid (w1.heap[w.heap.size]? = some (.cells #[.slice none 0 0, .slice none 0 0, .slice none 0 0, .int .i64 0, .int .i64 0, .int .i64 0] 40)) := Lib.hid ((x1.block _ (Array.getElem?_eq_some_iff.1 K1.out).1).trans K1.out)
  clear x1
  by_cases h0 : x = 0
  · have hz : n ≤ 200 := by
      rcases HZN.out with h | h
      · exact h
      · have h1 := HXE.out; rw [h0, h] at h1; cases h1
    subst h0
    obtain ⟨i0, hi, hz0, hz1, hz2⟩ := info_parts found_infoR
    obtain ⟨j0, gi, gz0, gz1, gz2⟩ := info_parts memo_info
    obtain ⟨VC, hVC⟩ : ∃ VC, VC = madeCells (Value.agg #[.string ⟨#[]⟩, .bool false]).cells (n * 2) := ⟨_, rfl⟩
    obtain ⟨MC, hMC⟩ : ∃ MC, MC = madeCells (Value.agg #[.bool false, .int .i64 0, .string ⟨#[]⟩, .bool false, .slice none 0 0, .bool false]).cells (n * 6) := ⟨_, rfl⟩
    have hmk1 : ∀ W : World, (Instr.makeSlice 36 (.int .i64 (n : Int)) (.int .i64 (n : Int))).run Tryd.prog W = .ok (.slice (some ⟨W.heap.size, 0, none⟩) n n) (W.alloc (.cells VC 90)) := fun W => by
      have h := run_make (P := Tryd.prog) W 36 90 i0 _ Tryd.underlying36 hi hz0 .i64 .i64 (n : Int) (n : Int) (by omega) (by omega) (by rw [hz2]; omega) (by omega)
      rw [hz1, Int.toNat_natCast] at h
      rw [hVC]; exact h
    have hmk2 : ∀ W : World, (Instr.makeSlice 37 (.int .i64 (n : Int)) (.int .i64 (n : Int))).run Tryd.prog W = .ok (.slice (some ⟨W.heap.size, 0, none⟩) n n) (W.alloc (.cells MC 93)) := fun W => by
      have h := run_make (P := Tryd.prog) W 37 93 j0 _ Tryd.underlying37 gi gz0 .i64 .i64 (n : Int) (n : Int) (by omega) (by omega) (by rw [gz2]; omega) (by omega)
      rw [gz1, Int.toNat_natCast] at h
      rw [hMC]; exact h
    have HVC := Lib.hid hVC
    have HMC := Lib.hid hMC
    clear hVC hMC hi hz0 hz1 hz2 gi gz0 gz1 gz2
    have HZ := Lib.hid hz
    go_upto_region 4 with (fail)
    have KA : Hid (((w1.alloc (.cells VC 90)).alloc (.cells MC 93)).heap[w.heap.size]? = some (.cells #[.slice none 0 0, .slice none 0 0, .slice none 0 0, .int .i64 0, .int .i64 0, .int .i64 0] 40)) := Lib.hid (heap_old (heap_old K2.out _) _)
    have KB : Hid (((w1.alloc (.cells MC 93)).alloc (.cells VC 90)).heap[w.heap.size]? = some (.cells #[.slice none 0 0, .slice none 0 0, .slice none 0 0, .int .i64 0, .int .i64 0, .int .i64 0] 40)) := Lib.hid (heap_old (heap_old K2.out _) _)
    have ar0 : ((w1.alloc (.cells VC 90)).alloc (.cells MC 93)).cell? ⟨w.heap.size, 0, none⟩ = some (.slice none 0 0) := by rw [new_off KA.out]; rfl
    have af0 : ((w1.alloc (.cells VC 90)).alloc (.cells MC 93)).frozen? ⟨w.heap.size, 0, none⟩ = false := Lib.frozen_of_heap KA.out 0
    have ar1 : ((w1.alloc (.cells VC 90)).alloc (.cells MC 93)).cell? ⟨w.heap.size, 1, none⟩ = some (.slice none 0 0) := by rw [new_off KA.out]; rfl
    have af1 : ((w1.alloc (.cells VC 90)).alloc (.cells MC 93)).frozen? ⟨w.heap.size, 1, none⟩ = false := Lib.frozen_of_heap KA.out 1
    have ar2 : ((w1.alloc (.cells VC 90)).alloc (.cells MC 93)).cell? ⟨w.heap.size, 2, none⟩ = some (.slice none 0 0) := by rw [new_off KA.out]; rfl
    have af2 : ((w1.alloc (.cells VC 90)).alloc (.cells MC 93)).frozen? ⟨w.heap.size, 2, none⟩ = false := Lib.frozen_of_heap KA.out 2
    have ar3 : ((w1.alloc (.cells VC 90)).alloc (.cells MC 93)).cell? ⟨w.heap.size, 3, none⟩ = some (.int .i64 0) := by rw [new_off KA.out]; rfl
    have af3 : ((w1.alloc (.cells VC 90)).alloc (.cells MC 93)).frozen? ⟨w.heap.size, 3, none⟩ = false := Lib.frozen_of_heap KA.out 3
    have ar4 : ((w1.alloc (.cells VC 90)).alloc (.cells MC 93)).cell? ⟨w.heap.size, 4, none⟩ = some (.int .i64 0) := by rw [new_off KA.out]; rfl
    have af4 : ((w1.alloc (.cells VC 90)).alloc (.cells MC 93)).frozen? ⟨w.heap.size, 4, none⟩ = false := Lib.frozen_of_heap KA.out 4
    have ar5 : ((w1.alloc (.cells VC 90)).alloc (.cells MC 93)).cell? ⟨w.heap.size, 5, none⟩ = some (.int .i64 0) := by rw [new_off KA.out]; rfl
    have af5 : ((w1.alloc (.cells VC 90)).alloc (.cells MC 93)).frozen? ⟨w.heap.size, 5, none⟩ = false := Lib.frozen_of_heap KA.out 5
    have br0 : ((w1.alloc (.cells MC 93)).alloc (.cells VC 90)).cell? ⟨w.heap.size, 0, none⟩ = some (.slice none 0 0) := by rw [new_off KB.out]; rfl
    have bf0 : ((w1.alloc (.cells MC 93)).alloc (.cells VC 90)).frozen? ⟨w.heap.size, 0, none⟩ = false := Lib.frozen_of_heap KB.out 0
    have br1 : ((w1.alloc (.cells MC 93)).alloc (.cells VC 90)).cell? ⟨w.heap.size, 1, none⟩ = some (.slice none 0 0) := by rw [new_off KB.out]; rfl
    have bf1 : ((w1.alloc (.cells MC 93)).alloc (.cells VC 90)).frozen? ⟨w.heap.size, 1, none⟩ = false := Lib.frozen_of_heap KB.out 1
    have br2 : ((w1.alloc (.cells MC 93)).alloc (.cells VC 90)).cell? ⟨w.heap.size, 2, none⟩ = some (.slice none 0 0) := by rw [new_off KB.out]; rfl
    have bf2 : ((w1.alloc (.cells MC 93)).alloc (.cells VC 90)).frozen? ⟨w.heap.size, 2, none⟩ = false := Lib.frozen_of_heap KB.out 2
    have br3 : ((w1.alloc (.cells MC 93)).alloc (.cells VC 90)).cell? ⟨w.heap.size, 3, none⟩ = some (.int .i64 0) := by rw [new_off KB.out]; rfl
    have bf3 : ((w1.alloc (.cells MC 93)).alloc (.cells VC 90)).frozen? ⟨w.heap.size, 3, none⟩ = false := Lib.frozen_of_heap KB.out 3
    have br4 : ((w1.alloc (.cells MC 93)).alloc (.cells VC 90)).cell? ⟨w.heap.size, 4, none⟩ = some (.int .i64 0) := by rw [new_off KB.out]; rfl
    have bf4 : ((w1.alloc (.cells MC 93)).alloc (.cells VC 90)).frozen? ⟨w.heap.size, 4, none⟩ = false := Lib.frozen_of_heap KB.out 4
    have br5 : ((w1.alloc (.cells MC 93)).alloc (.cells VC 90)).cell? ⟨w.heap.size, 5, none⟩ = some (.int .i64 0) := by rw [new_off KB.out]; rfl
    have bf5 : ((w1.alloc (.cells MC 93)).alloc (.cells VC 90)).frozen? ⟨w.heap.size, 5, none⟩ = false := Lib.frozen_of_heap KB.out 5
    go_region
    · obtain ⟨WN, hWN⟩ : ∃ WN, WN = ((((((((w1.alloc (.cells VC 90)).alloc (.cells MC 93)).setCell ⟨w.heap.size, 0, none⟩ (.slice A n kc)).setCell ⟨w.heap.size, 1, none⟩ (.slice (some ⟨w1.heap.size, 0, none⟩) n n)).setCell ⟨w.heap.size, 2, none⟩ (.slice (some ⟨w1.heap.size + 1, 0, none⟩) n n)).setCell ⟨w.heap.size, 3, none⟩ (.int .i64 0)).setCell ⟨w.heap.size, 4, none⟩ (.int .i64 0)).setCell ⟨w.heap.size, 5, none⟩ (.int .i64 0)) := ⟨_, rfl⟩
      rw [← hWN]
      have hT : Tch (fun k => k = w.heap.size) ((w1.alloc (.cells VC 90)).alloc (.cells MC 93)) WN := by rw [hWN]; exact (((((((Tch.refl (fun k => k = w.heap.size) ((w1.alloc (.cells VC 90)).alloc (.cells MC 93))).setCell (p := ⟨w.heap.size, 0, none⟩) (fun _ => rfl) (.slice A n kc)).setCell (p := ⟨w.heap.size, 1, none⟩) (fun _ => rfl) (.slice (some ⟨w1.heap.size, 0, none⟩) n n)).setCell (p := ⟨w.heap.size, 2, none⟩) (fun _ => rfl) (.slice (some ⟨w1.heap.size + 1, 0, none⟩) n n)).setCell (p := ⟨w.heap.size, 3, none⟩) (fun _ => rfl) (.int .i64 0)).setCell (p := ⟨w.heap.size, 4, none⟩) (fun _ => rfl) (.int .i64 0)).setCell (p := ⟨w.heap.size, 5, none⟩) (fun _ => rfl) (.int .i64 0))
      have hE : Ext w WN := by rw [hWN]; exact ((((((((HX2.out.alloc _).alloc _).setCell (p := ⟨w.heap.size, 0, none⟩) (Nat.le_refl _) (.slice A n kc)).setCell (p := ⟨w.heap.size, 1, none⟩) (Nat.le_refl _) (.slice (some ⟨w1.heap.size, 0, none⟩) n n)).setCell (p := ⟨w.heap.size, 2, none⟩) (Nat.le_refl _) (.slice (some ⟨w1.heap.size + 1, 0, none⟩) n n)).setCell (p := ⟨w.heap.size, 3, none⟩) (Nat.le_refl _) (.int .i64 0)).setCell (p := ⟨w.heap.size, 4, none⟩) (Nat.le_refl _) (.int .i64 0)).setCell (p := ⟨w.heap.size, 5, none⟩) (Nat.le_refl _) (.int .i64 0))
      have hh : WN.heap[w.heap.size]? = some (.cells #[.slice A n kc, .slice (some ⟨w1.heap.size, 0, none⟩) n n, .slice (some ⟨w1.heap.size + 1, 0, none⟩) n n, .int .i64 0, .int .i64 0, .int .i64 0] 40 (0, 0)) := by rw [hWN]; exact (heap_setCell_cells (heap_setCell_cells (heap_setCell_cells (heap_setCell_cells (heap_setCell_cells (heap_setCell_cells KA.out 0 (.slice A n kc)) 1 (.slice (some ⟨w1.heap.size, 0, none⟩) n n)) 2 (.slice (some ⟨w1.heap.size + 1, 0, none⟩) n n)) 3 (.int .i64 0)) 4 (.int .i64 0)) 5 (.int .i64 0))
      have HW1 : Hid (w.heap.size < w1.heap.size) := Lib.hid (Array.getElem?_eq_some_iff.1 K2.out).1
      have e1 : ((w1.alloc (.cells VC 90)).alloc (.cells MC 93)).heap[w1.heap.size]? = some (.cells VC 90) := heap_old (heap_alloc_new w1 _) _
      have e2 : ((w1.alloc (.cells VC 90)).alloc (.cells MC 93)).heap[w1.heap.size + 1]? = some (.cells MC 93) := by
        have := heap_alloc_new (w1.alloc (.cells VC 90)) (.cells MC 93)
        rw [size_alloc'] at this
        exact this
      have HT := Lib.hid hT
      have HEX := Lib.hid hE
      have HH := Lib.hid hh
      have HE1 := Lib.hid e1
      have HE2 := Lib.hid e2
      clear hWN hT hE hh e1 e2 ar0 ar1 ar2 ar3 ar4 ar5 af0 af1 af2 af3 af4 af5 br0 br1 br2 br3 br4 br5 bf0 bf1 bf2 bf3 bf4 bf5
      generalize ((w1.alloc (.cells VC 90)).alloc (.cells MC 93)) = W2 at HT HE1 HE2
      rw [HVC.out] at HE1
      rw [HMC.out] at HE2
      go_wp2_with fail
      refine ret_new (g := w.heap.size) Tryd.results24 rfl rfl HH.out rfl (new_fin (W2 := W2) HXE.out HEX.out.drew ⟨HT.out.os, HT.out.tape, HT.out.output, HT.out.size, HT.out.block⟩ HE1.out HE2.out ?_ ?_ ?_)
      all_goals (have := HW1.out; omega)
    · obtain ⟨WN, hWN⟩ : ∃ WN, WN = ((((((((w1.alloc (.cells MC 93)).alloc (.cells VC 90)).setCell ⟨w.heap.size, 0, none⟩ (.slice A n kc)).setCell ⟨w.heap.size, 1, none⟩ (.slice (some ⟨w1.heap.size + 1, 0, none⟩) n n)).setCell ⟨w.heap.size, 2, none⟩ (.slice (some ⟨w1.heap.size, 0, none⟩) n n)).setCell ⟨w.heap.size, 3, none⟩ (.int .i64 0)).setCell ⟨w.heap.size, 4, none⟩ (.int .i64 0)).setCell ⟨w.heap.size, 5, none⟩ (.int .i64 0)) := ⟨_, rfl⟩
      rw [← hWN]
      have hT : Tch (fun k => k = w.heap.size) ((w1.alloc (.cells MC 93)).alloc (.cells VC 90)) WN := by rw [hWN]; exact (((((((Tch.refl (fun k => k = w.heap.size) ((w1.alloc (.cells MC 93)).alloc (.cells VC 90))).setCell (p := ⟨w.heap.size, 0, none⟩) (fun _ => rfl) (.slice A n kc)).setCell (p := ⟨w.heap.size, 1, none⟩) (fun _ => rfl) (.slice (some ⟨w1.heap.size + 1, 0, none⟩) n n)).setCell (p := ⟨w.heap.size, 2, none⟩) (fun _ => rfl) (.slice (some ⟨w1.heap.size, 0, none⟩) n n)).setCell (p := ⟨w.heap.size, 3, none⟩) (fun _ => rfl) (.int .i64 0)).setCell (p := ⟨w.heap.size, 4, none⟩) (fun _ => rfl) (.int .i64 0)).setCell (p := ⟨w.heap.size, 5, none⟩) (fun _ => rfl) (.int .i64 0))
      have hE : Ext w WN := by rw [hWN]; exact ((((((((HX2.out.alloc _).alloc _).setCell (p := ⟨w.heap.size, 0, none⟩) (Nat.le_refl _) (.slice A n kc)).setCell (p := ⟨w.heap.size, 1, none⟩) (Nat.le_refl _) (.slice (some ⟨w1.heap.size + 1, 0, none⟩) n n)).setCell (p := ⟨w.heap.size, 2, none⟩) (Nat.le_refl _) (.slice (some ⟨w1.heap.size, 0, none⟩) n n)).setCell (p := ⟨w.heap.size, 3, none⟩) (Nat.le_refl _) (.int .i64 0)).setCell (p := ⟨w.heap.size, 4, none⟩) (Nat.le_refl _) (.int .i64 0)).setCell (p := ⟨w.heap.size, 5, none⟩) (Nat.le_refl _) (.int .i64 0))
      have hh : WN.heap[w.heap.size]? = some (.cells #[.slice A n kc, .slice (some ⟨w1.heap.size + 1, 0, none⟩) n n, .slice (some ⟨w1.heap.size, 0, none⟩) n n, .int .i64 0, .int .i64 0, .int .i64 0] 40 (0, 0)) := by rw [hWN]; exact (heap_setCell_cells (heap_setCell_cells (heap_setCell_cells (heap_setCell_cells (heap_setCell_cells (heap_setCell_cells KB.out 0 (.slice A n kc)) 1 (.slice (some ⟨w1.heap.size + 1, 0, none⟩) n n)) 2 (.slice (some ⟨w1.heap.size, 0, none⟩) n n)) 3 (.int .i64 0)) 4 (.int .i64 0)) 5 (.int .i64 0))
      have HW1 : Hid (w.heap.size < w1.heap.size) := Lib.hid (Array.getElem?_eq_some_iff.1 K2.out).1
      have e1 : ((w1.alloc (.cells MC 93)).alloc (.cells VC 90)).heap[w1.heap.size]? = some (.cells MC 93) := heap_old (heap_alloc_new w1 _) _
      have e2 : ((w1.alloc (.cells MC 93)).alloc (.cells VC 90)).heap[w1.heap.size + 1]? = some (.cells VC 90) := by
        have := heap_alloc_new (w1.alloc (.cells MC 93)) (.cells VC 90)
        rw [size_alloc'] at this
        exact this
      have HT := Lib.hid hT
      have HEX := Lib.hid hE
      have HH := Lib.hid hh
      have HE1 := Lib.hid e1
      have HE2 := Lib.hid e2
      clear hWN hT hE hh e1 e2 ar0 ar1 ar2 ar3 ar4 ar5 af0 af1 af2 af3 af4 af5 br0 br1 br2 br3 br4 br5 bf0 bf1 bf2 bf3 bf4 bf5
      generalize ((w1.alloc (.cells MC 93)).alloc (.cells VC 90)) = W2 at HT HE1 HE2
      rw [HVC.out] at HE2
      rw [HMC.out] at HE1
      go_wp2_with fail
      refine ret_new (g := w.heap.size) Tryd.results24 rfl rfl HH.out rfl (new_fin (W2 := W2) HXE.out HEX.out.drew ⟨HT.out.os, HT.out.tape, HT.out.output, HT.out.size, HT.out.block⟩ HE2.out HE1.out ?_ ?_ ?_)
      all_goals (have := HW1.out; omega)
  · have hx1 : (x == 0) = false := by rw [beq_eq_false_iff_ne]; exact h0
    have hx2 : (x != 0) = true := by rw [bne, hx1]; rfl
    have H0 := Lib.hid h0
    clear h0
    have r0 : w1.cell? ⟨w.heap.size, 0, none⟩ = some (.slice none 0 0) := by rw [new_off K2.out]; rfl
    have f0 := Lib.frozen_of_heap K2.out 0
    have r1 : w1.cell? ⟨w.heap.size, 1, none⟩ = some (.slice none 0 0) := by rw [new_off K2.out]; rfl
    have f1 := Lib.frozen_of_heap K2.out 1
    have r2 : w1.cell? ⟨w.heap.size, 2, none⟩ = some (.slice none 0 0) := by rw [new_off K2.out]; rfl
    have f2 := Lib.frozen_of_heap K2.out 2
    have r3 : w1.cell? ⟨w.heap.size, 3, none⟩ = some (.int .i64 0) := by rw [new_off K2.out]; rfl
    have f3 := Lib.frozen_of_heap K2.out 3
    have r4 : w1.cell? ⟨w.heap.size, 4, none⟩ = some (.int .i64 0) := by rw [new_off K2.out]; rfl
    have f4 := Lib.frozen_of_heap K2.out 4
    have r5 : w1.cell? ⟨w.heap.size, 5, none⟩ = some (.int .i64 0) := by rw [new_off K2.out]; rfl
    have f5 := Lib.frozen_of_heap K2.out 5
    go_upto_region 3 with (fail)
    go_wp2_with fail
    refine ret_new Tryd.results24 rfl rfl (heap_setCell_cells (heap_setCell_cells (heap_setCell_cells (heap_setCell_cells (heap_setCell_cells (heap_setCell_cells K2.out 0 _) 1 _) 2 _) 3 _) 4 _) 5 _) rfl ⟨?_, .inl ⟨?_, ?_⟩⟩
    · exact (((((HX2.out.setCell (Nat.le_refl _) _).setCell (Nat.le_refl _) _).setCell (Nat.le_refl _) _).setCell (Nat.le_refl _) _).setCell (Nat.le_refl _) _).setCell (Nat.le_refl _) _
    · rw [← HXE.out]; exact H0.out
    · rw [← HXE.out]; rfl
end Go.Proofs.YtkeaoejgboefbaaDoor

/- The cell that an act names. -/
namespace Go.Proofs.YtkeaoejgboefbaaDoor
open Go.RowKit Go.Maps

def actN (cs : List E.Cell) (c : Nat) : ByteArray := if c % (cs.length + 1) = cs.length then ⟨#[110, 111, 110, 101]⟩ else nmAt cs (c % (cs.length + 1))
set_option maxRecDepth 100000 in
set_option maxHeartbeats 1000000 in
theorem refName18_any {w : World} {A : Option Addr} {kc n c : Nat} {cs : List E.Cell} (hA : SliceAt cellR w (Old w) A kc cs) (hn : n = cs.length) (hz : cs.length ≤ 1000) (hc : c ≤ 255) (x0 x2 : Value) (h0 : x0.oneCell' = true) (h2 : x2.oneCell' = true) :
    Calls Tryd.prog 18 #[.slice A n kc, .agg #[x0, .int .u8 c, x2]] w (Al (.string (actN cs c)) w) := by
  have HN := Lib.hid hn
  obtain ⟨W1, hW1⟩ : ∃ W1, W1 = w.alloc (.cells #[x0, .int .u8 c, x2] 34) := ⟨_, rfl⟩
  have X1 : Ext w W1 := by rw [hW1]; exact (Ext.refl w).alloc _
  have HX1 := Lib.hid X1
  have K1 : Hid (W1.heap[w.heap.size]? = some (.cells #[x0, .int .u8 c, x2] 34)) := Lib.hid (by rw [hW1]; exact heap_alloc_new w _)
  have a1 : W1.cell? ⟨w.heap.size, 1, none⟩ = some (.int .u8 c) := by rw [new_off K1.out]; rfl
  have hmd : (c : Int).tmod ((n : Int) + 1) = ((c % (n + 1) : Nat) : Int) := by
    rw [Int.tmod_eq_emod_of_nonneg (by omega)]; have := Int.natCast_emod c (n + 1); rw [Int.natCast_add] at this; exact this.symm
  have hlt := Nat.mod_lt c (show 0 < n + 1 by omega)
  have HA := Lib.hid (hA.tch (X1.tch fun _ => False) fun k hk => ⟨hk, fun h => h⟩)
  have HE : Hid (actN cs c = if c % (n + 1) = n then ⟨#[110, 111, 110, 101]⟩ else nmAt cs (c % (n + 1))) := Lib.hid (by rw [hn]; rfl)
  have hnz : n ≤ 1000 := by omega
  clear hn hz hA X1
  generalize hk : c % (n + 1) = k at *
  have HK := Lib.hid hk
  clear hk
  go_enter Tryd.func18, Tryd.ntmps18
  go_upto_region 1 with (fail)
  rw [← hW1]
  clear hW1
  by_cases hkn : k = n
  · have HKN := Lib.hid hkn
    have hq : ((k : Int) == (n : Int)) = true := by rw [hkn]; simp
    clear hkn
    go_wp2_with fail
    go_ret
    exact ⟨by rw [HE.out, if_pos HKN.out]; rfl, HX1.out⟩
  · have HKN := Lib.hid hkn
    have hq : ((k : Int) == (n : Int)) = false := by rw [beq_eq_false_iff_ne]; omega
    have hkl : k < n := by omega
    have hkc : k < cs.length := by rw [← HN.out]; exact hkl
    obtain ⟨b, off, A2, k2, hAe, hbb, d0, d1, d2, d3, z1, z2, z3, z4⟩ := cell_get HA.out hkc
    replace d0 : W1.cell? ⟨b, off + k * 4, none⟩ = some (.string cs[k].1) := d0
    have HNM : Hid (nmAt cs k = cs[k].1) := Lib.hid (nmAt_get hkc)
    subst hAe
    generalize cs[k].1 = nm at *
    clear hkn hbb d1 d2 d3 z1 z2 z3 z4 hkc
    go_wp2_with fail
    go_ret
    exact ⟨by rw [HE.out, if_neg HKN.out, HNM.out]; rfl, HX1.out⟩
end Go.Proofs.YtkeaoejgboefbaaDoor

/- Short: a bool; where it is true, the acts are few and short. -/
namespace Go.Proofs.YtkeaoejgboefbaaDoor
open Go.RowKit Go.Maps

abbrev ActE := Int × Int × ByteArray
def actR : Rep ActE := prodR (intR .u8) (prodR (intR .u8) strR)
theorem act_get {w : World} {B : Nat → Prop} {A : Option Addr} {c : Nat} {l : List ActE} (h : SliceAt actR w B A c l) {j : Nat} (hj : j < l.length) :
    ∃ b off, A = some ⟨b, off, none⟩ ∧ B b ∧ w.cell? ⟨b, off + j * 3, none⟩ = some (.int .u8 l[j].1) ∧ w.cell? ⟨b, off + j * 3 + 1, none⟩ = some (.int .u8 l[j].2.1) ∧ w.cell? ⟨b, off + j * 3 + 2, none⟩ = some (.string l[j].2.2) ∧
      (Lit.int .u8 l[j].1).wf = true ∧ (Lit.int .u8 l[j].2.1).wf = true ∧ l[j].2.2.size ≤ 9223372036854775807 := by
  obtain ⟨_, _, h3⟩ := h
  obtain ⟨b, off, hA, hb, hr⟩ := h3 (by intro e; rw [e] at hj; exact absurd hj (Nat.not_lt_zero _))
  obtain ⟨us, hu, hc⟩ := hr j hj
  obtain ⟨x1, y1, rfl, ⟨rfl, z1⟩, x2, y2, rfl, ⟨rfl, z2⟩, rfl, z4⟩ := hu
  have e : actR.size = 3 := rfl
  have c0 := hc 0 _ rfl
  have c1 := hc 1 _ rfl
  have c2 := hc 2 _ rfl
  rw [e] at c0 c1 c2
  exact ⟨b, off, hA, hb, c0, c1, c2, z1, z2, z4⟩
/-- It returns a bool; where it is true, P. -/
def RetB (w : World) (P : Prop) (e : Ending) (w' : World) : Prop := Ext w w' ∧ ∃ b, e = .returned (.bool b) ∧ (b = true → P)
theorem retB_false {w w' : World} {P : Prop} (h : Ext w w') : RetB w P (.returned (.bool false)) w' := ⟨h, false, rfl, fun h => by cases h⟩
theorem retB_true {w w' : World} {P : Prop} (h : Ext w w') (hp : P) : RetB w P (.returned (.bool true)) w' := ⟨h, true, rfl, fun _ => hp⟩
def ShortA (l : List ActE) (most : Int) : Prop := (l.length : Int) ≤ most ∧ ∀ a ∈ l, a.2.2.size ≤ 200
def shortTo (l : List ActE) (k : Nat) : Prop := ∀ i (h : i < l.length), i < k → l[i].2.2.size ≤ 200
theorem shortTo_succ {t : List ActE} {k : Nat} (h : shortTo t k) (hk : k < t.length) (h1 : t[k].2.2.size ≤ 200) : shortTo t (k + 1) := by
  intro i hi hik
  by_cases e : i = k
  · subst e; exact h1
  · exact h i hi (by omega)
theorem shortA_of {t : List ActE} {most : Int} (h1 : shortTo t t.length) (h2 : (t.length : Int) ≤ most) : ShortA t most :=
  ⟨h2, fun s hs => by obtain ⟨i, hi, rfl⟩ := List.getElem_of_mem hs; exact h1 i hi hi⟩
set_option maxRecDepth 8000 in
set_option maxHeartbeats 1000000 in
theorem refShort_any (t : List ActE) (A : Option Addr) (c n : Nat) (most : Int) (w : World) (hn : n = t.length) (hA : SliceAt actR w (Old w) A c t) :
    Calls Tryd.prog 10 #[.slice A n c, .int .i64 most] w (RetB w (ShortA t most)) := by
  have hn2 : n ≤ 9223372036854775807 := by have := hA.1; have := hA.2.1; omega
  have HF := Lib.hid (@shortA_of t most)
  obtain ⟨P, hP⟩ : ∃ P, P = ShortA t most := ⟨_, rfl⟩
  rw [← hP] at HF ⊢
  have HN := Lib.hid hn
  have HA := Lib.hid hA
  clear hn hA hP
  go_enter Tryd.func10, Tryd.ntmps10
  by_cases hm : most < n
  · go_wp2_with fail
    go_ret
    exact retB_false (Ext.refl _)
  have HM := Lib.hid hm
  go_wp2_with fail
  clear hm
  go_loopw [5] (fun i wr => ∃ (k : Nat), k ≤ n ∧ i = .int .i64 k ∧ Hid (shortTo t k ∧ Ext w wr)) (fun i _ => n - (intOf i).toNat)
  case atStart => exact ⟨0, Nat.zero_le _, rfl, fun _ _ h => absurd h (Nat.not_lt_zero _), Ext.refl _⟩
  case round =>
    obtain ⟨k, hk, rfl, HK⟩ := hrel
    by_cases hlt : k < n
    · have hkz : k < t.length := by rw [← HN.out]; exact hlt
      obtain ⟨b, off, hAe, hB, ca0, ca1, ca2, za1, za2, za3⟩ := act_get (HA.out.tch (HK.out.2.tch fun _ => False) fun k hk => ⟨hk, fun h => h⟩) hkz
      subst hAe
      have H9 := Lib.hid (fun h1 => shortTo_succ HK.out.1 hkz h1)
      generalize t[k] = f at *
      obtain ⟨f1, f2, fv⟩ := f
      simp only at ca0 ca1 ca2 za1 za2 za3 H9
      clear ca0 ca1 za1 za2
      by_cases h1 : 200 < fv.size
      · go_wp2_with fail
        go_ret
        exact retB_false HK.out.2
      have H8 := Lib.hid (H9.out (by omega))
      go_wp2_with fail
      go_roundw
      case rel => exact ⟨k + 1, by omega, by go_num, H8.out, HK.out.2⟩
      case measure => simp [intOf]; omega
    · have HS := Lib.hid (show shortTo t t.length by have := HK.out.1; rwa [show k = t.length by have := HN.out; omega] at this)
      go_wp2_with fail
      go_ret
      exact retB_true HK.out.2 (HF.out HS.out (by have := HN.out; have := HM.out; omega))
end Go.Proofs.YtkeaoejgboefbaaDoor

/- Few: a bool; where it is true, the cells are few and small. -/
namespace Go.Proofs.YtkeaoejgboefbaaDoor
open Go.RowKit Go.Maps

def SmallC (c : E.Cell) : Prop := c.1.size ≤ 200 ∧ c.2.2.1.length ≤ 10 ∧ c.2.2.2.size ≤ 100 ∧ ∀ a ∈ c.2.2.1, a.size ≤ 200
def FewC (l : List E.Cell) (most : Int) : Prop := (l.length : Int) ≤ most ∧ ∀ c ∈ l, SmallC c
def fewTo (l : List E.Cell) (k : Nat) : Prop := ∀ i (h : i < l.length), i < k → SmallC l[i]
theorem fewTo_succ {t : List E.Cell} {k : Nat} (h : fewTo t k) (hk : k < t.length) (h1 : SmallC t[k]) : fewTo t (k + 1) := by
  intro i hi hik
  by_cases e : i = k
  · subst e; exact h1
  · exact h i hi (by omega)
theorem fewC_of {t : List E.Cell} {most : Int} (h1 : fewTo t t.length) (h2 : (t.length : Int) ≤ most) : FewC t most :=
  ⟨h2, fun s hs => by obtain ⟨i, hi, rfl⟩ := List.getElem_of_mem hs; exact h1 i hi hi⟩
def argTo (l : List ByteArray) (k : Nat) : Prop := ∀ i (h : i < l.length), i < k → l[i].size ≤ 200
theorem argTo_succ {t : List ByteArray} {k : Nat} (h : argTo t k) (hk : k < t.length) (h1 : t[k].size ≤ 200) : argTo t (k + 1) := by
  intro i hi hik
  by_cases e : i = k
  · subst e; exact h1
  · exact h i hi (by omega)
set_option maxRecDepth 8000 in
set_option maxHeartbeats 1000000 in
theorem refFew_any (t : List E.Cell) (A : Option Addr) (c n : Nat) (most : Int) (w : World) (hn : n = t.length) (hA : SliceAt cellR w (Old w) A c t) :
    Calls Tryd.prog 9 #[.slice A n c, .int .i64 most] w (RetB w (FewC t most)) := by
  have hn2 : n ≤ 9223372036854775807 := by have := hA.1; have := hA.2.1; omega
  have HF := Lib.hid (@fewC_of t most)
  obtain ⟨P, hP⟩ : ∃ P, P = FewC t most := ⟨_, rfl⟩
  rw [← hP] at HF ⊢
  have HN := Lib.hid hn
  have HA := Lib.hid hA
  clear hn hA hP
  go_enter Tryd.func9, Tryd.ntmps9
  by_cases hm : most < n
  · go_wp2_with fail
    go_ret
    exact retB_false (Ext.refl _)
  have HM := Lib.hid hm
  go_wp2_with fail
  clear hm
  go_loopw [5] (fun i wr => ∃ (k : Nat), k ≤ n ∧ i = .int .i64 k ∧ Hid (fewTo t k) ∧ wr = w) (fun i _ => n - (intOf i).toNat)
  case atStart => exact ⟨0, Nat.zero_le _, rfl, fun _ _ h => absurd h (Nat.not_lt_zero _), rfl⟩
  case round =>
    obtain ⟨k, hk, rfl, HK, hwr⟩ := hrel
    subst hwr
    by_cases hlt : k < n
    · have hkz : k < t.length := by rw [← HN.out]; exact hlt
      obtain ⟨b, off, A2, k2, hAe, hbb, d0, d1, d2, d3, z1, z2, z3, z4⟩ := cell_get HA.out hkz
      subst hAe
      have H9 := Lib.hid (fun h1 => fewTo_succ HK.out hkz h1)
      generalize t[k] = f at *
      obtain ⟨f1, f2, fa, ft⟩ := f
      simp only at d0 d1 d2 d3 z1 z2 z3 z4 H9
      have HZ3 := Lib.hid z3
      have hl63 : fa.length ≤ 9223372036854775807 := by have := z3.1; have := z3.2.1; omega
      clear d1 z2 hbb hkz z3
      obtain ⟨m, hm⟩ : ∃ m, m = fa.length := ⟨_, rfl⟩
      rw [← hm] at d2 hl63
      have HMM := Lib.hid hm
      clear hm
      by_cases h1 : 200 < f1.size
      · go_wp2_with fail
        go_ret
        exact retB_false (Ext.refl _)
      by_cases h2 : 10 < m
      · go_wp2_with fail
        go_ret
        exact retB_false (Ext.refl _)
      by_cases h3 : 100 < ft.size
      · go_wp2_with fail
        go_ret
        exact retB_false (Ext.refl _)
      have H8 := Lib.hid (fun (h4 : ∀ a ∈ fa, a.size ≤ 200) => H9.out ⟨show f1.size ≤ 200 by omega, show fa.length ≤ 10 by have := HMM.out; omega, show ft.size ≤ 100 by omega, h4⟩)
      go_wp2_with fail
      go_loopw [6] (fun i wr2 => ∃ (j : Nat), j ≤ m ∧ i = .int .i64 j ∧ Hid (argTo fa j) ∧ wr2 = wr) (fun i _ => m - (intOf i).toNat)
      case atStart => exact ⟨0, Nat.zero_le _, rfl, fun _ _ h => absurd h (Nat.not_lt_zero _), rfl⟩
      case round =>
        obtain ⟨j, hj, rfl, HJ, hwr⟩ := hrel
        subst hwr
        by_cases hjt : j < m
        · have hjz : j < fa.length := by rw [← HMM.out]; exact hjt
          obtain ⟨b2, off2, hA2, hb2, y0, y1⟩ := str_get HZ3.out hjz
          subst hA2
          have H7 := Lib.hid (fun h1 => argTo_succ HJ.out hjz h1)
          generalize fa[j] = g at *
          clear hb2 hjz
          by_cases h5 : 200 < g.size
          · go_wp2_with fail
            go_ret
            exact retB_false (Ext.refl _)
          have H6 := Lib.hid (H7.out (by omega))
          go_wp2_with fail
          go_roundw
          case rel => exact ⟨j + 1, by omega, by go_num, H6, by trivial⟩
          case measure => simp [intOf]; omega
        · have HL := Lib.hid (H8.out fun a ha => by
            obtain ⟨i, hi, rfl⟩ := List.getElem_of_mem ha
            exact HJ.out i hi (by have := HMM.out; omega))
          go_wp2_with fail
          go_roundw
          case rel => exact ⟨k + 1, by omega, by go_num, HL, by trivial⟩
          case measure => simp [intOf]; omega
    · have HS := Lib.hid (show fewTo t t.length by have := HK.out; rwa [show k = t.length by have := HN.out; omega] at this)
      go_wp2_with fail
      go_ret
      exact retB_true (Ext.refl _) (HF.out HS.out (by have := HN.out; have := HM.out; omega))
end Go.Proofs.YtkeaoejgboefbaaDoor

/- The reference's Reads. -/
namespace Go.Proofs.YtkeaoejgboefbaaDoor
open Go.RowKit Go.Maps

theorem memo_row {w : World} {S : Nat → Prop} {p : Plc} {e : E.En} {ft : Int} (h : RefAt w S p 0 ft [] e) {i : Nat} (hi : i < e.cells.length) : ∃ (A : Option Addr) (k : Nat) (rs : List (E.Nm × E.V)), w.cell? ⟨p.bm, p.om + i * 6 + 4, none⟩ = some (.slice A rs.length k) ∧ SliceAt readR w S A k rs ∧ rs.length ≤ 100 ∧ rs.map (·.1) = readsL e (nmAt e.cells i) := by
  obtain ⟨us, hm, _, hc⟩ := h.memos.cells hi
  have h4 := hc 4 (by decide)
  unfold readsL
  cases e1 : e.st.ms (nmAt e.cells i) with
  | none =>
    rw [e1] at hm
    rw [show us = _ from hm] at h4
    exact ⟨none, 0, [], h4, SliceAt.nil _ _ _ _ _ (by decide), by decide, rfl⟩
  | some m =>
    rw [e1] at hm
    obtain ⟨_, h5, _, A, k, h6, h7⟩ := hm
    rw [h6] at h4
    exact ⟨A, k, m.reads, h4, h7, h5, rfl⟩
set_option maxRecDepth 100000 in
set_option maxHeartbeats 2000000 in
theorem refReads_any {w : World} {S : Nat → Prop} {p : Plc} {e : E.En} {ft : Int} (h : RefAt w S p 0 ft [] e) (hz : e.cells.length ≤ 1000) {n : ByteArray} :
    Calls Tryd.prog 20 #[.pointer (some ⟨p.g, p.o, none⟩), .string n] w (RetReads w (readsE e n)) := by
  obtain ⟨R, hR⟩ : ∃ R, R = readsE e n := ⟨_, rfl⟩
  rw [← hR]
  have HR := Lib.hid hR
  have HE := Lib.hid h
  obtain ⟨c0, c1, c2, c3, c4, c5⟩ := h.row.cells
  have HFI := Lib.hid (refFind_any c0 h.args rfl n)
  replace HFI : Hid (Calls Tryd.prog 36 #[.pointer (some ⟨p.g, p.o, none⟩), .string n] w fun ed w' => w = w' ∧ ∃ r : Int, ed = .returned (.int .i64 r) ∧ FoundAt e.cells n r) := HFI
  cases hc : E.findC e.cells n with
  | none =>
    have HX : Hid (R = ([], 7)) := Lib.hid (by rw [HR.out]; unfold readsE; rw [hc])
    clear h hR HR c0 c1 c2 c3 c4 c5
    go_enter Tryd.func20, Tryd.ntmps20
    go_wp2_with fail
    refine HFI.out.mono ?_
    rintro ed w1 ⟨rfl, r, rfl, hf⟩
    obtain rfl := found_none hf hc
    clear hf hc HFI
    go_wp2_with fail
    go_ret2
    exact ⟨Ext.refl w, none, 0, 0, by rw [HX.out]; rfl, by rw [HX.out]; rfl, by rw [HX.out]; exact SliceAt.nil _ _ _ _ _ (by decide)⟩
  | some c =>
    have HX : Hid (R = (readsL e n, 0)) := Lib.hid (by rw [HR.out]; unfold readsE; rw [hc])
    go_enter Tryd.func20, Tryd.ntmps20
    go_wp2_with fail
    refine HFI.out.mono ?_
    rintro ed w1 ⟨rfl, r, rfl, hf⟩
    obtain ⟨i, hil, hn1, rfl, rfl⟩ := found_some hf hc
    obtain ⟨A, k, rs, hrow, hrs, hrz, hmap⟩ := memo_row h hil
    rw [nmAt_get hil, hn1] at hmap
    have HM := Lib.hid hmap
    have HRS := Lib.hid (hrs.keep (fun k hk => h.lt k hk) fun _ _ => rfl)
    replace HRS : Hid (SliceAt readR w (Old w) A k rs) := HRS
    obtain ⟨L, hL⟩ : ∃ L, L = rs.length := ⟨_, rfl⟩
    rw [← hL] at hrow hrz
    have HL := Lib.hid hL
    obtain ⟨C, hC⟩ : ∃ C, C = e.cells.length := ⟨_, rfl⟩
    rw [← hC] at c2 hil
    have hzl : C ≤ 1000 := by rw [hC]; exact hz
    clear hz
    clear h hR HR c0 c1 c3 c4 c5 hf hc hn1 HFI hrs hmap hL hC HE
    go_wp2_with fail
    go_loopw [7, 8] (fun v t wr => ∃ (j : Nat), t = .int .i64 j ∧ j ≤ L ∧ Hid (OwnAt wr w.heap.size 9 1 v j (((rs.map (·.1)).take j).map Value.string)) ∧ Hid (Ext w wr)) (fun _ t _ => L - (intOf t).toNat)
    case atStart => exact ⟨0, rfl, Nat.zero_le _, OwnAt.nil _ _ _ _, Ext.refl _⟩
    case round =>
      obtain ⟨j, rfl, hj, HO, HX1⟩ := hrel
      have c2 := HX1.out.keepc c2
      have hrow := HX1.out.keepc hrow
      by_cases hlt : j < L
      · have hjl : j < rs.length := by have := HL.out; omega
        obtain ⟨b, off, hAe, hbb, d0, d1, d2, z1, z2⟩ := read_get (HRS.out.ext HX1.out) hjl
        subst hAe
        have HTK : Hid (((rs.map (·.1)).take (j + 1)).map Value.string = ((rs.map (·.1)).take j).map Value.string ++ [.string rs[j].1]) := Lib.hid (by
          rw [List.take_succ_eq_append_getElem (by rw [List.length_map]; exact hjl), List.map_append, List.getElem_map]
          rfl)
        generalize rs[j] = x at *
        obtain ⟨xn, xv⟩ := x
        simp only at d0 d1 d2 z1 z2 HTK
        obtain ⟨i0, hi, hz0, hz1, hz2⟩ := info_parts str_info
        have hbs : w.heap.size ≤ wr.heap.size := HX1.out.size
        clear d1 d2 z2
        go_wp2_with (at_builtin; refine wpList_append_ownAt _ rfl (.tmp 27) (.tmp 40) 30 rfl w.heap.size 9 i0 (.string ⟨#[]⟩) 1 16 Tryd.underlying30 hi hz0 hz1 hz2 rfl (by decide) _ _ _ rfl (HO.out.alloc _) ⟨_, 0, none⟩ 1 1 [.string xn] rfl rfl ?_ ?_ (by unfold maxLen; omega) (by omega) (by rw [size_alloc']; omega) (by decide) ?_)
        · intro i u hi'
          rw [Addr.add_lit, Nat.zero_add, cell_new, ← hi']
          simp
        · intro u hu
          rw [List.mem_singleton.1 hu]
          rfl
        · intro v' w4 ho hg _ hf
          have HX4 : Hid (Ext w w4) := Lib.hid ((HX1.out.alloc _).grown HO.out hg)
          have HO4 : Hid (OwnAt w4 w.heap.size 9 1 v' (j + 1) (((rs.map (·.1)).take (j + 1)).map Value.string)) := Lib.hid (by rw [HTK.out]; simpa using ho)
          clear ho hg hf hi hz0 hz1 hz2 c2 hrow
          go_wp2_with fail
          go_roundw
          case rel => exact ⟨j + 1, by go_num, by omega, HO4, HX4⟩
          case measure => simp [intOf]; omega
      · have hjn : j = L := by omega
        have htk : (rs.map (·.1)).take j = rs.map (·.1) := List.take_of_length_le (by rw [List.length_map]; have := HL.out; omega)
        rw [htk] at HO
        have hsz : ∀ s ∈ rs.map (·.1), s.size ≤ 9223372036854775807 := fun s hs => by
          obtain ⟨r, hr, rfl⟩ := List.mem_map.1 hs
          obtain ⟨i, hi, rfl⟩ := List.getElem_of_mem hr
          obtain ⟨_, _, _, _, _, _, _, z1, _⟩ := read_get HRS.out hi
          exact z1
        obtain ⟨A', k', rfl, hs⟩ := strs_slice HO.out (by rw [List.length_map]; have := HL.out; omega) hsz
        have HS := Lib.hid hs
        have HJ := Lib.hid hjn
        clear htk hs hsz hjn
        go_wp2_with fail
        go_ret2
        refine ⟨HX1.out, A', k', j, ?_, by rw [HX.out]; rfl, ?_⟩
        · rw [HX.out, ← HM.out, List.length_map, HJ.out, HL.out]
        · rw [HX.out, ← HM.out]
          exact HS.out.keep (fun k hk => hk.2) fun _ _ => rfl
end Go.Proofs.YtkeaoejgboefbaaDoor

/- An act in plain words; what stays true of an engine. -/
namespace Go.Proofs.YtkeaoejgboefbaaDoor
open Go.RowKit Go.Maps

theorem newE_nodup : ∀ (cs before : List E.Cell), E.newE before cs = 0 → (cs.map (·.1)).Nodup ∧ ∀ n ∈ cs.map (·.1), n ∉ before.map (·.1)
  | [], _, _ => ⟨List.nodup_nil, fun _ h => absurd h List.not_mem_nil⟩
  | c :: cs, before, h => by
    rw [newE_cons] at h
    by_cases he : E.cellE before c = 0
    · rw [if_neg (by simpa using he)] at h
      obtain ⟨h1, h2⟩ := newE_nodup cs _ h
      have hb : c.1 ∉ before.map (·.1) := fun hm => by
        unfold E.cellE at he
        rw [E.has_iff.2 hm] at he
        split at he
        · cases he
        · split at he <;> cases he
      refine ⟨List.nodup_cons.2 ⟨fun hm => h2 _ hm ?_, h1⟩, fun n hn => ?_⟩
      · rw [List.map_append]
        exact List.mem_append_right _ (List.mem_singleton_self _)
      · rcases List.mem_cons.1 hn with rfl | hn
        · exact hb
        · exact fun hm => h2 n hn (by rw [List.map_append]; exact List.mem_append_left _ hm)
    · rw [if_pos he] at h
      exact absurd h he
theorem once_of {cs : List E.Cell} (h : E.newErr cs = 0) : Once cs := by
  intro i j hi hj he
  unfold E.newErr at h
  by_cases hl : 200 < cs.length
  · rw [if_pos hl] at h; cases h
  · rw [if_neg hl] at h
    obtain ⟨h1, _⟩ := newE_nodup cs [] h
    rw [nmAt_get hi, nmAt_get hj] at he
    have e : (cs.map (·.1))[i]'(by simpa using hi) = (cs.map (·.1))[j]'(by simpa using hj) := by simpa using he
    exact (List.getElem_inj h1).1 e
/-- What an act makes of an engine. -/
def actE (e : E.En) (a : ActE) : E.En :=
  if a.1 % 8 ≤ 2 then (E.setE e (actN e.cells a.2.1.toNat) a.2.2).2 else if a.1 % 8 = 3 then (E.clearE e (actN e.cells a.2.1.toNat)).2 else (E.getE e (actN e.cells a.2.1.toNat)).2.2
/-- What stays true of an engine; m: how many acts there were. -/
structure Fit (cs : List E.Cell) (m : Nat) (e : E.En) : Prop where
  cells : e.cells = cs
  right : E.newErr cs = 0
  ok : E.OkE e
  eok : EOk e
  rev : e.rev ≤ m
  cnt : e.st.cnt ≤ m * 200
theorem clear_cells (e : E.En) (n : ByteArray) : (E.clearE e n).2.cells = e.cells := by
  unfold E.clearE
  split
  · rfl
  · exact E.change_cells _ _ _
theorem get_cells (e : E.En) (n : ByteArray) : (E.getE e n).2.2.cells = e.cells ∧ (E.getE e n).2.2.vals = e.vals ∧ (E.getE e n).2.2.rev = e.rev := by
  obtain ⟨S, hS⟩ := E.get_st e n
  rw [hS]
  exact ⟨rfl, rfl, rfl⟩
theorem change_st (e : E.En) (n : ByteArray) (v : E.V) : (E.change e n v).st = e.st ∧ (E.change e n v).rev ≤ e.rev + 1 := by
  unfold E.change
  split
  · exact ⟨rfl, Nat.le_succ _⟩
  · exact ⟨rfl, Nat.le_refl _⟩
theorem set_st (e : E.En) (n s : ByteArray) : (E.setE e n s).2.st = e.st ∧ (E.setE e n s).2.rev ≤ e.rev + 1 := by
  unfold E.setE
  split
  · exact ⟨rfl, Nat.le_succ _⟩
  · split
    · exact ⟨rfl, Nat.le_succ _⟩
    · exact change_st _ _ _
theorem clear_st (e : E.En) (n : ByteArray) : (E.clearE e n).2.st = e.st ∧ (E.clearE e n).2.rev ≤ e.rev + 1 := by
  unfold E.clearE
  split
  · exact ⟨rfl, Nat.le_succ _⟩
  · exact change_st _ _ _
theorem eok_get {e : E.En} (h : EOk e) (n : ByteArray) : EOk (E.getE e n).2.2 := by
  obtain ⟨S, hS⟩ := E.get_st e n
  rw [hS]
  exact ⟨h.few, h.vals⟩
theorem names_len (e : E.En) : (E.names e).length ≤ e.cells.length := by
  unfold E.names
  rw [List.length_map]
  exact List.length_filter_le _ _
theorem Fit.few {cs : List E.Cell} {m : Nat} {e : E.En} (h : Fit cs m e) : cs.length ≤ 200 := (newErr_formed h.right).1
theorem Fit.more {cs : List E.Cell} {m m' : Nat} {e : E.En} (h : Fit cs m e) (hm : m ≤ m') : Fit cs m' e := ⟨h.cells, h.right, h.ok, h.eok, Nat.le_trans h.rev hm, Nat.le_trans h.cnt (Nat.mul_le_mul_right _ hm)⟩
theorem Fit.set {cs : List E.Cell} {m : Nat} {e : E.En} (h : Fit cs m e) (n s : ByteArray) : Fit cs (m + 1) (E.setE e n s).2 := by
  obtain ⟨h1, h2⟩ := set_st e n s
  exact ⟨(E.set_cells e n s).trans h.cells, h.right, E.ok_set h.ok n s, h.eok.set n s, by have := h.rev; omega, by rw [h1]; have := h.cnt; omega⟩
theorem Fit.clear {cs : List E.Cell} {m : Nat} {e : E.En} (h : Fit cs m e) (n : ByteArray) : Fit cs (m + 1) (E.clearE e n).2 := by
  obtain ⟨h1, h2⟩ := clear_st e n
  exact ⟨(clear_cells e n).trans h.cells, h.right, E.ok_clear h.ok n, h.eok.clear n, by have := h.rev; omega, by rw [h1]; have := h.cnt; omega⟩
theorem Fit.get {cs : List E.Cell} {m : Nat} {e : E.En} (h : Fit cs m e) (n : ByteArray) : Fit cs (m + 1) (E.getE e n).2.2 := by
  obtain ⟨h1, h2, h3⟩ := get_cells e n
  refine ⟨h1.trans h.cells, h.right, E.ok_get h.ok n, eok_get h.eok n, by rw [h3]; have := h.rev; omega, ?_⟩
  have h4 := (E.get_once h.ok n).2
  have h5 := names_len e
  have h6 := h.few
  have h7 := h.cnt
  rw [h.cells] at h5
  omega
theorem Fit.act {cs : List E.Cell} {m : Nat} {e : E.En} (h : Fit cs m e) (a : ActE) : Fit cs (m + 1) (actE e a) := by
  unfold actE
  split
  · exact h.set _ _
  · split
    · exact h.clear _
    · exact h.get _
theorem fit_fresh {cs : List E.Cell} (h : E.newErr cs = 0) : Fit cs 0 (E.fresh cs) := ⟨rfl, h, E.ok_fresh cs, ⟨(newErr_formed h).1, fun _ _ h => by cases h⟩, Nat.le_refl _, Nat.zero_le _⟩
theorem Fit.formed {cs : List E.Cell} {m : Nat} {e : E.En} (h : Fit cs m e) : ∀ c ∈ e.cells, E.formedB c = true := by rw [h.cells]; exact fun c hc => ((newErr_formed h.right).2 c hc).1
theorem Fit.vals {cs : List E.Cell} {m : Nat} {e : E.En} (h : Fit cs m e) : ∀ n s, e.vals n = some s → s.size ≤ 65536 := fun n s hn => (h.eok.vals n s hn).2
theorem Fit.once {cs : List E.Cell} {m : Nat} {e : E.En} (h : Fit cs m e) : Once e.cells := by rw [h.cells]; exact once_of h.right
/-- How often formulas are computed in an act. -/
theorem act_cnt {cs : List E.Cell} {m : Nat} {e : E.En} (h : Fit cs m e) (a : ActE) : e.st.cnt ≤ (actE e a).st.cnt ∧ (actE e a).st.cnt ≤ e.st.cnt + (E.names e).length := by
  unfold actE
  split
  · rw [(set_st e _ _).1]; exact ⟨Nat.le_refl _, Nat.le_add_right _ _⟩
  · split
    · rw [(clear_st e _).1]; exact ⟨Nat.le_refl _, Nat.le_add_right _ _⟩
    · exact E.get_once h.ok _
end Go.Proofs.YtkeaoejgboefbaaDoor

/- An engine and its model, as the laws hold them. -/
namespace Go.Proofs.YtkeaoejgboefbaaDoor
open Go.RowKit Go.Maps

/-- An engine and its model (a 'both' at block g). D: the blocks that are theirs; base: what lies below was there. -/
structure BothRow (w : World) (base : Nat) (D : Nat → Prop) (g : Nat) (S S2 : Nat → Prop) (ge bc bi br : Nat) (p : Plc) (ft : Int) (e : E.En) : Prop where
  at' : p.g = g ∧ p.o = 1 ∧ p.pr 0 = some (.pointer (some ⟨ge, 0, none⟩))
  eng : EngAt w S ge bc bi br e
  ref : RefAt w S2 p 0 ft [] e
  dom : ∀ k, D k → base ≤ k ∧ k < w.heap.size
  mine : D ge ∧ D bc ∧ D bi ∧ D br ∧ D g ∧ D p.bv ∧ D p.bm
  sub : ∀ k, S k → D k
  sub2 : ∀ k, S2 k → D k ∨ k < base
  apart : ∀ k, (k = g ∨ k = p.bv ∨ k = p.bm) → k ≠ ge ∧ k ≠ bc ∧ k ≠ bi ∧ k ≠ br ∧ ¬ S k
  apart2 : ¬ S2 ge ∧ ¬ S2 bi ∧ ¬ S2 br
def BothAt (w : World) (base : Nat) (D : Nat → Prop) (g : Nat) (e : E.En) : Prop := ∃ S S2 ge bc bi br p ft, BothRow w base D g S S2 ge bc bi br p ft e
section
variable {w w' : World} {base g : Nat} {D : Nat → Prop} {S S2 : Nat → Prop} {ge bc bi br : Nat} {p : Plc} {ft : Int} {e : E.En}
theorem BothRow.ptr (h : BothRow w base D g S S2 ge bc bi br p ft e) : w.cell? ⟨g, 0, none⟩ = some (.pointer (some ⟨ge, 0, none⟩)) := by
  obtain ⟨h1, h2, h3⟩ := h.at'
  rw [← h3, ← h1]
  exact h.ref.row.pre (by omega)
theorem BothRow.tch (h : BothRow w base D g S S2 ge bc bi br p ft e) {X : Nat → Prop} (ht : Tch X w w') (hX : ∀ k, X k → ¬ D k ∧ base ≤ k) : BothRow w' base D g S S2 ge bc bi br p ft e := by
  obtain ⟨m1, m2, m3, m4, m5, m6, m7⟩ := h.mine
  refine ⟨h.at', h.eng.tch ht fun k hk => ?_, h.ref.tch ht fun k hk => ?_, fun k hk => ⟨(h.dom k hk).1, Nat.lt_of_lt_of_le (h.dom k hk).2 ht.size⟩, h.mine, h.sub, h.sub2, h.apart, h.apart2⟩
  · obtain ⟨h1, h2⟩ := hX k hk
    exact ⟨fun e => h1 (e ▸ m1), fun e => h1 (e ▸ m2), fun e => h1 (e ▸ m3), fun e => h1 (e ▸ m4), fun hs => h1 (h.sub k hs)⟩
  · obtain ⟨h1, h2⟩ := hX k hk
    refine ⟨fun e => h1 (by rw [e, h.at'.1]; exact m5), fun e => h1 (e ▸ m6), fun e => h1 (e ▸ m7), fun hs => ?_⟩
    rcases h.sub2 k hs with h3 | h3
    · exact h1 h3
    · omega
theorem BothRow.ext (h : BothRow w base D g S S2 ge bc bi br p ft e) (he : Ext w w') : BothRow w' base D g S S2 ge bc bi br p ft e := h.tch (he.tch fun _ => False) fun _ hk => hk.elim
theorem BothAt.tch (h : BothAt w base D g e) {X : Nat → Prop} (ht : Tch X w w') (hX : ∀ k, X k → ¬ D k ∧ base ≤ k) : BothAt w' base D g e := by
  obtain ⟨S, S2, ge, bc, bi, br, p, ft, h⟩ := h
  exact ⟨S, S2, ge, bc, bi, br, p, ft, h.tch ht hX⟩
theorem BothAt.ext (h : BothAt w base D g e) (he : Ext w w') : BothAt w' base D g e := h.tch (he.tch fun _ => False) fun _ hk => hk.elim
theorem BothAt.dom (h : BothAt w base D g e) : ∀ k, D k → base ≤ k ∧ k < w.heap.size := by
  obtain ⟨S, S2, ge, bc, bi, br, p, ft, h⟩ := h
  exact h.dom
/-- Both parts have turned. -/
theorem BothRow.turned (h : BothRow w base D g S S2 ge bc bi br p ft e) {w1 w2 : World} {S' S2' : Nat → Prop} {br' : Nat} {bm om cm : Nat} {ft' : Int} {e' : E.En} (hbase : base ≤ w.heap.size)
    (ht : Tch (fun k => k = ge ∨ k = bi ∨ k = br) w w1) (he : EngAt w1 S' ge bc bi br' e') (hS : ∀ k, S' k → S k ∨ w.heap.size ≤ k) (hb : br' = br ∨ w.heap.size ≤ br')
    (ht2 : Tch (fun k => k = p.g ∨ k = p.bv ∨ k = p.bm) w1 w2) (hr : RefAt w2 S2' { p with bm := bm, om := om, cm := cm } 0 ft' [] e') (hS2 : ∀ k, S2' k → S2 k ∨ w1.heap.size ≤ k) (hm : bm = p.bm ∨ w1.heap.size ≤ bm) :
    Tch D w w2 ∧ BothRow w2 base (fun k => k < w2.heap.size ∧ (D k ∨ w.heap.size ≤ k)) g S' S2' ge bc bi br' { p with bm := bm, om := om, cm := cm } ft' e' := by
  obtain ⟨m1, m2, m3, m4, m5, m6, m7⟩ := h.mine
  obtain ⟨a1, a2, a3⟩ := h.apart2
  have hg := h.at'.1
  have d1 := (h.dom _ m1).2
  have d2 := (h.dom _ m2).2
  have d3 := (h.dom _ m3).2
  have d4 := (h.dom _ m4).2
  have d5 := (h.dom _ m5).2
  have d6 := (h.dom _ m6).2
  have d7 := (h.dom _ m7).2
  have s1 := ht.size
  have s2 := ht2.size
  have hS'w : ∀ k, S' k → k < w1.heap.size := he.lt
  have hbr' : br' < w1.heap.size := by obtain ⟨f, hf, _⟩ := he.results; exact hf.lt
  have hbm : bm < w2.heap.size := hr.memos.lt
  have key : ∀ k, (k = g ∨ k = p.bv ∨ k = p.bm) → k ≠ ge ∧ k ≠ bc ∧ k ≠ bi ∧ k ≠ br' ∧ ¬ S' k := fun k hk => by
    obtain ⟨b1, b2, b3, b4, b5⟩ := h.apart k hk
    have hkw : k < w.heap.size := by rcases hk with rfl | rfl | rfl <;> assumption
    refine ⟨b1, b2, b3, fun e => ?_, fun hs => ?_⟩
    · rcases hb with hb | hb
      · exact b4 (e.trans hb)
      · omega
    · rcases hS k hs with h1 | h1
      · exact b5 h1
      · omega
  refine ⟨(ht.mono fun k _ hk => ?_).trans' ht2 fun k _ hk => ?_, h.at', ?_, hr, fun k hk => ⟨?_, hk.1⟩, ⟨⟨by omega, .inl m1⟩, ⟨by omega, .inl m2⟩, ⟨by omega, .inl m3⟩, ⟨by omega, ?_⟩, ⟨by omega, .inl m5⟩, ⟨by show p.bv < _; omega, .inl m6⟩, ⟨hbm, ?_⟩⟩, fun k hk => ⟨by have := hS'w k hk; omega, ?_⟩, fun k hk => ?_, fun k hk => ?_, fun hs => ?_, fun hs => ?_, fun hs => ?_⟩
  · rcases hk with rfl | rfl | rfl <;> assumption
  · rcases hk with rfl | rfl | rfl
    · rw [hg]; exact m5
    · exact m6
    · exact m7
  · refine he.tch ht2 fun k hk => key k ?_
    rw [hg] at hk
    exact hk
  · rcases hk.2 with h1 | h1
    · exact (h.dom k h1).1
    · omega
  · rcases hb with rfl | hb
    · exact .inl m4
    · exact .inr hb
  · rcases hm with hm | hm
    · exact .inl (by show D bm; rw [hm]; exact m7)
    · exact .inr (by show _ ≤ bm; omega)
  · rcases hS k hk with h1 | h1
    · exact .inl (h.sub k h1)
    · exact .inr h1
  · have hlt := hr.lt k hk
    rcases hS2 k hk with h1 | h1
    · rcases h.sub2 k h1 with h2 | h2
      · exact .inl ⟨hlt, .inl h2⟩
      · exact .inr h2
    · exact .inl ⟨hlt, .inr (by omega)⟩
  · rcases hk with hk | hk | hk
    · exact key k (.inl hk)
    · exact key k (.inr (.inl hk))
    · rcases hm with hm | hm
      · exact key k (.inr (.inr (hk.trans hm)))
      · have hk : k = bm := hk
        refine ⟨by omega, by omega, by omega, by omega, fun hs => ?_⟩
        have := hS'w k hs
        omega
  · rcases hS2 _ hs with h1 | h1
    · exact a1 h1
    · omega
  · rcases hS2 _ hs with h1 | h1
    · exact a2 h1
    · omega
  · rcases hS2 _ hs with h1 | h1
    · rcases hb with hb | hb
      · exact a3 (hb ▸ h1)
      · have := h.ref.lt _ h1
        omega
    · omega
end
end Go.Proofs.YtkeaoejgboefbaaDoor

/- Slices that the call builds, of elements that may point to other blocks of the call. For any program. -/
namespace Go.Proofs.YtkeaoejgboefbaaDoor
open Go.RowKit

/-- The blocks from base on that are there, but for the row of v. -/
def Bl (w : World) (base : Nat) (v : Value) : Nat → Prop := fun k => base ≤ k ∧ k < w.heap.size ∧ v.ownBlock ≠ some k
/-- The blocks that have come since w. -/
def New (w w' : World) : Nat → Prop := fun k => w.heap.size ≤ k ∧ k < w'.heap.size
/-- The slice v of n elements holds l, in a row of the call's own; what the elements point to lies in blocks from base on. -/
def OwnF {α : Type} (r : Rep α) (w : World) (base : Nat) (e : TypeId) (v : Value) (n : Nat) (l : List α) : Prop :=
  n = l.length ∧ ∃ xs, OwnAt w base e r.size v n xs ∧ Flat r w (Bl w base v) l xs
section
variable {α : Type} {r : Rep α} {w w' : World} {base n : Nat} {e : TypeId} {v : Value} {l : List α}
theorem OwnF.nil (r : Rep α) (w : World) (base : Nat) (e : TypeId) : OwnF r w base e (.slice none 0 0) 0 [] := ⟨rfl, [], OwnAt.nil _ _ _ _, rfl⟩
/-- Blocks below base are written, and new ones are made. -/
theorem OwnF.below (h : OwnF r w base e v n l) (hs : w.heap.size ≤ w'.heap.size) (hk : ∀ k, base ≤ k → k < w.heap.size → w'.heap[k]? = w.heap[k]?) : OwnF r w' base e v n l := by
  obtain ⟨hn, xs, ho, hf⟩ := h
  have hlow : ∀ g, v.ownBlock = some g → base ≤ g := by
    intro g hg
    obtain ⟨_, ⟨rfl, _⟩ | ⟨g', off, cap, cur, rfl, hb, _⟩⟩ := ho
    · simp [Value.ownBlock] at hg
    · simp [Value.ownBlock] at hg; omega
  exact ⟨hn, xs, ho.keep fun g hg hlt => hk g (hlow g hg) hlt, hf.keep (fun k hk => ⟨hk.1, Nat.lt_of_lt_of_le hk.2.1 hs, hk.2.2⟩) fun k hk' => hk k hk'.1 hk'.2.1⟩
theorem OwnF.ext (h : OwnF r w base e v n l) (he : Ext w w') : OwnF r w' base e v n l := h.below he.size fun k _ hk => he.block k hk
theorem OwnF.grownLow (h : OwnF r w base e v n l) {b : Nat} (hg : w.grownBy w' (some b)) (hb : b < base) : OwnF r w' base e v n l :=
  h.below hg.size fun k hk1 hk2 => hg.block k hk2 fun e => by have := Option.some.inj e; omega
/-- A row of a slice that was begun later is written. -/
theorem OwnF.grownHigh (h : OwnF r w base e v n l) {b : Nat} (hg : w.grownBy w' (some b)) (hb : w.heap.size ≤ b) : OwnF r w' base e v n l :=
  h.below hg.size fun k _ hk2 => hg.block k hk2 fun e => by have := Option.some.inj e; omega
theorem OwnF.form (h : OwnF r w base e v n l) : ∃ A c, v = .slice A n c ∧ n ≤ c ∧ c ≤ 9223372036854775807 := by
  obtain ⟨hn, xs, ⟨_, ⟨rfl, rfl⟩ | ⟨g, off, cap, cur, rfl, _, _, h1, h2, _⟩⟩, hf⟩ := h
  · exact ⟨none, 0, rfl, Nat.le_refl _, by decide⟩
  · exact ⟨_, cap, rfl, h1, h2⟩
/-- Its cells, in blocks from base on. -/
theorem OwnF.slice (h : OwnF r w base e v n l) : ∃ A c, v = .slice A n c ∧ SliceAt r w (fun k => base ≤ k ∧ k < w.heap.size) A c l := by
  obtain ⟨hn, xs, ho, hf⟩ := h
  have hf' : Flat r w (fun k => base ≤ k ∧ k < w.heap.size) l xs := hf.keep (fun k hk => ⟨hk.1, hk.2.1⟩) fun _ _ => rfl
  rcases Nat.eq_zero_or_pos n with h0 | h0
  · have hl : l = [] := List.eq_nil_of_length_eq_zero (by omega)
    subst hl
    obtain ⟨_, ⟨rfl, _⟩ | ⟨g, off, cap, cur, rfl, _, _, h1, h2, _⟩⟩ := ho
    · exact ⟨none, 0, by rw [h0], SliceAt.nil _ _ _ _ _ (by decide)⟩
    · exact ⟨_, cap, rfl, SliceAt.nil _ _ _ _ _ h2⟩
  · obtain ⟨g, off, cap, rfl, hb, hlt, hnc, hcap, hc⟩ := ho.cells h0
    exact ⟨_, cap, rfl, by omega, hcap, fun _ => ⟨g, off, rfl, ⟨hb, hlt⟩, hf'.row hc⟩⟩
/-- One element more, behind an append. -/
theorem OwnF.push {xs us : List Value} {v' : Value} {a : α} (hn : n = l.length) (hf : Flat r w (Bl w base v) l xs) (ha : r.is w (Bl w base v) a us)
    (ho : OwnAt w' base e r.size v' (n + 1) (xs ++ us)) (hg : w.grownBy w' v.ownBlock) (hv : v'.ownBlock = v.ownBlock ∨ ∃ g, v'.ownBlock = some g ∧ w.heap.size ≤ g ∧ g < w'.heap.size) : OwnF r w' base e v' (n + 1) (l ++ [a]) := by
  refine ⟨by simp [hn], xs ++ us, ho, ?_⟩
  have hs : ∀ k, Bl w base v k → Bl w' base v' k := by
    rintro k ⟨h1, h2, h3⟩
    refine ⟨h1, Nat.lt_of_lt_of_le h2 hg.size, ?_⟩
    rcases hv with hv | ⟨g, hv, h4, _⟩
    · rw [hv]; exact h3
    · rw [hv]
      intro e
      have := Option.some.inj e
      omega
  have hk : ∀ k, Bl w base v k → w'.heap[k]? = w.heap[k]? := fun k hk => hg.block k hk.2.1 fun e => hk.2.2 e.symm
  exact Flat.append (Flat.one (r.keep ha hs hk)) (hf.keep hs hk)
end
theorem SliceAt.sub {α : Type} {r : Rep α} {w : World} {B B' : Nat → Prop} {A : Option Addr} {c : Nat} {l : List α} (h : SliceAt r w B A c l) (hB : ∀ k, B k → B' k) : SliceAt r w B' A c l := h.keep hB fun _ _ => rfl
theorem SliceAt.grown {α : Type} {r : Rep α} {w w' : World} {b : Nat} {A : Option Addr} {c : Nat} {l : List α} (h : SliceAt r w (fun k => k < w.heap.size ∧ k ≠ b) A c l) (hg : w.grownBy w' (some b)) : SliceAt r w' (fun k => k < w'.heap.size ∧ k ≠ b) A c l :=
  h.keep (fun _ hk => ⟨Nat.lt_of_lt_of_le hk.1 hg.size, hk.2⟩) fun k hk => hg.block k hk.1 fun e => hk.2 (Option.some.inj e)


end Go.Proofs.YtkeaoejgboefbaaDoor

/- licitlaw56.cp: a copy of cells. -/
namespace Go.Proofs.YtkeaoejgboefbaaDoor
open Go.RowKit Go.Maps

theorem cell_info : (Tryd.prog.info? 32).map (fun i => (i.zero, i.size, i.bytes)) = some (some (.agg #[.string ⟨#[]⟩, .int .i64 0, .slice none 0 0, .string ⟨#[]⟩]), 4, 64) := by kernel_rfl
theorem one_cells (a : ByteArray) (b : Int) (c : Option Addr) (d e : Nat) (f : ByteArray) : ∀ u ∈ [Value.string a, .int .i64 b, .slice c d e, .string f], u.oneCell' = true := by
  intro u hu
  simp only [List.mem_cons, List.not_mem_nil, or_false] at hu
  rcases hu with rfl | rfl | rfl | rfl <;> rfl
/-- What cp answers: a slice of its own. -/
def RetOwn (w : World) (cs : List E.Cell) (e : Ending) (w' : World) : Prop := ∃ v, e = .returned v ∧ OwnF cellR w' w.heap.size 32 v cs.length cs ∧ Ext w w'
/-- What cp answers. -/
def RetCells (w : World) (cs : List E.Cell) (e : Ending) (w' : World) : Prop := ∃ A k n, n = cs.length ∧ e = .returned (.slice A n k) ∧ SliceAt cellR w' (Old w') A k cs ∧ Ext w w'
set_option maxRecDepth 100000 in
set_option maxHeartbeats 2000000 in
theorem cp_own {w : World} {A : Option Addr} {k n : Nat} {cs : List E.Cell} (hA : SliceAt cellR w (Old w) A k cs) (hn : n = cs.length) (harg : ∀ c ∈ cs, c.2.2.1.length ≤ 1000) (hl : n ≤ 1000000) :
    Calls Tryd.prog 15 #[.slice A n k] w (RetOwn w cs) := by
  have HA := Lib.hid hA
  have HN := Lib.hid hn
  have HAR := Lib.hid harg
  clear hA hn harg
  go_enter Tryd.func15, Tryd.ntmps15
  go_wp2_with fail
  go_loopw [3, 5, 8] (fun v _ i wr => ∃ (j : Nat), i = .int .i64 j ∧ j ≤ n ∧ Hid (OwnF cellR wr w.heap.size 32 v j (cs.take j)) ∧ Hid (Ext w wr)) (fun _ _ i _ => n - (intOf i).toNat)
  case atStart => exact ⟨0, rfl, Nat.zero_le _, OwnF.nil _ _ _ _, Ext.refl _⟩
  case round =>
    obtain ⟨j, rfl, hj, HO, HX⟩ := hrel
    by_cases hlt : j < n
    · have hjl : j < cs.length := by have := HN.out; omega
      obtain ⟨b, off, A2, k2, hAe, hbb, d0, d1, d2, d3, z1, z2, z3, z4⟩ := cell_get (HA.out.ext HX.out) hjl
      subst hAe
      have HTK : Hid (cs.take (j + 1) = cs.take j ++ [cs[j]]) := Lib.hid (List.take_succ_eq_append_getElem hjl)
      have hag : cs[j].2.2.1.length ≤ 1000 := HAR.out _ (List.getElem_mem hjl)
      generalize cs[j] = c at *
      obtain ⟨nm, op, ar, tx⟩ := c
      simp only at d0 d1 d2 d3 z1 z2 z3 z4 hag
      obtain ⟨W2, hW2⟩ : ∃ W2, W2 = wr.alloc (.cells #[.string nm, .int .i64 op, .slice A2 ar.length k2, .string tx] 32) := ⟨_, rfl⟩
      have X2 : Ext wr W2 := by rw [hW2]; exact (Ext.refl wr).alloc _
      have K2 : Hid (W2.heap[wr.heap.size]? = some (.cells #[.string nm, .int .i64 op, .slice A2 ar.length k2, .string tx] 32 (0, 0))) := Lib.hid (by rw [hW2]; exact heap_alloc_new wr _)
      have p2 : W2.cell? ⟨wr.heap.size, 2, none⟩ = some (.slice A2 ar.length k2) := by rw [new_off K2.out]; rfl
      have HCL := Lib.hid (CloneStr (z3.ext X2) rfl hag)
      have HX2 := Lib.hid X2
      have HZ := Lib.hid (And.intro z1 (And.intro z2 z4))
      go_upto_region 5 with (fail)
      rw [← hW2]
      clear hW2 X2 d0 d1 d2 d3 z1 z2 z3 z4
      go_wp2_with fail
      refine HCL.out.mono ?_
      rintro ed w6 ⟨A6, k6, rfl, hs6, d6⟩
      have K6 := Lib.hid ((d6.block _ (Array.getElem?_eq_some_iff.1 K2.out).1).trans K2.out)
      have p6 : w6.cell? ⟨wr.heap.size, 2, none⟩ = some (.slice A2 ar.length k2) := by rw [new_off K6.out]; rfl
      have fr := Lib.frozen_of_heap K6.out 2
      have HS6 := Lib.hid hs6
      have HX6 := Lib.hid (HX2.out.trans d6)
      clear d6 hs6 p2
      go_upto_region 6 with (fail)
      obtain ⟨W7, hW7⟩ : ∃ W7, W7 = w6.setCell ⟨wr.heap.size, 2, none⟩ (.slice A6 ar.length k6) := ⟨_, rfl⟩
      rw [← hW7]
      have X7 : Ext wr W7 := by rw [hW7]; exact HX6.out.setCell (p := ⟨wr.heap.size, 2, none⟩) (Nat.le_refl _) _
      have T7 : Tch (fun k => k = wr.heap.size) w6 W7 := by rw [hW7]; exact (Tch.refl (fun k => k = wr.heap.size) w6).setCell (p := ⟨wr.heap.size, 2, none⟩) (fun _ => rfl) _
      have K7 : W7.heap[wr.heap.size]? = some (.cells #[.string nm, .int .i64 op, .slice A6 ar.length k6, .string tx] 32 (0, 0)) := by rw [hW7]; exact heap_setCell_cells K6.out 2 _
      have q0 : W7.cell? ⟨wr.heap.size, 0, none⟩ = some (.string nm) := by rw [new_off K7]; rfl
      have q1 : W7.cell? ⟨wr.heap.size, 1, none⟩ = some (.int .i64 op) := by rw [new_off K7]; rfl
      have q2 : W7.cell? ⟨wr.heap.size, 2, none⟩ = some (.slice A6 ar.length k6) := by rw [new_off K7]; rfl
      have q3 : W7.cell? ⟨wr.heap.size, 3, none⟩ = some (.string tx) := by rw [new_off K7]; rfl
      have HS7 : Hid (SliceAt strR W7 (fun b => wr.heap.size < b ∧ b < W7.heap.size) A6 k6 ar) := Lib.hid (HS6.out.keep (fun k hk => ⟨Nat.lt_of_lt_of_le (Array.getElem?_eq_some_iff.1 K2.out).1 hk.1, Nat.lt_of_lt_of_le hk.2 T7.size⟩) fun k hk => T7.block k hk.2 (by have := (Array.getElem?_eq_some_iff.1 K2.out).1; have := hk.1; omega))
      have HX7 := Lib.hid X7
      have HO7 := Lib.hid (HO.out.ext X7)
      clear hW7 X7 T7 K7 p6 fr
      obtain ⟨i0, hi, hz0, hz1, hz2⟩ := info_parts cell_info
      obtain ⟨hjn, xs, hown, hflat⟩ := HO7.out
      have HJN := Lib.hid hjn
      have HOW := Lib.hid hown
      have HFL := Lib.hid hflat
      have HLW : Hid (∀ g, u3.ownBlock = some g → g < wr.heap.size) := Lib.hid fun g hg => by
        obtain ⟨_, xs', ho', _⟩ := HO.out
        exact own_at_lt ho' hg
      have hbs : w.heap.size ≤ W7.heap.size := (HX.out.trans HX7.out).size
      clear hown hflat hjn
      go_wp2_with (at_builtin; refine wpList_append_ownAt _ rfl (.tmp 16) (.tmp 18) 22 rfl w.heap.size 32 i0 _ 4 64 Tryd.underlying22 hi hz0 hz1 hz2 rfl (by decide) _ _ _ rfl (HOW.out.alloc _) ⟨_, 0, none⟩ 1 1 [.string nm, .int .i64 op, .slice A6 ar.length k6, .string tx] rfl rfl ?_ ?_ (by unfold maxLen; omega) (by omega) (by rw [size_alloc']; omega) (by decide) ?_)
      · intro i u hi'
        rw [Addr.add_lit, Nat.zero_add, cell_new, ← hi', List.getElem?_toArray]
      · exact one_cells nm op A6 ar.length k6 tx
      · intro v' w8 ho hg _ hf
        have hXA : Ext W7 (W7.alloc (.cells #[.string nm, .int .i64 op, .slice A6 ar.length k6, .string tx] 32)) := (Ext.refl _).alloc _
        have hBl : ∀ k, Bl W7 w.heap.size u3 k → Bl (W7.alloc (.cells #[.string nm, .int .i64 op, .slice A6 ar.length k6, .string tx] 32)) w.heap.size u3 k := fun k hk => ⟨hk.1, Nat.lt_of_lt_of_le hk.2.1 hXA.size, hk.2.2⟩
        have hO8 := OwnF.push (r := cellR) (a := (nm, op, ar, tx)) HJN.out (HFL.out.keep hBl fun k hk => hXA.block k hk.2.1) ⟨[.string nm], _, rfl, ⟨rfl, HZ.out.1⟩, [.int .i64 op], _, rfl, ⟨rfl, HZ.out.2.1⟩, [.slice A6 ar.length k6], _, rfl, ⟨A6, k6, rfl, (HS7.out.keep (fun k hk => hBl k ⟨by have := HX.out.size; omega, hk.2, fun e => by have := HLW.out k e; omega⟩) fun k hk => hXA.block k hk.2)⟩, ⟨rfl, HZ.out.2.2⟩⟩ ho hg (by rcases hf with h | ⟨t, h1, h2, h3⟩; exact .inl h; exact .inr ⟨t, h1, by rw [size_alloc']; exact h2, h3⟩)
        have HO9 : Hid (OwnF cellR w8 w.heap.size 32 v' (j + 1) (cs.take (j + 1))) := Lib.hid (by rw [HTK.out]; exact hO8)
        have HX9 : Hid (Ext w w8) := Lib.hid (((HX.out.trans HX7.out).trans hXA).grown HOW.out hg)
        clear hO8 hBl hXA ho hg hf hi hz0 hz1 hz2
        go_wp2_with fail
        go_roundw
        case rel => exact ⟨j + 1, by go_num, by omega, HO9, HX9⟩
        case measure => simp [intOf]; omega
    · have hjn : j = n := by omega
      have htk : cs.take j = cs := List.take_of_length_le (by have := HN.out; omega)
      rw [htk] at HO
      have HJ := Lib.hid (show j = cs.length by have := HN.out; omega)
      subst hjn
      clear htk
      go_wp2_with fail
      go_ret
      exact ⟨_, rfl, by have := HO.out; rw [HJ.out] at this; exact this, HX.out⟩
theorem cp_any {w : World} {A : Option Addr} {k n : Nat} {cs : List E.Cell} (hA : SliceAt cellR w (Old w) A k cs) (hn : n = cs.length) (harg : ∀ c ∈ cs, c.2.2.1.length ≤ 1000) (hl : n ≤ 1000000) :
    Calls Tryd.prog 15 #[.slice A n k] w (RetCells w cs) := by
  refine (cp_own hA hn harg hl).mono ?_
  rintro e w' ⟨v, rfl, ho, hx⟩
  obtain ⟨A', k', rfl, hs⟩ := ho.slice
  exact ⟨A', k', _, rfl, rfl, hs.sub fun k hk => hk.2, hx⟩
end Go.Proofs.YtkeaoejgboefbaaDoor
