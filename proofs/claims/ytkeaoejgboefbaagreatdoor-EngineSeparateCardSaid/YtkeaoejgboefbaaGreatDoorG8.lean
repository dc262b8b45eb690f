/- The texts Ia Ib Ic Id Kc Cod Ja Jb Jd of the seat, joined. -/
import Derived.Test.YtkeaoejgboefbaaGreatDoorG7
import Derived.Shelf.SlMaps.Clone
import Derived.Lib.ItoaNum
import Derived.IntWalk
import Derived.Lib.ConvBytes
import Derived.RegionTactic
import Derived.BigRegion
import Derived.Deep.RegionWith
import Derived.Lib.IndexMore
/- run.get, as the plain law says. -/
namespace Go.Proofs.YtkeaoejgboefbaaGreatDoor
open Go.RowKit Go.Maps

theorem get_any {g bc bi br rb ob C : Nat} {e : E.En} (hform : ∀ c ∈ e.cells, E.formedB c = true) (hvals : ∀ n s, e.vals n = some s → s.size ≤ 65536) (hC : C ≤ 4000000000000000000) (hfew : e.cells.length ≤ 1000) (hrev : e.rev < 4000000000000000000) :
    ∀ (k : Nat) (opn : List ByteArray), E.rem (E.names e) opn < k → k + opn.length ≤ 2000 → GetIs g bc bi br rb ob C e opn (E.val (E.findC e.cells) e.vals e.rev E.form k opn) := by
  intro k
  induction k with
  | zero => intro opn hk; exact absurd hk (Nat.not_lt_zero _)
  | succ k ih =>
    intro opn hk hb w S st hL n hn
    have key : Calls Tryz.prog 36 #[.pointer (some ⟨rb, 0, none⟩), .string n] w (RetO w S g bc bi br rb ob e opn (E.val (E.findC e.cells) e.vals e.rev E.form (k + 1) opn st n)) := by
      rw [E.val]
      cases hc : E.findC e.cells n with
      | none => exact get_none hL hn hc
      | some c =>
        obtain ⟨hcm, hcn⟩ := E.findC_some hc
        simp only
        cases hi : E.isIn c with
        | true =>
          rw [if_pos rfl]
          refine get_input hL hn hc hi rfl ?_
          cases hv : e.vals n with
          | none => exact Nat.zero_le _
          | some s => exact hvals n s hv
        | false =>
          rw [if_neg Bool.false_ne_true]
          cases ho : E.has opn n with
          | true => rw [if_pos rfl]; exact get_loop hL hn hc hi ho
          | false =>
            rw [if_neg Bool.false_ne_true]
            have hno : n ∉ opn := fun h => by rw [E.has_iff.2 h] at ho; cases ho
            have hr := E.rem_cons hno (E.holds_names e n c hc hi)
            have hget := ih (n :: opn) (by omega) (by rw [List.length_cons]; omega)
            cases hm : st.ms n with
            | none =>
              exact get_new hL hn hc hi ho (by omega) hm fun W A k' hW hs => compute_any hget hW hcn (hform c hcm) hi hn hs hC hfew hrev
            | some m =>
              simp only
              by_cases hat : m.at' = e.rev
              · rw [if_pos hat]
                exact get_kept hL hn hc hi ho hm hat
              · rw [if_neg hat]
                have := get_old hL hn hc (hform c hcm) hi ho (by omega) hm hat hget hC hfew hrev
                refine this.mono ?_
                intro ed w' h
                cases hq : E.staleP (E.val (E.findC e.cells) e.vals e.rev E.form k (n :: opn)) m.reads st with
                | error x => rw [hq] at h; exact h
                | ok p =>
                  obtain ⟨b, st'⟩ := p
                  rw [hq] at h
                  cases b <;> exact h
    exact key.mono fun ed w' h => h.toG (E.holds_names e) hk hL
end Go.Proofs.YtkeaoejgboefbaaGreatDoor

/- maps.Clone; what Engine.Get needs. -/
namespace Go.Proofs.YtkeaoejgboefbaaGreatDoor
open Go.RowKit Go.Maps

set_option maxRecDepth 100000 in
set_option maxHeartbeats 2000000 in
theorem clone_map {w : World} {b : Nat} {f : FnV} (h : MapF Tryz.prog w b f) : Calls Tryz.prog 35 #[.map (some b)] w fun e w' => e = .returned (.map (some w.heap.size)) ∧ MapF Tryz.prog w' w.heap.size f ∧ Ext w w' ∧ w'.heap.size = w.heap.size + 1 := by
  obtain ⟨D, n, ⟨es, clock, hb, F, hs, hD⟩, h2, h3⟩ := h
  have key : Calls Tryz.prog 35 #[.map (some b)] w fun e w' => e = .returned (.map (some w.heap.size)) ∧ w' = w.alloc (.map es clock) := by
    have hq := fun w => run_eql_map_nil_sl (P := Tryz.prog) w 77 _ _ (some b) Tryz.underlying77
    go_enter Tryz.func35, Tryz.ntmps35
    go_wp2
    rw [run_callFunc_extern Tryz.func51 (by kernel_rfl) (by kernel_rfl) (by kernel_rfl) (e := Extern.MapsClone.clone) (by kernel_rfl), run_maps_clone_sl w 77 hb]
    simp only [Result.andThen]
    rw [Oper.upon_value]
    go_wp2
    rw [run_typeAssert_map_sl _ 77 20 _ _ _ Tryz.underlying77]
    simp only [Result.andThen]
    rw [Oper.upon_value]
    go_wp2
    go_ret
    exact ⟨rfl, rfl⟩
  refine key.mono ?_
  rintro e w' ⟨rfl, rfl⟩
  exact ⟨rfl, ⟨D, n, ⟨es, clock, (MapKept.heap_alloc w _).1, F, hs, hD⟩, h2, h3⟩, (Ext.refl w).alloc _, by simp⟩

/-- What Get answers. -/
def RetGet (w : World) (S : Nat → Prop) (g bc bi br : Nat) (r : E.V × Int × E.En) (ed : Ending) (w' : World) : Prop :=
  ed = .returned (.tuple #[.string (r.1.getD ⟨#[]⟩), .bool r.1.isSome, .int .i64 r.2.1]) ∧ (r.1.getD ⟨#[]⟩).size ≤ 65536 ∧ Tch (fun k => k = g ∨ k = br) w w' ∧ ∃ S' br', EngAt w' S' g bc bi br' r.2.2 ∧ (∀ k, S' k → S k ∨ w.heap.size ≤ k) ∧ (br' = br ∨ w.heap.size ≤ br')
/-- The run is made. -/
theorem Live.start {w w' : World} {S : Nat → Prop} {g bc bi br ob rb : Nat} {e : E.En} (h : EngAt w S g bc bi br e) (hg : Gl w) (ho : ¬ Lib0 g ∧ ¬ Lib0 br) (he : Ext w w') (hob : w.heap.size ≤ ob) (hrb : w.heap.size ≤ rb) (hne : rb ≠ ob) (hm : MapF Tryz.prog w' ob fun _ => none) (hr : RunRow w' rb g ob 0) (hi : E.OkE e) :
    Live w' S g bc bi br rb ob e.st.cnt { e with st := e.st } [] := by
  have l1 := h.row.lt
  obtain ⟨f1, h1, _⟩ := h.cells
  obtain ⟨f2, h2, _⟩ := h.results
  have l2 := h1.lt
  have l3 := h2.lt
  have l4 := h.inputs.lt
  have l5 := h.lt
  obtain ⟨U, hU⟩ := hi
  exact ⟨h.ext he, hr, hm.congr fun x => rfl, ⟨by omega, by omega, by omega, by omega, fun hs => by have := l5 _ hs; omega, by omega, by omega, by omega, by omega, fun hs => by have := l5 _ hs; omega, hne⟩, hg.ext he, fun k hk => by
    rcases hk with rfl | rfl | rfl | rfl
    · exact ho.1
    · exact ho.2
    · exact hg.off hrb
    · exact hg.off hob, U, hU, Nat.le_add_right _ _⟩
set_option maxRecDepth 100000 in
set_option maxHeartbeats 4000000 in
theorem Get_any {w : World} {S : Nat → Prop} {g bc bi br : Nat} {e : E.En} (hE : EngAt w S g bc bi br e) (hg : Gl w) (ho : ¬ Lib0 g ∧ ¬ Lib0 br) (hi : E.OkE e) (hform : ∀ c ∈ e.cells, E.formedB c = true) (hvals : ∀ n s, e.vals n = some s → s.size ≤ 65536) (hC : e.st.cnt ≤ 4000000000000000000) (hfew : e.cells.length ≤ 1000) (hrev : e.rev < 4000000000000000000)
    {n : ByteArray} (hn : n.size ≤ 9223372036854775807) : Calls Tryz.prog 16 #[.pointer (some ⟨g, 0, none⟩), .string n] w (RetGet w S g bc bi br (E.getE e n)) := by
  obtain ⟨R, hR⟩ : ∃ R, R = E.getE e n := ⟨_, rfl⟩
  rw [← hR]
  have HR := Lib.hid hR
  obtain ⟨f, hmc, hci⟩ := hE.cells
  have a0 := hE.row.c0
  have hl := hmc.look Tryz.underlying9 Tryz.underlying76 (zv32 w) hn
  have h2 := hci n
  cases hc : E.findC e.cells n with
  | none =>
    have HE : Hid (R = (none, 7, e)) := Lib.hid (by rw [HR.out]; unfold E.getE; rw [hc])
    rw [hc] at h2
    have h2 : f n = none := h2
    rw [h2] at hl
    replace hl : (Instr.lookup 76 (.map (some bc)) (.string n) true).run Tryz.prog w = .ok (.tuple #[.agg #[.string ⟨#[]⟩, .int .i64 0, .slice none 0 0, .string ⟨#[]⟩], .bool false]) w := hl
    have HEE := Lib.hid hE
    clear hc h2 hR HR hE hmc hci
    go_enter Tryz.func16, Tryz.ntmps16
    go_wp2_with fail
    go_ret3
    refine ⟨by rw [HE.out]; rfl, by rw [HE.out]; exact Nat.zero_le _, ((Ext.refl w).alloc _).tch _, S, br, by rw [HE.out]; exact HEE.out.ext ((Ext.refl w).alloc _), fun k hk => .inl hk, .inl rfl⟩
  | some c =>
    rw [hc] at h2
    obtain ⟨hcn, hc1, hc2, hc3, A, k, hfn, hc4⟩ := h2
    clear hcn hc1 hc2 hc3 hc4
    rw [hfn] at hl
    replace hl : (Instr.lookup 76 (.map (some bc)) (.string n) true).run Tryz.prog w = .ok (.tuple #[.agg #[.string c.1, .int .i64 c.2.1, .slice A c.2.2.1.length k, .string c.2.2.2], .bool true]) w := hl
    have HE : Hid (R = match E.val (E.findC e.cells) e.vals e.rev E.form (E.fuel e) [] e.st n with
      | .error x => (none, x, e)
      | .ok (v, S) => (v, 0, { e with st := S })) := Lib.hid (by rw [HR.out]; unfold E.getE; rw [hc]; rfl)
    obtain ⟨fm, hmr, hms⟩ := hE.results
    have HMR := Lib.hid hmr
    have HMS := Lib.hid hms
    clear hmr hms
    have HEE := Lib.hid hE
    have HGL := Lib.hid hg
    have HOF := Lib.hid ho
    have HOK := Lib.hid hi
    have HGA := Lib.hid (fun rb ob => get_any (g := g) (bc := bc) (bi := bi) (br := br) (rb := rb) (ob := ob) hform hvals hC hfew hrev (E.fuel e) [] (E.fuel_ok e) (by unfold E.fuel; rw [List.length_nil]; omega))
    clear hR HR hE hmc hci hfn hc hg ho hi
    obtain ⟨W1, hW1⟩ : ∃ W1, W1 = w.alloc (.cells #[.string c.1, .int .i64 c.2.1, .slice A c.2.2.1.length k, .string c.2.2.2] 50) := ⟨_, rfl⟩
    have X1 : Ext w W1 := by rw [hW1]; exact (Ext.refl w).alloc _
    have HS1 : Hid (W1.heap.size = w.heap.size + 1) := Lib.hid (by rw [hW1]; simp)
    have HX1 := Lib.hid X1
    clear X1
    go_enter Tryz.func16, Tryz.ntmps16
    go_upto_region 4 with (fail)
    rw [← hW1]
    clear hW1 a0 hl
    have HE1 := Lib.hid (HEE.out.ext HX1.out)
    obtain ⟨Φ, hΦ⟩ : ∃ Φ : World → Prop, ∀ w', Φ w' ↔ (w'.cell? ⟨g, 2, none⟩ = some (.map (some br)) ∧ w'.cell? ⟨g, 4, none⟩ = some (.int .i64 e.st.cnt)) := ⟨_, fun _ => Iff.rfl⟩
    have h0 : Φ W1.drew := (hΦ _).2 ⟨HE1.out.row.c2, HE1.out.row.c4⟩
    have fx0 : ∀ x : Lat Φ, x.w'.cell? ⟨g, 2, none⟩ = some (.map (some br)) := fun x => ((hΦ _).1 x.h).1
    have fx1 : ∀ x : Lat Φ, x.w'.cell? ⟨g, 4, none⟩ = some (.int .i64 e.st.cnt) := fun x => ((hΦ _).1 x.h).2
    have hne1 := Lat.some h0
    have HΦ := Lib.hid hΦ
    clear hΦ
    refine wp_region_lat [4] Φ h0 (by kernel_rfl) (by kernel_rfl) (by kernel_rfl) ?_
    iterate 4 (refine lex_pure rfl rfl rfl ?_; intro K hK; go_big_quiet_op; go_big_quiet_on)
    refine lex_eff rfl ?_
    go_wp2_with fail
    refine (clone_map (HMR.out.ext (HX1.out.trans (Ext.refl W1).drew))).mono ?_
    rintro ed w2 ⟨rfl, hm2, x2, hs2⟩
    have HX2 := Lib.hid (HX1.out.trans ((Ext.refl W1).drew.trans x2))
    have HMC : Hid (MapF Tryz.prog w2 (w.heap.size + 1) fm) := Lib.hid (by have h1 : W1.drew.heap.size = w.heap.size + 1 := HS1.out; rw [← h1]; exact hm2)
    have HS2 : Hid (w2.heap.size = w.heap.size + 2) := Lib.hid (by rw [hs2]; have h1 : W1.drew.heap.size = w.heap.size + 1 := HS1.out; omega)
    have hΦ2 : Φ w2 := (HΦ.out _).2 ⟨(HEE.out.ext HX2.out).row.c2, (HEE.out.ext HX2.out).row.c4⟩
    have HP2 := Lib.hid hΦ2
    go_wp2_with fail
    refine ⟨⟨⟨w2, HP2.out⟩, rfl⟩, ?_⟩
    iterate 6 (refine lex_pure rfl rfl rfl ?_; intro K hK; go_big_quiet_op; go_big_quiet_on)
    refine lex_nil ?_
    clear fx0 fx1 hne1 h0 hΦ2 x2 hm2 hs2
    have hmm := @run_makeMap Tryz.prog
    obtain ⟨W3, hW3⟩ : ∃ W3, W3 = (w2.alloc (.map #[] 0)).alloc (.cells #[.pointer (some ⟨g, 0, none⟩), .map (some w2.heap.size), .int .i64 0] 93) := ⟨_, rfl⟩
    have X3 : Ext w2 W3 := by rw [hW3]; exact ((Ext.refl w2).alloc _).alloc _
    have hs2 := HS2.out
    have HL3 : Hid (Live W3 S g bc bi br (w2.heap.size + 1) w2.heap.size e.st.cnt { e with st := e.st } []) := Lib.hid (Live.start HEE.out HGL.out HOF.out (HX2.out.trans X3) (by omega) (by omega) (by omega) (by rw [hW3]; exact (MapF.made w2).ext ((Ext.refl _).alloc _)) (by
      rw [hW3]
      have := heap_alloc_new (w2.alloc (.map #[] 0)) (.cells #[.pointer (some ⟨g, 0, none⟩), .map (some w2.heap.size), .int .i64 0] 93)
      rw [size_alloc'] at this
      exact ⟨this⟩) HOK.out)
    have HX3 := Lib.hid (HX2.out.trans X3)
    have HMC3 := Lib.hid (HMC.out.ext X3)
    have HG3 := Lib.hid (HGA.out (w2.heap.size + 1) w2.heap.size W3 S e.st HL3.out n hn)
    clear X3 hs2
    go_upto_region 6 with (fail)
    rw [← hW3]
    clear hW3 hmm
    go_wp2_with fail
    refine HG3.out.mono ?_
    rintro ed w4 ⟨t4, hr⟩
    have l1 := HEE.out.row.lt
    obtain ⟨f1, m1, c1⟩ := HEE.out.cells
    have l2 := m1.lt
    have l3 := HMR.out.lt
    have l4 := HEE.out.inputs.lt
    have l5 := HEE.out.lt
    have hs2 := HS2.out
    have HT4 : Hid (Tch (fun k => k = g ∨ k = br) w w4) := Lib.hid ((HX3.out.tch _).trans' t4 fun i hi h => by
      rcases h with rfl | rfl | rfl | rfl
      · exact .inl rfl
      · exact .inr rfl
      · omega
      · omega)
    have HLO := Lib.hid (And.intro l1 (And.intro l2 (And.intro l3 (And.intro l4 l5))))
    have HMC4 := Lib.hid (HMC3.out.tch t4 (by rintro (e | e | e | e) <;> omega))
    have HM1 := Lib.hid m1
    have HC1 := Lib.hid c1
    clear l1 l2 l3 l4 l5 hs2 m1 c1 t4
    cases hq : E.val (E.findC e.cells) e.vals e.rev E.form (E.fuel e) [] e.st n with
    | error x =>
      rw [hq] at hr HE
      obtain ⟨rfl, hx0, hd⟩ := hr
      replace HE : Hid (R = (none, x, e)) := HE
      rw [foundV_none]
      obtain ⟨W5, hW5⟩ : ∃ W5, W5 = w4.alloc (.cells #[.string ⟨#[]⟩, .bool false] 86) := ⟨_, rfl⟩
      have X5 : Ext w4 W5 := by rw [hW5]; exact (Ext.refl w4).alloc _
      have hd5 := hd.ext X5
      obtain ⟨cn, hrow⟩ := hd5.row
      have e2 := hd5.run.c2
      have hx1 : (x == 0) = false := by rw [beq_eq_false_iff_ne]; exact hx0
      have g2 := hrow.c2
      have g4 := hrow.c4
      have fg2 := hrow.frozen 2
      have fg4 := hrow.frozen 4
      have HD5 := Lib.hid hd5
      have HR5 := Lib.hid hrow
      have HX5 := Lib.hid X5
      clear hd hd5 hrow X5 hx0 hq
      go_upto_region 7 with (fail)
      rw [← hW5]
      clear hW5
      go_upto_region 9 with (fail)
      obtain ⟨W6, hW6⟩ : ∃ W6, W6 = (W5.setCell ⟨g, 2, none⟩ (.map (some W1.heap.size))).setCell ⟨g, 4, none⟩ (.int .i64 e.st.cnt) := ⟨_, rfl⟩
      rw [← hW6]
      have hs1 := HS1.out
      have T6 : Tch (fun k => k = g) W5 W6 := by rw [hW6]; exact ((Tch.refl (fun k => k = g) W5).setCell (p := ⟨g, 2, none⟩) (fun _ => rfl) _).setCell (p := ⟨g, 4, none⟩) (fun _ => rfl) _
      have hrow6 : Row W6 g bc bi (w.heap.size + 1) e.rev e.st.cnt := by rw [hW6, hs1]; exact (HR5.out.set2 (w.heap.size + 1)).set4 _
      obtain ⟨l1, l2, l3, l4, l5⟩ := HLO.out
      have T : Tch (fun k => k = g ∨ k = br) w W6 := (HT4.out.trans (HX5.out.tch _)).trans' T6 fun i hi e => .inl e
      obtain ⟨n1, n2, n3, n4, n5, n6⟩ := HEE.out.ne
      obtain ⟨o1, o2, o3, o4⟩ := HEE.out.out
      have hSx : ∀ k, S k → k < w.heap.size ∧ ¬ (k = g ∨ k = br) := fun k hk => ⟨l5 k hk, by rintro (rfl | rfl) <;> contradiction⟩
      have HE6 : Hid (EngAt W6 S g bc bi (w.heap.size + 1) e) := Lib.hid ⟨hrow6, ⟨n1, n2, by omega, n4, by omega, by omega⟩, ⟨o1, o2, o3, fun hs => by have := l5 _ hs; omega⟩, fun k hk => Nat.lt_of_lt_of_le (l5 k hk) T.size, ⟨f1, HM1.out.tch T (by rintro (e | e); exact n1 e.symm; exact n5 e), HC1.out.tch T hSx⟩, HEE.out.inputs.tch T (by rintro (e | e); exact n2 e.symm; exact n6 e), fm, (HMC4.out.ext HX5.out).tch T6 (by omega), HMS.out.tch T hSx⟩
      have e2' := (HD5.out.run.tch T6 (by have := HS2.out; omega)).c2
      have HT6 := Lib.hid T
      clear e2 g2 g4 fg2 fg4 hW6 hs1 T6 hrow6 l1 l2 l3 l4 l5 T n1 n2 n3 n4 n5 n6 o1 o2 o3 o4 hSx
      go_quiet (fail)
      go_wp2_with fail
      go_ret3
      refine ⟨by rw [HE.out]; rfl, by rw [HE.out]; exact Nat.zero_le _, HT6.out.trans (((Ext.refl W6).drewN _).tch _), S, w.heap.size + 1, by rw [HE.out]; exact HE6.out.ext ((Ext.refl W6).drewN _), fun k hk => .inl hk, .inr (Nat.le_succ _)⟩
    | ok p =>
      obtain ⟨v, st'⟩ := p
      rw [hq] at hr HE
      obtain ⟨rfl, hz, S', hl, _, hs2⟩ := hr
      replace HE : Hid (R = (v, 0, { e with st := st' })) := HE
      have hfv : foundV v = .agg #[.string (v.getD ⟨#[]⟩), .bool v.isSome] := rfl
      rw [hfv]
      generalize hva : v.getD ⟨#[]⟩ = va at *
      generalize hvb : v.isSome = vb at *
      have HVA := Lib.hid hva
      have HVB := Lib.hid hvb
      have HZ := Lib.hid hz
      clear hfv hva hvb hz hq
      obtain ⟨W5, hW5⟩ : ∃ W5, W5 = w4.alloc (.cells #[.string va, .bool vb] 86) := ⟨_, rfl⟩
      have X5 : Ext w4 W5 := by rw [hW5]; exact (Ext.refl w4).alloc _
      have K5 : W5.heap[w4.heap.size]? = some (.cells #[.string va, .bool vb] 86 (0, 0)) := by rw [hW5]; exact heap_alloc_new w4 _
      have HL5 := Lib.hid (hl.ext X5)
      have e2 := HL5.out.run.c2
      have d0 : W5.cell? ⟨w4.heap.size, 0, none⟩ = some (.string va) := by rw [new_off K5]; rfl
      have d1 : W5.cell? ⟨w4.heap.size, 1, none⟩ = some (.bool vb) := by rw [new_off K5]; rfl
      have HT5 := Lib.hid (HT4.out.trans (X5.tch _))
      have HSS : Hid (∀ k, S' k → S k ∨ w.heap.size ≤ k) := Lib.hid fun k hk => by
        rcases hs2 k hk with h | h
        · exact .inl h
        · exact .inr (Nat.le_trans HX3.out.size h)
      clear hl hs2 X5 K5
      go_upto_region 7 with (fail)
      rw [← hW5]
      clear hW5
      go_upto_region 10 with (fail)
      go_quiet (fail)
      go_wp2_with fail
      go_ret3
      refine ⟨by rw [HE.out, ← HVA.out, ← HVB.out]; rfl, by rw [HE.out, HVA.out]; exact HZ.out, HT5.out.trans (((Ext.refl W5).drewN _).tch _), S', br, by rw [HE.out]; exact HL5.out.eng.ext ((Ext.refl W5).drewN _), HSS.out, .inl rfl⟩
end Go.Proofs.YtkeaoejgboefbaaGreatDoor

/- Copies of strings; cells as elements. -/
namespace Go.Proofs.YtkeaoejgboefbaaGreatDoor
open Go.RowKit Go.Maps

theorem flat_strs {w : World} {S : Nat → Prop} : ∀ {l : List ByteArray}, (∀ s ∈ l, s.size ≤ 9223372036854775807) → Flat strR w S l (l.map Value.string)
  | [], _ => rfl
  | s :: l, h => ⟨[.string s], l.map Value.string, rfl, ⟨rfl, h s List.mem_cons_self⟩, flat_strs fun x hx => h x (List.mem_cons_of_mem _ hx)⟩
theorem strs_slice {w : World} {base n : Nat} {v : Value} {l : List ByteArray} (ho : OwnAt w base 9 1 v n (l.map Value.string)) (hn : n = l.length) (hz : ∀ s ∈ l, s.size ≤ 9223372036854775807) :
    ∃ A k, v = .slice A n k ∧ SliceAt strR w (fun b => base ≤ b ∧ b < w.heap.size) A k l := by
  obtain ⟨h1, ⟨rfl, h2⟩ | ⟨g, off, cap, cur, rfl, hb, hh, hc1, hc2, hc3, hx⟩⟩ := ho
  · have : l = [] := List.eq_nil_of_length_eq_zero (by omega)
    subst this
    subst h2
    exact ⟨none, 0, rfl, SliceAt.nil _ _ _ _ _ (by decide)⟩
  · refine ⟨some ⟨g, off, none⟩, cap, rfl, by omega, hc2, fun _ => ⟨g, off, rfl, ⟨hb, (Array.getElem?_eq_some_iff.1 hh).1⟩, (flat_strs hz).row fun j u hj => ?_⟩⟩
    have hj' : j < n * 1 := by
      rcases Nat.lt_or_ge j (l.map Value.string).length with h | h
      · omega
      · rw [List.getElem?_eq_none h] at hj; cases hj
    rw [cell_of_row w g _ cur 9 (0, 0) hh, hx j hj', hj]
theorem strs_sized {w : World} {B : Nat → Prop} {A : Option Addr} {c : Nat} {l : List ByteArray} (h : SliceAt strR w B A c l) : ∀ s ∈ l, s.size ≤ 9223372036854775807 := by
  intro s hs
  obtain ⟨j, hj, rfl⟩ := List.getElem_of_mem hs
  obtain ⟨_, _, _, _, _, hz⟩ := str_get h hj
  exact hz
/-- slices.Clone of strings. -/
theorem CloneStr {w : World} {B : Nat → Prop} {A : Option Addr} {k n : Nat} {l : List ByteArray} (h : SliceAt strR w B A k l) (hn : n = l.length) (hl : n ≤ 1000) :
    Calls Tryz.prog 39 #[.slice A n k] w fun e w' => ∃ A' k', e = .returned (.slice A' n k') ∧ SliceAt strR w' (fun b => w.heap.size ≤ b ∧ b < w'.heap.size) A' k' l ∧ Ext w w' := by
  have hz := strs_sized h
  by_cases h0 : l = []
  · subst h0
    have hn : n = 0 := hn
    subst hn
    cases A with
    | none =>
      refine (Tryz.slices_Clone_string_nil 0 k w).mono ?_
      rintro e w' ⟨rfl, rfl⟩
      exact ⟨none, 0, rfl, SliceAt.nil _ _ _ _ _ (by decide), Ext.refl _⟩
    | some a =>
      refine (Tryz.slices_Clone_string_zero a k w).mono ?_
      rintro e w' ⟨v', rfl, ho, _, hb⟩
      obtain ⟨A', k', rfl, hs⟩ := strs_slice (l := []) (OwnAt.of_row ho) rfl hz
      exact ⟨A', k', rfl, hs, hb⟩
  · obtain ⟨b, off, rfl, hb, hr⟩ := h.2.2 h0
    refine (Tryz.slices_Clone_string b off n k l w (by omega) (by omega) (fun j hj => ?_)).mono ?_
    · obtain ⟨b', off', he, _, hc, _⟩ := str_get h hj
      injection he with he
      injection he with e1 e2
      subst e1
      subst e2
      rw [hc]
      simp [List.getD, List.getElem?_eq_getElem hj]
    · rintro e w' ⟨v', rfl, ho, _, hb⟩
      rw [hn, List.take_length] at ho
      obtain ⟨A', k', rfl, hs⟩ := strs_slice (OwnAt.of_row ho) rfl hz
      exact ⟨A', k', by rw [hn], hs, hb⟩
def cellR : Rep E.Cell := prodR strR (prodR (intR .i64) (prodR (sliceR strR) strR))
/-- Element k's cells. -/
theorem cell_get {w : World} {B : Nat → Prop} {A : Option Addr} {c : Nat} {l : List E.Cell} (h : SliceAt cellR w B A c l) {j : Nat} (hj : j < l.length) :
    ∃ b off A2 k2, A = some ⟨b, off, none⟩ ∧ B b ∧ w.cell? ⟨b, off + j * 4, none⟩ = some (.string l[j].1) ∧ w.cell? ⟨b, off + j * 4 + 1, none⟩ = some (.int .i64 l[j].2.1) ∧ w.cell? ⟨b, off + j * 4 + 2, none⟩ = some (.slice A2 l[j].2.2.1.length k2) ∧ w.cell? ⟨b, off + j * 4 + 3, none⟩ = some (.string l[j].2.2.2) ∧
      l[j].1.size ≤ 9223372036854775807 ∧ (Lit.int .i64 l[j].2.1).wf = true ∧ SliceAt strR w B A2 k2 l[j].2.2.1 ∧ l[j].2.2.2.size ≤ 9223372036854775807 := by
  obtain ⟨_, _, h3⟩ := h
  obtain ⟨b, off, hA, hb, hr⟩ := h3 (by intro e; rw [e] at hj; exact absurd hj (Nat.not_lt_zero _))
  obtain ⟨us, hu, hc⟩ := hr j hj
  obtain ⟨x1, y1, rfl, ⟨rfl, z1⟩, x2, y2, rfl, ⟨rfl, z2⟩, x3, x4, rfl, ⟨A2, k2, rfl, z3⟩, rfl, z4⟩ := hu
  have e : cellR.size = 4 := rfl
  have c0 := hc 0 _ rfl
  have c1 := hc 1 _ rfl
  have c2 := hc 2 _ rfl
  have c3 := hc 3 _ rfl
  rw [e] at c0 c1 c2 c3
  exact ⟨b, off, A2, k2, hA, hb, c0, c1, c2, c3, z1, z2, z3, z4⟩
/-! ### The cells so far -/
theorem findC_snoc (cs : List E.Cell) (c : E.Cell) (x : ByteArray) (h : E.has (cs.map (·.1)) c.1 = false) : E.findC (cs ++ [c]) x = if x = c.1 then some c else E.findC cs x := by
  unfold E.findC
  rw [List.find?_append]
  by_cases hx : x = c.1
  · subst hx
    rw [if_pos rfl]
    have : cs.find? (fun c' => decide (c'.1 = c.1)) = none := by
      rw [List.find?_eq_none]
      intro y hy hd
      have : c.1 ∈ cs.map (·.1) := List.mem_map.2 ⟨y, hy, of_decide_eq_true hd⟩
      rw [E.has_iff.2 this] at h
      cases h
    rw [this]
    simp
  · rw [if_neg hx]
    have : [c].find? (fun c' => decide (c'.1 = x)) = none := by
      rw [List.find?_eq_none]
      intro y hy hd
      rw [List.mem_singleton.1 hy] at hd
      exact hx (of_decide_eq_true hd).symm
    rw [this]
    simp
theorem findC_has (cs : List E.Cell) (x : ByteArray) : (E.findC cs x).isSome = E.has (cs.map (·.1)) x := by
  unfold E.findC E.has
  rw [List.any_map, Bool.eq_iff_iff, List.find?_isSome, List.any_eq_true]
  rfl
theorem newE_cons (before : List E.Cell) (c : E.Cell) (cs : List E.Cell) : E.newE before (c :: cs) = if E.cellE before c ≠ 0 then E.cellE before c else E.newE (before ++ [c]) cs := by rw [E.newE]
/-- Cells that are right are formed. -/
theorem newE_formed : ∀ (cs before : List E.Cell), E.newE before cs = 0 → ∀ c ∈ cs, E.formedB c = true ∧ E.nameB c.1 = true
  | [], _, _ => fun c hc => absurd hc List.not_mem_nil
  | c :: cs, before, h => by
    rw [newE_cons] at h
    by_cases he : E.cellE before c = 0
    · rw [if_neg (by simpa using he)] at h
      intro x hx
      rcases List.mem_cons.1 hx with rfl | hx
      · unfold E.cellE at he
        by_cases h1 : E.nameB x.1 = false
        · rw [if_pos h1] at he; exact absurd he (by decide)
        · rw [if_neg h1] at he
          by_cases h2 : E.formedB x = false
          · rw [if_pos h2] at he; exact absurd he (by decide)
          · exact ⟨by simpa using h2, by simpa using h1⟩
      · exact newE_formed cs _ h x hx
    · rw [if_pos he] at h
      exact absurd h he
theorem newErr_formed {cs : List E.Cell} (h : E.newErr cs = 0) : cs.length ≤ 200 ∧ ∀ c ∈ cs, E.formedB c = true ∧ E.nameB c.1 = true := by
  unfold E.newErr at h
  by_cases hl : 200 < cs.length
  · rw [if_pos hl] at h; exact absurd h (by decide)
  · rw [if_neg hl] at h
    exact ⟨by omega, newE_formed cs [] h⟩
end Go.Proofs.YtkeaoejgboefbaaGreatDoor

/- engine.New. -/
namespace Go.Proofs.YtkeaoejgboefbaaGreatDoor
open Go.RowKit Go.Maps

/-- An engine that is being filled with cells. -/
structure Fresh (w0 : World) (S : Nat → Prop) (cs : List E.Cell) (wr : World) : Prop where
  row : Row wr (w0.heap.size + 3) w0.heap.size (w0.heap.size + 1) (w0.heap.size + 2) 0 0
  cells : ∃ f, MapF Tryz.prog wr w0.heap.size f ∧ CellsIn wr S (E.findC cs) f
  inputs : MapF Tryz.prog wr (w0.heap.size + 1) fun _ => none
  results : MapF Tryz.prog wr (w0.heap.size + 2) fun _ => none
  sup : ∀ k, S k → w0.heap.size + 4 ≤ k ∧ k < wr.heap.size
  ext : Ext w0 wr
theorem Fresh.ext' {w0 wr w2 : World} {S : Nat → Prop} {cs : List E.Cell} (h : Fresh w0 S cs wr) (he : Ext wr w2) : Fresh w0 S cs w2 := by
  obtain ⟨f, h1, h2⟩ := h.cells
  exact ⟨h.row.tch (he.tch fun _ => False) fun e => e, ⟨f, h1.ext he, h2.tch (he.tch fun _ => False) fun k hk => ⟨(h.sup k hk).2, fun e => e⟩⟩, h.inputs.ext he, h.results.ext he, fun k hk => ⟨(h.sup k hk).1, Nat.lt_of_lt_of_le (h.sup k hk).2 he.size⟩, h.ext.trans he⟩
theorem Fresh.engAt {w0 wr : World} {S : Nat → Prop} {cs : List E.Cell} (h : Fresh w0 S cs wr) : EngAt wr S (w0.heap.size + 3) w0.heap.size (w0.heap.size + 1) (w0.heap.size + 2) (E.fresh cs) where
  row := h.row
  ne := by omega
  out := ⟨fun hk => by have := (h.sup _ hk).1; omega, fun hk => by have := (h.sup _ hk).1; omega, fun hk => by have := (h.sup _ hk).1; omega, fun hk => by have := (h.sup _ hk).1; omega⟩
  lt := fun k hk => (h.sup k hk).2
  cells := h.cells
  inputs := h.inputs
  results := ⟨_, h.results, fun s => rfl⟩
/-- A cell is added. -/
theorem Fresh.added {w0 wr w2 w3 : World} {S : Nat → Prop} {cs : List E.Cell} (h : Fresh w0 S cs wr) {c : E.Cell} {A : Option Addr} {k : Nat} {f : FnV} (he : Ext wr w2) (hm : MapF Tryz.prog w3 w0.heap.size (putF f c.1 (some (cellV c A k)))) (ht : w2.mapTurned w3 w0.heap.size)
    (hc : CellsIn wr S (E.findC cs) f) (hs : SliceAt strR w2 (fun b => wr.heap.size ≤ b ∧ b < w2.heap.size) A k c.2.2.1) (hw : (Lit.int .i64 c.2.1).wf = true) (h1 : c.2.2.2.size ≤ 64) (h2 : c.2.2.1.length ≤ 8) (hn : E.has (cs.map (·.1)) c.1 = false) : Fresh w0 (fun b => S b ∨ (wr.heap.size ≤ b ∧ b < w2.heap.size)) (cs ++ [c]) w3 := by
  have T : Tch (fun k => k = w0.heap.size) w2 w3 := (Tch.refl _ w2).grown ht.grown fun i hi _ => (Option.some.inj hi).symm
  have hsz := h.row.lt
  have hsu : ∀ k, (S k ∨ (wr.heap.size ≤ k ∧ k < w2.heap.size)) → w0.heap.size + 4 ≤ k ∧ k < w3.heap.size := fun k hk => by
    have := T.size
    have := he.size
    rcases hk with hk | hk
    · have := h.sup k hk; omega
    · omega
  refine ⟨(h.row.tch (he.tch fun _ => False) fun e => e).tch T (by omega), ⟨_, hm, fun s => ?_⟩, (h.inputs.ext he).tch T (by omega), (h.results.ext he).tch T (by omega), hsu, (((h.ext.trans he).tch fun _ => False).trans' T fun i hi e => by omega).ext fun _ _ h => h⟩
  · rw [findC_snoc cs c s hn]
    unfold putF
    by_cases hx : s = c.1
    · rw [if_pos hx, if_pos hx]
      exact ⟨hx.symm, hw, h1, h2, A, k, rfl, (hs.tch T fun k hk => ⟨hk.2, fun e => by have := h.ext.size; omega⟩).keep (fun k hk => .inr hk) fun _ _ => rfl⟩
    · rw [if_neg hx, if_neg hx]
      exact (((hc.tch (he.tch fun _ => False) fun k hk => ⟨(h.sup k hk).2, fun e => e⟩).tch T fun k hk => ⟨Nat.lt_of_lt_of_le (h.sup k hk).2 he.size, fun e => by have := (h.sup k hk).1; omega⟩).sub fun k hk => .inl hk) s
theorem formed_small {c : E.Cell} (h : E.formedB c = true) : c.2.2.2.size ≤ 64 ∧ c.2.2.1.length ≤ 8 := by
  unfold E.formedB at h
  simp only [Bool.and_eq_true] at h
  obtain ⟨_, h⟩ := h
  by_cases e : c.2.1 = 2
  · rw [if_pos e] at h
    simp at h
    exact ⟨h.2, h.1⟩
  · rw [if_neg e, Bool.and_eq_true] at h
    obtain ⟨h, h0⟩ := h
    have h0 := of_decide_eq_true h0
    simp at h
    refine ⟨by omega, ?_⟩
    rcases h with ((((⟨_, hl⟩ | ⟨_, hl⟩) | ⟨_, hl⟩) | ⟨_, hl⟩) | ⟨_, hl⟩) | ⟨_, hl⟩ <;> first | (rw [hl]; decide) | simp_all
/-- What New answers. -/
def RetNew (w : World) (cs : List E.Cell) (ed : Ending) (w' : World) : Prop := Ext w w' ∧
  ((E.newErr cs ≠ 0 ∧ ed = .returned (.tuple #[.pointer none, .int .i64 (E.newErr cs)])) ∨
   (E.newErr cs = 0 ∧ ed = .returned (.tuple #[.pointer (some ⟨w.heap.size + 3, 0, none⟩), .int .i64 0]) ∧ ∃ S, Fresh w S cs w'))
set_option maxRecDepth 100000 in
set_option maxHeartbeats 4000000 in
theorem New_any {w : World} {A : Option Addr} {kc n : Nat} {cs : List E.Cell} (hA : SliceAt cellR w (Old w) A kc cs) (hn : n = cs.length) (harg : ∀ c ∈ cs, c.2.2.1.length ≤ 1000) : Calls Tryz.prog 27 #[.slice A n kc] w (RetNew w cs) := by
  obtain ⟨R, hR⟩ : ∃ R, R = E.newErr cs := ⟨_, rfl⟩
  have HA := Lib.hid hA
  have HN := Lib.hid hn
  have HR := Lib.hid hR
  have hmm := @run_makeMap Tryz.prog
  by_cases hbig : 200 < n
  · have HE : Hid (E.newErr cs = 10) := Lib.hid (by unfold E.newErr; rw [if_pos (by omega)])
    have hn63 : (n : Int) ≤ 9223372036854775807 := by have := hA.1; have := hA.2.1; omega
    clear hA hn hR HR
    go_enter Tryz.func27, Tryz.ntmps27
    go_wp2_with fail
    go_ret2
    refine ⟨Ext.refl _, .inl ⟨by rw [HE.out]; decide, by rw [HE.out]; rfl⟩⟩
  · have HE : Hid (E.newErr cs = E.newE [] cs) := Lib.hid (by unfold E.newErr; rw [if_neg (by omega)])
    clear hA hn hR HR
    obtain ⟨W1, hW1⟩ : ∃ W1, W1 = (((w.alloc (.map #[] 0)).alloc (.map #[] 0)).alloc (.map #[] 0)).alloc (.cells #[.map (some w.heap.size), .map (some (w.heap.size + 1)), .map (some (w.heap.size + 2)), .int .i64 0, .int .i64 0] 79) := ⟨_, rfl⟩
    have HF1 : Hid (Fresh w (fun _ => False) [] W1) := Lib.hid (by
      have m1 : MapF Tryz.prog (w.alloc (.map #[] 0)) w.heap.size fun _ => none := MapF.made w
      have m2 := MapF.made (P := Tryz.prog) (w.alloc (.map #[] 0))
      rw [size_alloc'] at m2
      have m3 := MapF.made (P := Tryz.prog) ((w.alloc (.map #[] 0)).alloc (.map #[] 0))
      rw [size_alloc', size_alloc'] at m3
      have hr := heap_alloc_new (((w.alloc (.map #[] 0)).alloc (.map #[] 0)).alloc (.map #[] 0)) (.cells #[.map (some w.heap.size), .map (some (w.heap.size + 1)), .map (some (w.heap.size + 2)), .int .i64 0, .int .i64 0] 79)
      rw [size_alloc', size_alloc', size_alloc'] at hr
      rw [hW1]
      exact ⟨⟨hr⟩, ⟨_, ((m1.ext ((Ext.refl _).alloc _)).ext ((Ext.refl _).alloc _)).ext ((Ext.refl _).alloc _), fun s => rfl⟩, (m2.ext ((Ext.refl _).alloc _)).ext ((Ext.refl _).alloc _), m3.ext ((Ext.refl _).alloc _), fun k hk => hk.elim, (((Ext.refl w).alloc _).alloc _ |>.alloc _).alloc _⟩)
    go_enter Tryz.func27, Tryz.ntmps27
    go_upto_region 4 with (fail)
    rw [← hW1]
    clear hW1 hmm
    go_wp2_with fail
    go_loopw [6, 7, 8, 19] (fun _ _ _ i wr => ∃ (j : Nat) (Sj : Nat → Prop), i = .int .i64 j ∧ j ≤ n ∧ Hid (Fresh w Sj (cs.take j) wr) ∧ Hid (E.newErr cs = E.newE (cs.take j) (cs.drop j))) (fun _ _ _ i _ => n - (intOf i).toNat)
    case atStart => exact ⟨0, fun _ => False, rfl, Nat.zero_le _, HF1, HE⟩
    case round =>
      obtain ⟨j, Sj, rfl, hj, hf, hE⟩ := hrel
      by_cases hlt : j < n
      · have hjl : j < cs.length := by have := HN.out; omega
        obtain ⟨b, off, A2, k2, hAe, hbb, d0, d1, d2, d3, z1, z2, z3, z4⟩ := cell_get (HA.out.ext hf.out.ext) hjl
        subst hAe
        have HER : Hid (E.newErr cs = if E.cellE (cs.take j) cs[j] ≠ 0 then E.cellE (cs.take j) cs[j] else E.newE (cs.take (j + 1)) (cs.drop (j + 1))) := Lib.hid (by rw [hE.out, List.drop_eq_getElem_cons hjl, newE_cons, List.take_succ_eq_append_getElem hjl])
        have HTK : Hid (cs.take (j + 1) = cs.take j ++ [cs[j]]) := Lib.hid (List.take_succ_eq_append_getElem hjl)
        have hag : cs[j].2.2.1.length ≤ 1000 := harg _ (List.getElem_mem hjl)
        generalize cs[j] = c at *
        go_upto_region 7 with (fail)
        obtain ⟨W2, hW2⟩ : ∃ W2, W2 = wr.alloc (.cells #[.string c.1, .int .i64 c.2.1, .slice A2 c.2.2.1.length k2, .string c.2.2.2] 50) := ⟨_, rfl⟩
        rw [← hW2]
        have X2 : Ext wr W2 := by rw [hW2]; exact (Ext.refl wr).alloc _
        have K2 : Hid (W2.heap[wr.heap.size]? = some (.cells #[.string c.1, .int .i64 c.2.1, .slice A2 c.2.2.1.length k2, .string c.2.2.2] 50 (0, 0))) := Lib.hid (by rw [hW2]; exact heap_alloc_new wr _)
        have HF2 := Lib.hid (hf.out.ext' X2)
        have HX2 := Lib.hid X2
        obtain ⟨f, hm, hci⟩ := hf.out.cells
        have HCI := Lib.hid hci
        have HMF := Lib.hid hm
        have hval : ∃ nm y A3 L3 k3 tx3, (f c.1).getD zero32 = .agg #[.string nm, .int .i64 y, .slice A3 L3 k3, .string tx3] := by
          have h2 := hci.val c.1
          cases e : E.findC (cs.take j) c.1 with
          | none => rw [e] at h2; rw [h2]; exact ⟨_, _, _, _, _, _, rfl⟩
          | some c' =>
            rw [e] at h2
            obtain ⟨A3, k3, h3⟩ := h2
            rw [h3]; exact ⟨_, _, _, _, _, _, rfl⟩
        obtain ⟨nm, y, A3, L3, k3, tx3, hval⟩ := hval
        have hsome : (f c.1).isSome = E.has ((cs.take j).map (·.1)) c.1 := by
          rw [← findC_has]
          have h2 := hci.val c.1
          cases e : E.findC (cs.take j) c.1 with
          | none => rw [e] at h2; rw [h2]; rfl
          | some c' =>
            rw [e] at h2
            obtain ⟨A3, k3, h3⟩ := h2
            rw [h3]; rfl
        have hlk : ∀ w', Ext W2 w' → (Instr.lookup 76 (.map (some w.heap.size)) (.string c.1) true).run Tryz.prog w' = .ok (.tuple #[.agg #[.string nm, .int .i64 y, .slice A3 L3 k3, .string tx3], .bool (E.has ((cs.take j).map (·.1)) c.1)]) w' := fun w' hw' => by
          have := (hm.ext (X2.trans hw')).look (t := 76) Tryz.underlying9 Tryz.underlying76 (zv32 w') z1
          rw [this, hval, hsome]
        generalize htw : E.has ((cs.take j).map (·.1)) c.1 = tw at *
        have HTW := Lib.hid htw
        have hne1 := Lat.some (Φ := Ext W2) ((Ext.refl W2).drew)
        have hg0 := HF2.out.row.c0
        have hx0 : W2.cell? ⟨wr.heap.size, 0, none⟩ = some (.string c.1) := by rw [new_off K2.out]; rfl
        have fx0 : ∀ x : Lat (Ext W2), x.w'.cell? ⟨w.heap.size + 3, 0, none⟩ = some (.map (some w.heap.size)) := fun x => x.h.keepc hg0
        have fx1 : ∀ x : Lat (Ext W2), x.w'.cell? ⟨wr.heap.size, 0, none⟩ = some (.string c.1) := fun x => x.h.keepc hx0
        have fx2 : ∀ x : Lat (Ext W2), (Instr.lookup 76 (.map (some w.heap.size)) (.string c.1) true).run Tryz.prog x.w' = .ok (.tuple #[.agg #[.string nm, .int .i64 y, .slice A3 L3 k3, .string tx3], .bool tw]) x.w' := fun x => hlk x.w' x.h
        clear hW2 X2 hm hci hval hsome hlk hg0 hx0 htw d0 d1 d2 d3
        refine wp_region_lat [10, 11] (Ext W2) ((Ext.refl W2).drew) (by kernel_rfl) (by kernel_rfl) (by kernel_rfl) ?_
        iterate 10 (refine lex_pure rfl rfl rfl ?_; intro K hK; go_big_quiet_op; go_big_quiet_on)
        refine lex_eff rfl ?_
        go_wp2_with fail
        refine ⟨⟨⟨_, (Ext.refl W2).drew.alloc _⟩, rfl⟩, ?_⟩
        refine lex_eff rfl ?_
        go_wp2_with fail
        obtain ⟨W4, hW4⟩ : ∃ W4, W4 = (W2.alloc (.cells #[.string nm, .int .i64 y, .slice A3 L3 k3, .string tx3] 50)).drew := ⟨_, rfl⟩
        rw [← hW4]
        have X4 : Ext W2 W4 := by rw [hW4]; exact ((Ext.refl W2).alloc _).drew
        have HX4 := Lib.hid X4
        refine ⟨⟨⟨W4, X4⟩, rfl⟩, ?_⟩
        refine lex_pure rfl rfl rfl ?_; intro K hK; go_big_quiet_op; go_big_quiet_on
        refine lex_nil ?_
        have K4 := Lib.hid ((X4.block _ (Array.getElem?_eq_some_iff.1 K2.out).1).trans K2.out)
        have HF4 := Lib.hid (HF2.out.ext' X4)
        have HX24 := Lib.hid (HX2.out.trans X4)
        have q0 : W4.cell? ⟨wr.heap.size, 0, none⟩ = some (.string c.1) := by rw [new_off K4.out]; rfl
        have q1 : W4.cell? ⟨wr.heap.size, 1, none⟩ = some (.int .i64 c.2.1) := by rw [new_off K4.out]; rfl
        have q2 : W4.cell? ⟨wr.heap.size, 2, none⟩ = some (.slice A2 c.2.2.1.length k2) := by rw [new_off K4.out]; rfl
        have q3 : W4.cell? ⟨wr.heap.size, 3, none⟩ = some (.string c.2.2.2) := by rw [new_off K4.out]; rfl
        have hz3 : SliceAt strR W4 (Old W4) A2 k2 c.2.2.1 := z3.ext HX24.out
        have HNM := Lib.hid (named_any c.1 W4 z1)
        have HFM := Lib.hid (formed_any c A2 k2 _ W4 rfl hz3 hag z2 z4)
        have HCE : Hid (E.cellE (cs.take j) c = if E.nameB c.1 = false then 2 else if E.formedB c = false then 1 else if tw then 6 else 0) := Lib.hid (by unfold E.cellE; rw [HTW.out])
        have HZ2 := Lib.hid z2
        clear hW4 X4 fx0 fx1 fx2 hne1
        cases hnb : E.nameB c.1 with
        | false =>
          have HER2 : Hid (E.newErr cs = 2) := Lib.hid (by rw [HER.out, HCE.out, if_pos hnb]; rfl)
          rw [hnb] at HNM
          clear hnb
          go_wp2_with fail
          refine HNM.out.mono ?_
          rintro ed w5 ⟨rfl, rfl⟩
          go_wp2_with fail
          go_ret2
          exact ⟨HF4.out.ext, .inl ⟨by rw [HER2.out]; decide, by rw [HER2.out]; rfl⟩⟩
        | true =>
          have hnb' : ¬ E.nameB c.1 = false := by rw [hnb]; decide
          rw [hnb] at HNM
          cases hfb : E.formedB c with
          | false =>
            have HER2 : Hid (E.newErr cs = 1) := Lib.hid (by rw [HER.out, HCE.out, if_neg hnb', if_pos hfb]; rfl)
            rw [hfb] at HFM
            clear hnb hnb' hfb
            go_wp2_with fail
            refine HNM.out.mono ?_
            rintro ed w5 ⟨rfl, rfl⟩
            go_wp2_with fail
            refine HFM.out.mono ?_
            rintro ed w5 ⟨rfl, d5⟩
            have HX5 := Lib.hid d5
            clear d5
            go_wp2_with fail
            go_ret2
            exact ⟨HF4.out.ext.trans HX5.out, .inl ⟨by rw [HER2.out]; decide, by rw [HER2.out]; rfl⟩⟩
          | true =>
            have hfb' : ¬ E.formedB c = false := by rw [hfb]; decide
            have HFB := Lib.hid hfb
            rw [hfb] at HFM
            cases tw with
            | true =>
              have HER2 : Hid (E.newErr cs = 6) := Lib.hid (by rw [HER.out, HCE.out, if_neg hnb', if_neg hfb']; rfl)
              clear hnb hnb' hfb hfb'
              go_wp2_with fail
              refine HNM.out.mono ?_
              rintro ed w5 ⟨rfl, rfl⟩
              go_wp2_with fail
              refine HFM.out.mono ?_
              rintro ed w5 ⟨rfl, d5⟩
              have HX5 := Lib.hid d5
              clear d5
              go_wp2_with fail
              go_ret2
              exact ⟨HF4.out.ext.trans HX5.out, .inl ⟨by rw [HER2.out]; decide, by rw [HER2.out]; rfl⟩⟩
            | false =>
              have HER2 : Hid (E.newErr cs = E.newE (cs.take (j + 1)) (cs.drop (j + 1))) := Lib.hid (by rw [HER.out, HCE.out, if_neg hnb', if_neg hfb']; rfl)
              clear hnb hnb' hfb hfb'
              go_wp2_with fail
              refine HNM.out.mono ?_
              rintro ed w5 ⟨rfl, rfl⟩
              go_wp2_with fail
              refine HFM.out.mono ?_
              rintro ed w5 ⟨rfl, d5⟩
              have K5 := Lib.hid ((d5.block _ (Array.getElem?_eq_some_iff.1 K4.out).1).trans K4.out)
              have p2 : w5.cell? ⟨wr.heap.size, 2, none⟩ = some (.slice A2 c.2.2.1.length k2) := by rw [new_off K5.out]; rfl
              have HCL := Lib.hid (CloneStr (hz3.ext d5) rfl hag)
              have HX5 := Lib.hid d5
              clear d5 q0 q1 q2 q3
              go_wp2_with fail
              refine HCL.out.mono ?_
              rintro ed w6 ⟨A6, k6, rfl, hs6, d6⟩
              have K6 := Lib.hid ((d6.block _ (Array.getElem?_eq_some_iff.1 K5.out).1).trans K5.out)
              have p6 : w6.cell? ⟨wr.heap.size, 2, none⟩ = some (.slice A2 c.2.2.1.length k2) := by rw [new_off K6.out]; rfl
              have fr := Lib.frozen_of_heap K6.out 2
              have HX6 := Lib.hid (HX5.out.trans d6)
              have HS6 := Lib.hid hs6
              clear d6 hs6 p2
              go_upto_region 15 with (fail)
              obtain ⟨W7, hW7⟩ : ∃ W7, W7 = w6.setCell ⟨wr.heap.size, 2, none⟩ (.slice A6 c.2.2.1.length k6) := ⟨_, rfl⟩
              rw [← hW7]
              have X7 : Ext wr W7 := by rw [hW7]; exact (HX24.out.trans HX6.out).setCell (p := ⟨wr.heap.size, 2, none⟩) (Nat.le_refl _) _
              have T7 : Tch (fun k => k = wr.heap.size) w6 W7 := by rw [hW7]; exact (Tch.refl (fun k => k = wr.heap.size) w6).setCell (p := ⟨wr.heap.size, 2, none⟩) (fun _ => rfl) _
              have K7 : W7.heap[wr.heap.size]? = some (.cells #[.string c.1, .int .i64 c.2.1, .slice A6 c.2.2.1.length k6, .string c.2.2.2] 50 (0, 0)) := by rw [hW7]; exact heap_setCell_cells K6.out 2 _
              have HF7 := Lib.hid (hf.out.ext' X7)
              have HX7 := Lib.hid (X7.trans (Ext.refl W7).drew)
              have hw5s : wr.heap.size < w5.heap.size := (Array.getElem?_eq_some_iff.1 K5.out).1
              have HS7 : Hid (SliceAt strR W7.drew (fun b => wr.heap.size ≤ b ∧ b < W7.drew.heap.size) A6 k6 c.2.2.1) := Lib.hid (HS6.out.keep (fun k hk => ⟨by omega, Nat.lt_of_lt_of_le hk.2 T7.size⟩) fun k hk => T7.block k hk.2 (by omega))
              clear hW7 X7 T7 p6 fr
              obtain ⟨Φ, hΦ⟩ : ∃ Φ : World → Prop, ∀ w', Φ w' ↔ (w'.cell? ⟨w.heap.size + 3, 0, none⟩ = some (.map (some w.heap.size)) ∧ w'.cell? ⟨wr.heap.size, 0, none⟩ = some (.string c.1) ∧ w'.cell? ⟨wr.heap.size, 1, none⟩ = some (.int .i64 c.2.1) ∧ w'.cell? ⟨wr.heap.size, 2, none⟩ = some (.slice A6 c.2.2.1.length k6) ∧ w'.cell? ⟨wr.heap.size, 3, none⟩ = some (.string c.2.2.2)) := ⟨_, fun _ => Iff.rfl⟩
              have h0 : Φ W7.drew := (hΦ _).2 ⟨HF7.out.row.c0, by show W7.cell? _ = _; rw [new_off K7]; rfl, by show W7.cell? _ = _; rw [new_off K7]; rfl, by show W7.cell? _ = _; rw [new_off K7]; rfl, by show W7.cell? _ = _; rw [new_off K7]; rfl⟩
              have fx0 : ∀ x : Lat Φ, x.w'.cell? ⟨w.heap.size + 3, 0, none⟩ = some (.map (some w.heap.size)) := fun x => ((hΦ _).1 x.h).1
              have fx1 : ∀ x : Lat Φ, x.w'.cell? ⟨wr.heap.size, 0, none⟩ = some (.string c.1) := fun x => ((hΦ _).1 x.h).2.1
              have fx2 : ∀ x : Lat Φ, x.w'.cell? ⟨wr.heap.size, 1, none⟩ = some (.int .i64 c.2.1) := fun x => ((hΦ _).1 x.h).2.2.1
              have fx3 : ∀ x : Lat Φ, x.w'.cell? ⟨wr.heap.size, 2, none⟩ = some (.slice A6 c.2.2.1.length k6) := fun x => ((hΦ _).1 x.h).2.2.2.1
              have fx4 : ∀ x : Lat Φ, x.w'.cell? ⟨wr.heap.size, 3, none⟩ = some (.string c.2.2.2) := fun x => ((hΦ _).1 x.h).2.2.2.2
              have hne1 := Lat.some h0
              clear hΦ K7 hw5s
              refine wp_region_tail 7 [] Φ h0 (by kernel_rfl) (by kernel_rfl) (by kernel_rfl) ?_
              simp only [List.take_succ_cons, List.take_zero, List.drop_succ_cons, List.drop_zero]
              iterate 7 (refine lex_pure rfl rfl rfl ?_; intro K hK; go_big_quiet_op; go_big_quiet_on)
              refine lex_nil ?_
              clear fx0 fx1 fx2 fx3 fx4 hne1 h0
              have hdom : ∀ x, f x ≠ none → x ∈ (cs.take j).map (·.1) := fun x hx => by
                have := HCI.out x
                cases e : E.findC (cs.take j) x with
                | none => rw [e] at this; exact absurd this hx
                | some c' =>
                  obtain ⟨h1, h2⟩ := E.findC_some e
                  exact List.mem_map.2 ⟨c', h1, h2⟩
              refine wpList_mapF_put (b := w.heap.size) (HMF.out.ext HX7.out) Tryz.underlying9 ((cs.take j).map (·.1)) hdom (by rw [List.length_map, List.length_take]; omega) rfl _ _ _ _ 50 rfl Tryz.underlying76 rfl c.1 (.agg #[.string c.1, .int .i64 c.2.1, .slice A6 c.2.2.1.length k6, .string c.2.2.2]) rfl rfl z1 ?_
              intro W8 hm8 ht8
              obtain ⟨hsm1, hsm2⟩ := formed_small HFB.out
              have HF8 := Lib.hid (hf.out.added (A := A6) (k := k6) HX7.out hm8 ht8 HCI.out HS7.out HZ2.out hsm1 hsm2 HTW.out)
              rw [← HTK.out] at HF8
              clear hm8 ht8 hdom hsm1 hsm2
              go_wp2_with fail
              go_roundw
              case rel => exact ⟨j + 1, _, by go_num, by omega, HF8, HER2⟩
              case measure => simp [intOf]; omega
      · have hjn : j = n := by omega
        have hd : cs.drop j = [] := List.drop_eq_nil_of_le (by have := HN.out; omega)
        have htk : cs.take j = cs := List.take_of_length_le (by have := HN.out; omega)
        have HE0 : Hid (E.newErr cs = 0) := Lib.hid (by rw [hE.out, hd]; rfl)
        rw [htk] at hf
        clear hd htk
        go_wp2_with fail
        go_ret2
        exact ⟨hf.out.ext, .inr ⟨HE0.out, rfl, Sj, hf.out⟩⟩
end Go.Proofs.YtkeaoejgboefbaaGreatDoor

/- Engine.Reads. -/
namespace Go.Proofs.YtkeaoejgboefbaaGreatDoor
open Go.RowKit Go.Maps

def readsL (e : E.En) (n : ByteArray) : List ByteArray := match e.st.ms n with
  | none => []
  | some m => m.reads.map (·.1)
def readsE (e : E.En) (n : ByteArray) : List ByteArray × Int := match E.findC e.cells n with
  | none => ([], 7)
  | some _ => (readsL e n, 0)
/-- What Reads answers. -/
def RetReads (w : World) (r : List ByteArray × Int) (ed : Ending) (w' : World) : Prop := Ext w w' ∧ ∃ A k m, m = r.1.length ∧ ed = .returned (.tuple #[.slice A m k, .int .i64 r.2]) ∧ SliceAt strR w' (Old w') A k r.1
theorem memo_look {w : World} {S : Nat → Prop} {b : Nat} {f : FnV} {e : E.En} (h : MapF Tryz.prog w b f) (hc : MemosIn w S e.st.ms f) {n : ByteArray} (hs : n.size ≤ 9223372036854775807) :
    ∃ (v : ByteArray) (s : Bool) (A : Option Addr) (k : Nat) (a : Int) (rs : List (E.Nm × E.V)), (Instr.lookup 77 (.map (some b)) (.string n) false).run Tryz.prog w = .ok (.agg #[.string v, .bool s, .slice A rs.length k, .int .i64 a]) w ∧ SliceAt readR w S A k rs ∧ rs.length ≤ 100 ∧ rs.map (·.1) = readsL e n := by
  have h1 := h.look1 Tryz.underlying9 Tryz.underlying77 (zv84 w) hs
  have h2 := hc n
  unfold readsL
  cases e1 : e.st.ms n with
  | none =>
    rw [e1] at h2
    have h2 : f n = none := h2
    rw [h2] at h1
    exact ⟨_, _, _, _, _, [], h1, SliceAt.nil _ _ _ _ _ (by decide), by decide, rfl⟩
  | some m =>
    rw [e1] at h2
    obtain ⟨_, h3, _, A, k, h4, h5⟩ := h2
    rw [h4] at h1
    exact ⟨_, _, _, _, _, m.reads, h1, h5, h3, rfl⟩
set_option maxRecDepth 100000 in
set_option maxHeartbeats 2000000 in
theorem Reads_any {w : World} {S : Nat → Prop} {g bc bi br : Nat} {e : E.En} (hE : EngAt w S g bc bi br e) {n : ByteArray} (hn : n.size ≤ 9223372036854775807) :
    Calls Tryz.prog 21 #[.pointer (some ⟨g, 0, none⟩), .string n] w (RetReads w (readsE e n)) := by
  obtain ⟨R, hR⟩ : ∃ R, R = readsE e n := ⟨_, rfl⟩
  rw [← hR]
  have HR := Lib.hid hR
  obtain ⟨f, hmc, hci⟩ := hE.cells
  have a0 := hE.row.c0
  have hl := cells_look hmc hci hn
  cases hc : E.findC e.cells n with
  | none =>
    rw [hc] at hl
    replace hl : (Instr.lookup 76 (.map (some bc)) (.string n) true).run Tryz.prog w = .ok (.tuple #[.agg #[.string ⟨#[]⟩, .int .i64 0, .slice none 0 0, .string ⟨#[]⟩], .bool false]) w := hl
    have HE : Hid (R = ([], 7)) := Lib.hid (by rw [HR.out]; unfold readsE; rw [hc])
    clear hc hR HR hE hmc hci
    go_enter Tryz.func21, Tryz.ntmps21
    go_wp2_with fail
    go_ret2
    exact ⟨(Ext.refl w).alloc _, none, 0, 0, by rw [HE.out]; rfl, by rw [HE.out]; rfl, by rw [HE.out]; exact SliceAt.nil _ _ _ _ _ (by decide)⟩
  | some c =>
    rw [hc] at hl
    obtain ⟨A, k, hl, hsl⟩ := hl
    replace hl : (Instr.lookup 76 (.map (some bc)) (.string n) true).run Tryz.prog w = .ok (.tuple #[.agg #[.string c.1, .int .i64 c.2.1, .slice A c.2.2.1.length k, .string c.2.2.2], .bool true]) w := hl
    have HE : Hid (R = (readsL e n, 0)) := Lib.hid (by rw [HR.out]; unfold readsE; rw [hc])
    have HEE := Lib.hid hE
    obtain ⟨W1, hW1⟩ : ∃ W1, W1 = w.alloc (.cells #[.string c.1, .int .i64 c.2.1, .slice A c.2.2.1.length k, .string c.2.2.2] 50) := ⟨_, rfl⟩
    have X1 : Ext w W1 := by rw [hW1]; exact (Ext.refl w).alloc _
    obtain ⟨fm, hmr, hms⟩ := (hE.ext X1).results
    obtain ⟨v, s, A3, k3, a, rs, hlk, hrs, hz, hmap⟩ := memo_look hmr hms hn
    have a2 := (hE.ext X1).row.c2
    obtain ⟨L, hL⟩ : ∃ L, L = rs.length := ⟨_, rfl⟩
    rw [← hL] at hlk hz
    have HL := Lib.hid hL
    have HRS : Hid (SliceAt readR W1 (Old W1) A3 k3 rs) := Lib.hid (hrs.keep (fun k hk => (hE.ext X1).lt k hk) fun _ _ => rfl)
    have HM := Lib.hid hmap
    have HX1 := Lib.hid X1
    clear hR HR hE hmc hci hc hsl hmr hms hrs hmap hL X1
    have hfd : ∀ w : World, (Instr.field 89 (.agg #[.string v, .bool s, .slice A3 L k3, .int .i64 a]) 1).run Tryz.prog w = .ok (.slice A3 L k3) w := fun _ => by kernel_rfl
    go_enter Tryz.func21, Tryz.ntmps21
    go_upto_region 2 with (fail)
    rw [← hW1]
    clear hW1 hl a0
    go_wp2_with fail
    go_loopw [8, 10, 30] (fun v _ i wr => ∃ (j : Nat), i = .int .i64 j ∧ j ≤ L ∧ Hid (OwnAt wr W1.heap.size 9 1 v j (((rs.map (·.1)).take j).map Value.string)) ∧ Hid (Ext W1 wr)) (fun _ _ i _ => L - (intOf i).toNat)
    case atStart => exact ⟨0, rfl, Nat.zero_le _, OwnAt.nil _ _ _ _, Ext.refl _⟩
    case round =>
      obtain ⟨j, rfl, hj, HO, HX⟩ := hrel
      by_cases hlt : j < L
      · have hjl : j < rs.length := by have := HL.out; omega
        obtain ⟨b, off, hAe, hbb, d0, d1, d2, z1, z2⟩ := read_get (HRS.out.ext HX.out) hjl
        subst hAe
        have HTK : Hid (((rs.map (·.1)).take (j + 1)).map Value.string = ((rs.map (·.1)).take j).map Value.string ++ [.string rs[j].1]) := Lib.hid (by
          rw [List.take_succ_eq_append_getElem (by rw [List.length_map]; exact hjl), List.map_append, List.getElem_map]
          rfl)
        generalize rs[j] = x at *
        obtain ⟨xn, xv⟩ := x
        simp only at d0 d1 d2 z1 z2 HTK
        generalize (xv.getD ⟨#[]⟩) = xs at *
        generalize xv.isSome = xb at *
        obtain ⟨W2, hW2⟩ : ∃ W2, W2 = wr.alloc (.cells #[.string xn, .string xs, .bool xb] 98) := ⟨_, rfl⟩
        have X2 : Ext wr W2 := by rw [hW2]; exact (Ext.refl wr).alloc _
        have p0 : W2.cell? ⟨wr.heap.size, 0, none⟩ = some (.string xn) := by rw [hW2]; exact cell_new wr #[.string xn, .string xs, .bool xb] 98 0
        have HX2 := Lib.hid X2
        have HO2 := Lib.hid (HO.out.ext X2)
        obtain ⟨i0, hi, hz0, hz1, hz2⟩ := info_parts str_info
        have hbs : W1.heap.size ≤ W2.heap.size := (HX.out.trans X2).size
        clear X2
        go_upto_region 8 with (fail)
        rw [← hW2]
        clear hW2 d0 d1 d2
        go_wp2_with (at_builtin; refine wpList_append_ownAt _ rfl (.tmp 34) (.tmp 37) 48 rfl W1.heap.size 9 i0 (.string ⟨#[]⟩) 1 16 Tryz.underlying48 hi hz0 hz1 hz2 rfl (by decide) _ _ _ rfl (HO2.out.alloc _) ⟨_, 0, none⟩ 1 1 [.string xn] rfl rfl ?_ ?_ (by unfold maxLen; omega) (by omega) (by rw [size_alloc']; omega) (by decide) ?_)
        · intro i u hi'
          rw [Addr.add_lit, Nat.zero_add, cell_new, ← hi']
          simp
        · intro u hu
          rw [List.mem_singleton.1 hu]
          rfl
        · intro v' w4 ho hg _ hf
          have HX4 : Hid (Ext W1 w4) := Lib.hid (((HX.out.trans HX2.out).alloc _).grown HO2.out hg)
          have HO4 : Hid (OwnAt w4 W1.heap.size 9 1 v' (j + 1) (((rs.map (·.1)).take (j + 1)).map Value.string)) := Lib.hid (by rw [HTK.out]; simpa using ho)
          clear ho hg hf hi hz0 hz1 hz2
          go_wp2_with fail
          go_roundw
          case rel => exact ⟨j + 1, by go_num, by omega, HO4, HX4⟩
          case measure => simp [intOf]; omega
      · have hjn : j = L := by omega
        have htk : (rs.map (·.1)).take j = rs.map (·.1) := List.take_of_length_le (by rw [List.length_map]; have := HL.out; omega)
        rw [htk] at HO
        have hsz : ∀ s ∈ rs.map (·.1), s.size ≤ 9223372036854775807 := fun s hs => by
          obtain ⟨r, hr, rfl⟩ := List.mem_map.1 hs
          obtain ⟨i, hi, rfl⟩ := List.getElem_of_mem hr
          obtain ⟨_, _, _, _, _, _, _, z1, _⟩ := read_get HRS.out hi
          exact z1
        obtain ⟨A', k', rfl, hs⟩ := strs_slice HO.out (by rw [List.length_map]; have := HL.out; omega) hsz
        have HS := Lib.hid hs
        have HJ := Lib.hid hjn
        clear htk hs hsz hjn
        go_wp2_with fail
        go_ret2
        refine ⟨HX1.out.trans HX.out, A', k', j, ?_, by rw [HE.out]; rfl, ?_⟩
        · rw [HE.out, ← HM.out, List.length_map, HJ.out, HL.out]
        · rw [HE.out, ← HM.out]
          exact HS.out.keep (fun k hk => hk.2) fun _ _ => rfl
end Go.Proofs.YtkeaoejgboefbaaGreatDoor

/- Plain facts on encodings: numbers, texts; what is printed is read, what is read was printed. No program in sight. -/
namespace Go.Proofs.YtkeaoejgboefbaaGreatDoor.C

abbrev Bs := List UInt8
/-- The bytes of a number, of a text. -/
def dec (n : Nat) : Bs := Lib.decDigits n
def num (n : Nat) : Bs := dec n ++ [59]
def txt (s : Bs) : Bs := dec s.length ++ 58 :: (s ++ [44])
theorem dec_small {n : Nat} (h : n < 10) : dec n = [UInt8.ofNat (48 + n)] := by unfold dec; rw [Lib.decDigits, dif_pos h]
theorem dec_big {n : Nat} (h : ¬ n < 10) : dec n = dec (n / 10) ++ [UInt8.ofNat (48 + n % 10)] := by unfold dec; rw [Lib.decDigits, dif_neg h]

/-- Reading a number that a byte ends: i bytes were read, of value n. -/
def cnt (e : UInt8) (most : Nat) : Bs → Nat → Nat → Option (Nat × Bs)
  | [], _, _ => none
  | c :: l, i, n => if c = e ∧ 0 < i then some (n, l) else if c.toNat < 48 ∨ 57 < c.toNat ∨ (i = 1 ∧ n = 0) then none else if most < 10 * n + (c.toNat - 48) then none else cnt e most l (i + 1) (10 * n + (c.toNat - 48))
def pNum (low high : Int) (l : Bs) : Option (Nat × Bs) :=
  match cnt 59 281474976710656 l 0 0 with
  | some (n, r) => if low ≤ (n : Int) ∧ (n : Int) ≤ high then some (n, r) else none
  | none => none
def pTxt (most : Nat) (l : Bs) : Option (Bs × Bs) :=
  match cnt 58 65536 l 0 0 with
  | some (n, r) => if r.length ≤ n then none else if r[n]? ≠ some 44 then none else if most < n then none else some (r.take n, r.drop (n + 1))
  | none => none

theorem digit_back {d : Nat} (h : d < 10) : (UInt8.ofNat (48 + d)).toNat = 48 + d := by
  simp [UInt8.toNat_ofNat']
  omega
theorem digit_of (c : UInt8) (h : ¬ (c.toNat < 48 ∨ 57 < c.toNat)) : UInt8.ofNat (48 + (c.toNat - 48)) = c := by
  apply UInt8.toNat_inj.1
  rw [digit_back (by omega)]
  omega

/-- What was read is the numeral, and what ends it. -/
theorem cnt_more {e : UInt8} {most : Nat} : ∀ (l : Bs) (i n m : Nat) (r : Bs), 0 < i → (i = 1 → True) → n ≤ most → (n = 0 → i = 1) → cnt e most l i n = some (m, r) → dec n ++ l = dec m ++ e :: r ∧ m ≤ most
  | [], i, n, m, r, _, _, _, _, h => by simp [cnt] at h
  | c :: l, i, n, m, r, hi, _, hn, h0, h => by
    rw [cnt] at h
    by_cases he : c = e ∧ 0 < i
    · rw [if_pos he] at h
      cases h
      rw [he.1]
      exact ⟨rfl, hn⟩
    · rw [if_neg he] at h
      by_cases hc : c.toNat < 48 ∨ 57 < c.toNat ∨ (i = 1 ∧ n = 0)
      · rw [if_pos hc] at h; cases h
      · rw [if_neg hc] at h
        by_cases hm : most < 10 * n + (c.toNat - 48)
        · rw [if_pos hm] at h; cases h
        · rw [if_neg hm] at h
          have hn0 : n ≠ 0 := fun hz => hc (.inr (.inr ⟨h0 hz, hz⟩))
          have ih := cnt_more l (i + 1) (10 * n + (c.toNat - 48)) m r (by omega) (fun _ => trivial) (by omega) (fun h => by omega) h
          have hd : dec (10 * n + (c.toNat - 48)) = dec n ++ [c] := by
            rw [dec_big (by omega), show (10 * n + (c.toNat - 48)) / 10 = n by omega, show (10 * n + (c.toNat - 48)) % 10 = c.toNat - 48 by omega, digit_of c (by omega)]
          rw [hd] at ih
          exact ⟨by rw [← ih.1]; simp, ih.2⟩
theorem cnt_read {e : UInt8} {most : Nat} {l : Bs} {m : Nat} {r : Bs} (h : cnt e most l 0 0 = some (m, r)) : l = dec m ++ e :: r ∧ m ≤ most := by
  cases l with
  | nil => simp [cnt] at h
  | cons c l =>
    rw [cnt, if_neg (by omega)] at h
    by_cases hc : c.toNat < 48 ∨ 57 < c.toNat ∨ ((0 : Nat) = 1 ∧ (0 : Nat) = 0)
    · rw [if_pos hc] at h; cases h
    · rw [if_neg hc] at h
      by_cases hm : most < 10 * 0 + (c.toNat - 48)
      · rw [if_pos hm] at h; cases h
      · rw [if_neg hm] at h
        have ih := cnt_more l (0 + 1) (10 * 0 + (c.toNat - 48)) m r (by omega) (fun _ => trivial) (by omega) (fun _ => rfl) h
        rw [show 10 * 0 + (c.toNat - 48) = c.toNat - 48 by omega, dec_small (by omega), digit_of c (by omega)] at ih
        exact ⟨ih.1, ih.2⟩
/-- The numeral, and a byte that is no digit behind it, is read. -/
theorem cnt_digits {e : UInt8} {most : Nat} (he : e.toNat < 48 ∨ 57 < e.toNat) (l : Bs) : ∀ (k m : Nat), m ≤ k → m ≤ most → (cnt e most (dec m ++ l) 0 0 = cnt e most l (dec m).length m) ∧ 0 < (dec m).length ∧ (1 < (dec m).length → m ≠ 0)
  | k, m, hk, hm => by
    by_cases h : m < 10
    · rw [dec_small h]
      have hb := digit_back h
      refine ⟨?_, by simp, by simp⟩
      show cnt e most (UInt8.ofNat (48 + m) :: l) 0 0 = _
      rw [cnt, if_neg (by omega), if_neg (by rw [hb]; omega), hb, if_neg (by omega)]
      congr 1
      omega
    · obtain ⟨k, rfl⟩ : ∃ q, k = q + 1 := ⟨k - 1, by omega⟩
      have ih := cnt_digits (most := most) he (UInt8.ofNat (48 + m % 10) :: l) k (m / 10) (by omega) (by omega)
      have hb := digit_back (show m % 10 < 10 by omega)
      rw [dec_big h]
      refine ⟨?_, by simp, fun _ => by omega⟩
      rw [List.append_assoc]
      show cnt e most (dec (m / 10) ++ UInt8.ofNat (48 + m % 10) :: l) 0 0 = _
      rw [ih.1, cnt, if_neg (by
        rintro ⟨h1, _⟩
        rw [← h1, hb] at he
        omega), if_neg (by
        rw [hb]
        rintro (h1 | h1 | ⟨h1, h2⟩) <;> omega), hb, if_neg (by omega), List.length_append, List.length_singleton, show 10 * (m / 10) + (48 + m % 10 - 48) = m by omega]
theorem cnt_print {e : UInt8} {most m : Nat} (he : e.toNat < 48 ∨ 57 < e.toNat) (hm : m ≤ most) (r : Bs) : cnt e most (dec m ++ e :: r) 0 0 = some (m, r) := by
  have h := cnt_digits he (e :: r) m m (Nat.le_refl _) hm (most := most)
  rw [h.1, cnt, if_pos ⟨rfl, h.2.1⟩]

theorem pNum_read {low high : Int} {l : Bs} {n : Nat} {r : Bs} (h : pNum low high l = some (n, r)) : l = num n ++ r ∧ low ≤ (n : Int) ∧ (n : Int) ≤ high := by
  unfold pNum at h
  cases hc : cnt 59 281474976710656 l 0 0 with
  | none => rw [hc] at h; cases h
  | some x =>
    obtain ⟨m, q⟩ := x
    rw [hc] at h
    simp only at h
    by_cases hb : low ≤ (m : Int) ∧ (m : Int) ≤ high
    · rw [if_pos hb] at h
      cases h
      have := (cnt_read hc).1
      exact ⟨by rw [this]; simp [num], hb.1, hb.2⟩
    · rw [if_neg hb] at h; cases h
theorem pNum_print {low high : Int} {n : Nat} (h1 : low ≤ (n : Int)) (h2 : (n : Int) ≤ high) (h3 : n ≤ 281474976710656) (r : Bs) : pNum low high (num n ++ r) = some (n, r) := by
  unfold pNum num
  rw [List.append_assoc, show ([59] : Bs) ++ r = 59 :: r from rfl, cnt_print (by decide) h3]
  simp only
  rw [if_pos ⟨h1, h2⟩]
theorem pTxt_read {most : Nat} {l s r : Bs} (h : pTxt most l = some (s, r)) : l = txt s ++ r ∧ s.length ≤ most ∧ s.length ≤ 65536 := by
  unfold pTxt at h
  cases hc : cnt 58 65536 l 0 0 with
  | none => rw [hc] at h; cases h
  | some x =>
    obtain ⟨m, q⟩ := x
    rw [hc] at h
    simp only at h
    by_cases h1 : q.length ≤ m
    · rw [if_pos h1] at h; cases h
    · rw [if_neg h1] at h
      by_cases h2 : q[m]? = some 44
      · rw [if_neg (by simpa using h2)] at h
        by_cases h3 : most < m
        · rw [if_pos h3] at h; cases h
        · rw [if_neg h3] at h
          cases h
          obtain ⟨hr, hm⟩ := cnt_read hc
          have hl : (q.take m).length = m := by simp; omega
          refine ⟨?_, by omega, by omega⟩
          unfold txt
          rw [hl, hr]
          have e : q = q.take m ++ 44 :: q.drop (m + 1) := by
            conv => lhs; rw [← List.take_append_drop m q]
            have hg : q[m]'(by omega) = 44 := by rw [List.getElem?_eq_getElem (by omega)] at h2; exact Option.some.inj h2
            rw [List.drop_eq_getElem_cons (show m < q.length by omega), hg]
          conv => lhs; rw [e]
          simp
      · rw [if_pos (by simpa using h2)] at h; cases h
theorem pTxt_print {most : Nat} {s : Bs} (h1 : s.length ≤ most) (h2 : s.length ≤ 65536) (r : Bs) : pTxt most (txt s ++ r) = some (s, r) := by
  unfold pTxt txt
  rw [List.append_assoc, show (58 :: (s ++ [44])) ++ r = 58 :: (s ++ 44 :: r) by simp, cnt_print (by decide) h2]
  simp only
  rw [if_neg (by simp), if_neg (by simp), if_neg (by omega)]
  simp

end Go.Proofs.YtkeaoejgboefbaaGreatDoor.C

/- The reference's leaves: decimal numbers, names, the bounds of arguments, finding a cell. -/
namespace Go.Proofs.YtkeaoejgboefbaaGreatDoor
open Go.RowKit Go.Maps

theorem dec_len : ∀ (k n : Nat), n < 10 ^ (k + 1) → (C.dec n).length ≤ k + 1
  | 0, n, h => by rw [C.dec_small (by omega)]; simp
  | k + 1, n, h => by
    by_cases hn : n < 10
    · rw [C.dec_small hn]; simp
    · rw [C.dec_big hn, List.length_append]
      have := dec_len k (n / 10) (by rw [Nat.pow_succ] at h; omega)
      simp; omega
theorem mk_add (l m : List UInt8) : E.mk l ++ E.mk m = E.mk (l ++ m) := by
  apply ByteArray.ext
  apply Array.toList_inj.1
  rw [ByteArray.data_append, Array.toList_append]
  rfl
/-- A digit's string. -/
def chr (d : Nat) : ByteArray := E.mk [UInt8.ofNat (48 + d)]
theorem chr_size (d : Nat) : (chr d).size = 1 := rfl
theorem one_byte (d : Nat) (hd : d < 10) (w' : World) (v : Int) (hv : v = 48 + (d : Int)) (p : Addr) (hc : w'.cell? p = some (.int .u8 v)) : (convert 148 9 (.slice (some p) 1 1)).run Tryz.prog w' = .ok (.string (chr d)) w' := by
  subst hv
  have hb := C.digit_back hd
  have := run_convert_bytes_back (P := Tryz.prog) w' 148 9 5 p 1 [UInt8.ofNat (48 + d)] Tryz.underlying148 Tryz.underlying5 Tryz.underlying9 (by
    intro i hi
    have : i = 0 := by simp at hi; omega
    subst this
    simp only [List.getElem_cons_zero]
    rw [hb]
    simpa [Addr.add] using hc)
  exact this
set_option maxRecDepth 4000 in
set_option maxHeartbeats 400000 in
theorem Decimal_one (n : Nat) (w : World) (h : n < 10) : Calls Tryz.prog 66 #[.int .i64 (n : Int)] w (Al (.string (E.mk (C.dec n))) w) := by
  have hd : Hid (E.mk (C.dec n) = chr n) := by unfold Hid; rw [C.dec_small h]; rfl
  have hcv : ∀ w' : World, (convert 148 9 (.slice (some ⟨w'.heap.size, 0, none⟩) 1 1)).run Tryz.prog (w'.alloc (.cells #[.int .u8 (48 + (n : Int))] 5)) = .ok (.string (chr n)) (w'.alloc (.cells #[.int .u8 (48 + (n : Int))] 5)) :=
    fun w' => one_byte n h _ _ rfl _ (cell_new w' _ 5 0)
  go_enter Tryz.func66, Tryz.ntmps66
  go_wp2_with fail
  go_ret
  exact ⟨by rw [hd.out]; rfl, (Ext.refl w).alloc _⟩

set_option maxRecDepth 4000 in
set_option maxHeartbeats 800000 in
theorem Decimal_step (n : Nat) (w : World) (h : ¬ n < 10) (hn : n ≤ 9223372036854775807) (ih : ∀ w', Calls Tryz.prog 66 #[.int .i64 ((n / 10 : Nat) : Int)] w' (Al (.string (E.mk (C.dec (n / 10)))) w')) : Calls Tryz.prog 66 #[.int .i64 (n : Int)] w (Al (.string (E.mk (C.dec n))) w) := by
  have IH := Lib.hid ih
  clear ih
  have hd : Hid (E.mk (C.dec n) = E.mk (C.dec (n / 10)) ++ chr (n % 10)) := by unfold Hid; rw [C.dec_big h]; exact (mk_add _ [UInt8.ofNat (48 + n % 10)]).symm
  have hl : (E.mk (C.dec (n / 10))).size ≤ 19 := by
    rw [E.mk_size]
    exact dec_len 18 (n / 10) (by omega)
  have q1 : (n : Int).tdiv 10 = ((n / 10 : Nat) : Int) := by rw [Int.tdiv_eq_ediv_of_nonneg (by omega)]; omega
  have q5 : (n : Int) / 10 = ((n / 10 : Nat) : Int) := by omega
  have q6 : (n : Int) % 10 = ((n % 10 : Nat) : Int) := by omega
  have q2 : (n : Int).tmod 10 = ((n % 10 : Nat) : Int) := by rw [Int.tmod_eq_emod_of_nonneg (by omega)]; omega
  have q3 : IntKind.i64.wrap (48 + ((n % 10 : Nat) : Int)) = 48 + ((n % 10 : Nat) : Int) := IntWalk.i64_in _ (by omega)
  have q4 : IntKind.u8.wrap (48 + ((n % 10 : Nat) : Int)) = 48 + ((n % 10 : Nat) : Int) := IntWalk.u8_in _ (by omega)
  have q7 : IntKind.i64.wrap ((n / 10 : Nat) : Int) = ((n / 10 : Nat) : Int) := IntWalk.i64_in _ (by omega)
  have hm : n % 10 < 10 := by omega
  have OB := Lib.hid (one_byte (n % 10) hm)
  go_enter Tryz.func66, Tryz.ntmps66
  go_wp2_with fail
  generalize E.mk (C.dec (n / 10)) = t at IH hd hl
  generalize n / 10 = a at IH q1 q5 q7
  generalize n % 10 = b at hd q2 q3 q4 q6 hm OB
  have hcv : ∀ w' : World, (convert 148 9 (.slice (some ⟨w'.heap.size, 0, none⟩) 1 1)).run Tryz.prog (w'.alloc (.cells #[.int .u8 (48 + (b : Int))] 5)) = .ok (.string (chr b)) (w'.alloc (.cells #[.int .u8 (48 + (b : Int))] 5)) :=
    fun w' => OB.out _ _ rfl _ (cell_new w' _ 5 0)
  have hcd : ∀ w' : World, (convert 148 9 (.slice (some ⟨w'.heap.size, 0, none⟩) 1 1)).run Tryz.prog (w'.alloc (.cells #[.int .u8 (48 + (b : Int))] 5)).drew = .ok (.string (chr b)) (w'.alloc (.cells #[.int .u8 (48 + (b : Int))] 5)).drew :=
    fun w' => OB.out _ _ rfl _ (cell_new w' _ 5 0)
  have hcs := chr_size b
  go_region_with (go_at_call 66; ((with_reducible refine (IH.out _).mono ?_); rintro e w1 ⟨rfl, d1⟩; first | (have hc1 := OB.out w1 _ rfl ⟨w.heap.size, 0, none⟩ (d1.keepc (p := ⟨w.heap.size, 0, none⟩) (v := .int .u8 (48 + (b : Int))) (cell_new w #[.int .u8 (48 + (b : Int))] 5 0))) | skip))
  all_goals
    go_wp2_with fail
    go_ret
    refine ⟨by rw [hd.out]; rfl, ?_⟩
    first
      | exact (((Ext.refl w).alloc _).drew).trans (by assumption)
      | exact ((Ext.refl w).drew.trans (by assumption)).alloc _
      | exact (Ext.refl w).drew.trans (by assumption)

theorem Decimal_any : ∀ (k n : Nat) (w : World), n < 10 ^ (k + 1) → n ≤ 9223372036854775807 → Calls Tryz.prog 66 #[.int .i64 (n : Int)] w (Al (.string (E.mk (C.dec n))) w) := by
  intro k
  induction k with
  | zero => intro n w hk hn; exact Decimal_one n w (by simpa using hk)
  | succ k ih =>
    intro n w hk hn
    by_cases h : n < 10
    · exact Decimal_one n w h
    · exact Decimal_step n w h hn fun w' => ih (n / 10) w' (by rw [Nat.pow_succ] at hk; omega) (by omega)
theorem Dec_any (n : Nat) (w : World) (hn : n ≤ 9223372036854775807) : Calls Tryz.prog 66 #[.int .i64 (n : Int)] w (Al (.string (E.mk (C.dec n))) w) :=
  Decimal_any 18 n w (by omega) hn


set_option maxRecDepth 100000 in
theorem refName_any (s : ByteArray) (w : World) (hs : s.size ≤ 9223372036854775807) : Calls Tryz.prog 56 #[.string s] w fun e w' => e = .returned (.bool (E.nameB s)) ∧ w = w' := by
  obtain ⟨R, hR⟩ : ∃ R, R = E.nameB s := ⟨_, rfl⟩
  rw [← hR]
  have HR := Lib.hid hR
  clear hR
  have HB : Hid (R = (decide (1 ≤ s.size) && decide (s.size ≤ 128) && s.data.toList.all byteB)) := Lib.hid (by rw [HR.out, nameB_is])
  clear HR
  go_enter Tryz.func56, Tryz.ntmps56
  go_wp2_with fail
  go_loopw [3] (fun i wr => ∃ k : Nat, k ≤ s.size ∧ i = .int .i64 k ∧ Hid (okTo s k) ∧ wr = w) (fun i _ => s.size - (intOf i).toNat)
  case atStart => exact ⟨0, Nat.zero_le _, rfl, rfl, rfl⟩
  case round =>
    obtain ⟨k, hk, rfl, HK, rfl⟩ := hrel
    by_cases hlt : k < s.size
    · have hb255 : s[k].toNat ≤ 255 := by have := s[k].toNat_lt; omega
      have HS := Lib.hid (fun hb => okTo_succ HK.out hlt hb)
      have HM := Lib.hid (fun hb => all_miss hlt hb)
      have hby : byteB s[k] = (decide (33 ≤ s[k].toNat) && decide (s[k].toNat ≤ 126)) := rfl
      have HBY := Lib.hid hby
      clear hby
      generalize hbn : s[k].toNat = n at hb255 HBY
      by_cases hlo : n < 33
      · have HF : Hid (R = false) := by unfold Hid; rw [HB.out, HM.out (by rw [HBY.out, decide_eq_false (by omega)]; rfl), Bool.and_false]
        go_wp2_with fail
        go_ret
        exact ⟨by rw [HF.out]; rfl, rfl⟩
      by_cases hhi : 126 < n
      · have HF : Hid (R = false) := by unfold Hid; rw [HB.out, HM.out (by rw [HBY.out, decide_eq_false (p := n ≤ 126) (by omega)]; simp), Bool.and_false]
        go_wp2_with fail
        go_ret
        exact ⟨by rw [HF.out]; rfl, rfl⟩
      have HK2 := Lib.hid (HS.out (by rw [HBY.out, decide_eq_true (by omega), decide_eq_true (by omega)]; rfl))
      go_wp2_with fail
      go_roundw
      case rel => exact ⟨k + 1, by omega, by go_num, HK2.out, trivial⟩
      case measure => simp [intOf]; omega
    · have HT : Hid (R = (decide (1 ≤ s.size) && decide (s.size ≤ 128))) := by
        have : k = s.size := by omega
        have h8 := HK.out
        rw [this] at h8
        unfold Hid; rw [HB.out, okTo_end h8, Bool.and_true]
      by_cases h0 : s.size < 1
      · have HF : Hid (R = false) := by unfold Hid; rw [HT.out, decide_eq_false (by omega)]; rfl
        go_wp2_with fail
        go_ret
        exact ⟨by rw [HF.out]; rfl, rfl⟩
      by_cases h1 : 128 < s.size
      · have HF : Hid (R = false) := by unfold Hid; rw [HT.out, decide_eq_false (p := s.size ≤ 128) (by omega)]; simp
        go_wp2_with fail
        go_ret
        exact ⟨by rw [HF.out]; show Ending.returned (.bool (decide ((s.size : Int) ≤ 128))) = _; rw [decide_eq_false (by omega)], rfl⟩
      have HF : Hid (R = true) := by unfold Hid; rw [HT.out, decide_eq_true (by omega), decide_eq_true (by omega)]; rfl
      go_wp2_with fail
      go_ret
      exact ⟨by rw [HF.out]; show Ending.returned (.bool (decide ((s.size : Int) ≤ 128))) = _; rw [decide_eq_true (by omega)], rfl⟩
/-- The bounds of arguments. -/
def lowA (x : Int) : Int := if x = 1 then 0 else if x = 2 then 0 else if x = 3 ∨ x = 6 then 1 else if x = 4 ∨ x = 7 then 2 else if x = 5 then 3 else 1
def highA (x : Int) : Int := if x = 1 then 0 else if x = 2 then 8 else if x = 3 ∨ x = 6 then 1 else if x = 4 ∨ x = 7 then 2 else if x = 5 then 3 else 0
theorem refArgs_any (x : Int) (w : World) (hx : (Lit.int .i64 x).wf = true) : Calls Tryz.prog 57 #[.int .i64 x] w fun e w' => e = .returned (.tuple #[.int .i64 (lowA x), .int .i64 (highA x)]) ∧ w = w' := by
  have h := wf_i64 hx
  by_cases h1 : x = 1
  · subst h1; go_enter Tryz.func57, Tryz.ntmps57; go_wp2_with fail; go_ret2; exact ⟨rfl, rfl⟩
  by_cases h2 : x = 2
  · subst h2; go_enter Tryz.func57, Tryz.ntmps57; go_wp2_with fail; go_ret2; exact ⟨rfl, rfl⟩
  by_cases h3 : x = 3
  · subst h3; go_enter Tryz.func57, Tryz.ntmps57; go_wp2_with fail; go_ret2; exact ⟨rfl, rfl⟩
  by_cases h4 : x = 4
  · subst h4; go_enter Tryz.func57, Tryz.ntmps57; go_wp2_with fail; go_ret2; exact ⟨rfl, rfl⟩
  by_cases h5 : x = 5
  · subst h5; go_enter Tryz.func57, Tryz.ntmps57; go_wp2_with fail; go_ret2; exact ⟨rfl, rfl⟩
  by_cases h6 : x = 6
  · subst h6; go_enter Tryz.func57, Tryz.ntmps57; go_wp2_with fail; go_ret2; exact ⟨rfl, rfl⟩
  by_cases h7 : x = 7
  · subst h7; go_enter Tryz.func57, Tryz.ntmps57; go_wp2_with fail; go_ret2; exact ⟨rfl, rfl⟩
  have e1 : lowA x = 1 := by unfold lowA; simp [h1, h2, h3, h4, h5, h6, h7]
  have e2 : highA x = 0 := by unfold highA; simp [h1, h2, h3, h4, h5, h6, h7]
  rw [e1, e2]
  have g1 : (x == 1) = false := by simpa using h1
  have g2 : (x == 2) = false := by simpa using h2
  have g3 : (x == 3) = false := by simpa using h3
  have g4 : (x == 4) = false := by simpa using h4
  have g5 : (x == 5) = false := by simpa using h5
  have g6 : (x == 6) = false := by simpa using h6
  have g7 : (x == 7) = false := by simpa using h7
  clear h1 h2 h3 h4 h5 h6 h7 e1 e2
  go_enter Tryz.func57, Tryz.ntmps57
  go_wp2_with fail
  go_ret2
  exact ⟨rfl, rfl⟩
end Go.Proofs.YtkeaoejgboefbaaGreatDoor

/- The reference's lines, contains, pick, find. -/
namespace Go.Proofs.YtkeaoejgboefbaaGreatDoor
open Go.RowKit Go.Maps

theorem ext_data (s : ByteArray) (f k : Nat) : s.extract f k = E.mk ((s.data.toList.drop f).take (k - f)) := by
  apply ByteArray.ext
  apply Array.toList_inj.1
  rw [Lib.extract_data]
  rfl
/-! ### lines -/
def cntTo (s : ByteArray) (k : Nat) : Nat := (s.data.toList.take k).count 10
theorem cntTo_succ {s : ByteArray} {k : Nat} (hk : k < s.size) : cntTo s (k + 1) = cntTo s k + if s[k] = 10 then 1 else 0 := by
  unfold cntTo
  have hl : k < s.data.toList.length := by rw [size_list]; exact hk
  have e : s.data.toList[k] = s[k] := by rw [Array.getElem_toList]; rfl
  rw [List.take_succ_eq_append_getElem hl, List.count_append, e, List.count_singleton]
  congr 1
  by_cases h : s[k] = 10
  · rw [if_pos h, h]; rfl
  · rw [if_neg h, if_neg (by simpa using h)]
theorem cntTo_le (s : ByteArray) (k : Nat) : cntTo s k ≤ k := Nat.le_trans List.count_le_length (List.length_take_le k _)
set_option maxRecDepth 100000 in
theorem refLines_any (s : ByteArray) (w : World) (hs : s.size ≤ 9000000) : Calls Tryz.prog 67 #[.string s] w fun e w' => e = .returned (.int .i64 (E.linesN s)) ∧ w = w' := by
  obtain ⟨R, hR⟩ : ∃ R, R = E.linesN s := ⟨_, rfl⟩
  rw [← hR]
  have HR := Lib.hid hR
  clear hR
  by_cases h0 : s.size = 0
  · have HF : Hid (R = 0) := Lib.hid (by rw [HR.out]; unfold E.linesN; rw [if_pos h0])
    have hem : s.toList.isEmpty = true := by rw [empty_dec, decide_eq_true h0]
    clear h0
    go_enter Tryz.func67, Tryz.ntmps67
    go_wp2_with fail
    go_ret
    exact ⟨by rw [HF.out]; rfl, rfl⟩
  · have HF : Hid (R = cntTo s s.size + 1) := Lib.hid (by rw [HR.out]; unfold E.linesN cntTo; rw [if_neg h0, List.take_of_length_le (by rw [size_list]; exact Nat.le_refl _)])
    have hem : s.toList.isEmpty = false := by rw [empty_dec, decide_eq_false h0]
    clear h0 HR
    go_enter Tryz.func67, Tryz.ntmps67
    go_wp2_with fail
    go_loopw [3, 4] (fun c i wr => ∃ k q : Nat, k ≤ s.size ∧ i = .int .i64 k ∧ c = .int .i64 ((q : Int) + 1) ∧ q ≤ k ∧ Hid (q = cntTo s k) ∧ wr = w) (fun _ i _ => s.size - (intOf i).toNat)
    case atStart => exact ⟨0, 0, Nat.zero_le _, rfl, rfl, Nat.zero_le _, rfl, rfl⟩
    case round =>
      obtain ⟨k, q, hk, rfl, rfl, hqk, HK, rfl⟩ := hrel
      by_cases hlt : k < s.size
      · have hb255 : s[k].toNat ≤ 255 := by have := s[k].toNat_lt; omega
        have hsu := cntTo_succ hlt
        by_cases hc : s[k] = 10
        · have e1 : ((s[k].toNat : Int) == 10) = true := by rw [hc]; rfl
          have HQ : Hid (q + 1 = cntTo s (k + 1)) := Lib.hid (by rw [hsu, if_pos hc, HK.out])
          clear hsu hc
          go_wp2_with fail
          go_roundw
          case rel => exact ⟨k + 1, q + 1, by omega, by go_num, by go_num, by omega, HQ, trivial⟩
          case measure => simp [intOf]; omega
        · have e1 : ((s[k].toNat : Int) == 10) = false := by
            rw [beq_eq_false_iff_ne]
            intro e
            refine hc (UInt8.toNat_inj.1 ?_)
            have : (10 : UInt8).toNat = 10 := rfl
            omega
          have HQ : Hid (q = cntTo s (k + 1)) := Lib.hid (by rw [hsu, if_neg hc, HK.out]; rfl)
          clear hsu hc
          go_wp2_with fail
          go_roundw
          case rel => exact ⟨k + 1, q, by omega, by go_num, rfl, by omega, HQ, trivial⟩
          case measure => simp [intOf]; omega
      · have hkk : k = s.size := by omega
        subst hkk
        go_wp2_with fail
        go_ret
        exact ⟨by rw [HF.out, ← HK.out]; simp, rfl⟩
/-! ### contains -/
theorem occ_slice {s p : ByteArray} {i : Nat} (_ : i + p.size ≤ s.size) : ((s.extract i (i + p.size)).toList == p.toList) = Lib.occAt s.data.toList p.data.toList i := by
  rw [Bool.eq_iff_iff, beq_iff_eq, ByteArray.toList_eq, ByteArray.toList_eq]
  unfold Lib.occAt
  rw [Lib.extract_data, List.isPrefixOf_iff_prefix, List.prefix_iff_eq_take, show i + p.size - i = p.data.toList.length by rw [size_list]; omega]
  exact eq_comm
set_option maxRecDepth 100000 in
theorem refContains_any (s p : ByteArray) (w : World) (hs : s.size ≤ 9000000) (hp : p.size ≤ 9000000) : Calls Tryz.prog 84 #[.string s, .string p] w fun e w' => e = .returned (.bool (Lib.contains s.data.toList p.data.toList)) ∧ w = w' := by
  obtain ⟨R, hR⟩ : ∃ R, R = Lib.contains s.data.toList p.data.toList := ⟨_, rfl⟩
  rw [← hR]
  have HR := Lib.hid hR
  clear hR
  go_enter Tryz.func84, Tryz.ntmps84
  go_wp2_with fail
  go_loopw [5] (fun i wr => ∃ k : Nat, k ≤ s.size + 1 ∧ i = .int .i64 k ∧ Hid (∀ j, j < k → Lib.occAt s.data.toList p.data.toList j = false) ∧ wr = w) (fun i _ => s.size + 1 - (intOf i).toNat)
  case atStart => exact ⟨0, Nat.zero_le _, rfl, (fun j hj => absurd hj (Nat.not_lt_zero _)), rfl⟩
  case round =>
    obtain ⟨k, hk, rfl, HK, rfl⟩ := hrel
    by_cases hlt : k + p.size ≤ s.size
    · have ho := occ_slice hlt
      cases hoc : Lib.occAt s.data.toList p.data.toList k with
      | true =>
        rw [hoc] at ho
        have HT : Hid (R = true) := Lib.hid (by
          rw [HR.out]
          unfold Lib.contains
          rw [Lib.index_first (i := k) (by rw [size_list]; omega) hoc HK.out]
          simp)
        clear hoc
        go_wp2_with fail
        go_ret
        exact ⟨by rw [HT.out]; rfl, rfl⟩
      | false =>
        rw [hoc] at ho
        have HK2 : Hid (∀ j, j < k + 1 → Lib.occAt s.data.toList p.data.toList j = false) := Lib.hid fun j hj => by
          by_cases e : j = k
          · subst e; exact hoc
          · exact HK.out j (by omega)
        clear hoc
        go_wp2_with fail
        go_roundw
        case rel => exact ⟨k + 1, by omega, by go_num, HK2, trivial⟩
        case measure => simp [intOf]; omega
    · have HT : Hid (R = false) := Lib.hid (by
        rw [HR.out]
        unfold Lib.contains
        rw [Lib.index_none fun j _ => ?_]
        · rfl
        · by_cases hj : j < k
          · exact HK.out j hj
          · rw [Bool.eq_false_iff]
            intro h
            rcases Lib.occAt_room h with h' | h'
            · rw [size_list, size_list] at h'; omega
            · have := HK.out 0 (by
                have : p.size = 0 := by rw [← size_list, h']; rfl
                omega)
              rw [h'] at this
              simp [Lib.occAt] at this)
      go_wp2_with fail
      go_ret
      exact ⟨by rw [HT.out]; rfl, rfl⟩
end Go.Proofs.YtkeaoejgboefbaaGreatDoor

/- The reference's find; its engine in memory. -/
namespace Go.Proofs.YtkeaoejgboefbaaGreatDoor
open Go.RowKit Go.Maps

/-- Where a name stands. -/
def FoundAt (cs : List E.Cell) (n : ByteArray) (r : Int) : Prop := (E.findC cs n = none ∧ r = -1) ∨ ∃ i, ∃ h : i < cs.length, cs[i].1 = n ∧ E.findC cs n = some cs[i] ∧ r = i ∧ ∀ j (hj : j < cs.length), j < i → cs[j].1 ≠ n
theorem findC_first {cs : List E.Cell} {n : ByteArray} {k : Nat} (hk : k < cs.length) (h : cs[k].1 = n) (hno : ∀ j (hj : j < cs.length), j < k → cs[j].1 ≠ n) : E.findC cs n = some cs[k] := by
  unfold E.findC
  rw [List.find?_eq_some_iff_getElem]
  refine ⟨decide_eq_true h, k, hk, rfl, fun j hj => ?_⟩
  simpa using hno j (by omega) hj
theorem findC_none {cs : List E.Cell} {n : ByteArray} (hno : ∀ j (hj : j < cs.length), cs[j].1 ≠ n) : E.findC cs n = none := by
  unfold E.findC
  rw [List.find?_eq_none]
  intro c hc hd
  obtain ⟨j, hj, rfl⟩ := List.getElem_of_mem hc
  exact hno j hj (of_decide_eq_true hd)
set_option maxRecDepth 100000 in
set_option maxHeartbeats 2000000 in
theorem refFind_any {w : World} {g o : Nat} {A : Option Addr} {kc L : Nat} {B : Nat → Prop} {cs : List E.Cell} (hc : w.cell? ⟨g, o, none⟩ = some (.slice A L kc)) (hA : SliceAt cellR w B A kc cs) (hL : L = cs.length) (n : ByteArray) :
    Calls Tryz.prog 45 #[.pointer (some ⟨g, o, none⟩), .string n] w fun e w' => w = w' ∧ ∃ r : Int, e = .returned (.int .i64 r) ∧ FoundAt cs n r := by
  have HA := Lib.hid hA
  have HL := Lib.hid hL
  have hL63 : (L : Int) ≤ 9223372036854775807 := by have := hA.1; have := hA.2.1; omega
  clear hA hL
  go_enter Tryz.func45, Tryz.ntmps45
  go_wp2_with fail
  go_loopw [5] (fun i wr => ∃ k : Nat, k ≤ L ∧ i = .int .i64 k ∧ Hid (∀ j (hj : j < cs.length), j < k → cs[j].1 ≠ n) ∧ wr = w) (fun i _ => L - (intOf i).toNat)
  case atStart => exact ⟨0, Nat.zero_le _, rfl, (fun j _ hj => absurd hj (Nat.not_lt_zero _)), rfl⟩
  case round =>
    obtain ⟨k, hk, rfl, HN, rfl⟩ := hrel
    by_cases hlt : k < L
    · have hkl : k < cs.length := by have := HL.out; omega
      obtain ⟨b, off, A2, k2, hAe, hbb, d0, d1, d2, d3, z1, z2, z3, z4⟩ := cell_get HA.out hkl
      subst hAe
      by_cases he : cs[k].1 = n
      · have e1 : (cs[k].1.toList == n.toList) = true := by rw [he]; simp
        have HF : Hid (FoundAt cs n (k : Int)) := Lib.hid (.inr ⟨k, hkl, he, findC_first hkl he HN.out, rfl, HN.out⟩)
        clear he d1 d2 d3 z2 z3 z4
        generalize cs[k].1 = x at *
        go_wp2_with fail
        go_ret
        exact ⟨rfl, _, rfl, HF.out⟩
      · have e1 : (cs[k].1.toList == n.toList) = false := by
          rw [beq_eq_false_iff_ne, ByteArray.toList_eq, ByteArray.toList_eq]
          exact fun e => he (bytes_inj e)
        have HN2 : Hid (∀ j (hj : j < cs.length), j < k + 1 → cs[j].1 ≠ n) := Lib.hid fun j hj hjk => by
          by_cases e : j = k
          · subst e; exact he
          · exact HN.out j hj (by omega)
        clear he d1 d2 d3 z2 z3 z4
        generalize cs[k].1 = x at *
        go_wp2_with fail
        go_roundw
        case rel => exact ⟨k + 1, by omega, by go_num, HN2, trivial⟩
        case measure => simp [intOf]; omega
    · have HF : Hid (FoundAt cs n (-1)) := Lib.hid (.inl ⟨findC_none fun j hj => HN.out j hj (by have := HL.out; omega), rfl⟩)
      go_wp2_with fail
      go_ret
      exact ⟨rfl, _, rfl, HF.out⟩
end Go.Proofs.YtkeaoejgboefbaaGreatDoor
