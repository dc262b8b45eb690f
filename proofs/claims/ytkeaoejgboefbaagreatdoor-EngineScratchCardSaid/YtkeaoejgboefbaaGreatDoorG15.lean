/- The texts Kg of the seat, joined. -/
import Derived.Test.YtkeaoejgboefbaaGreatDoorG14
import Derived.BigQuiet
/- both.act: both answer alike. -/
namespace Go.Proofs.YtkeaoejgboefbaaGreatDoor
open Go.RowKit Go.Maps

theorem actN_size {cs : List E.Cell} (h : E.newErr cs = 0) (c : Nat) : (actN cs c).size ≤ 200 := by
  unfold actN
  split
  · decide
  · rename_i hne
    have hlt : c % (cs.length + 1) < cs.length := by have := Nat.mod_lt c (show 0 < cs.length + 1 by omega); omega
    rw [nmAt_get hlt]
    have := ((newErr_formed h).2 _ (List.getElem_mem hlt)).2
    unfold E.nameB at this
    simp only [Bool.and_eq_true, decide_eq_true_eq] at this
    omega
/-- What an act answers. -/
def RetAct (w : World) (base : Nat) (D : Nat → Prop) (g : Nat) (e' : E.En) (ed : Ending) (w' : World) : Prop := ed = .returned (.bool true) ∧ Tch D w w' ∧ ∃ D', BothAt w' base D' g e' ∧ ∀ k, D' k → D k ∨ w.heap.size ≤ k
theorem RetAct.ahead {w w1 : World} {base g : Nat} {D : Nat → Prop} {e' : E.En} {ed : Ending} {w' : World} (hx : Ext w w1) (h : RetAct w1 base D g e' ed w') : RetAct w base D g e' ed w' := by
  obtain ⟨h1, h2, D', h3, h4⟩ := h
  exact ⟨h1, (hx.tch D).trans h2, D', h3, fun k hk => (h4 k hk).imp_right fun h => Nat.le_trans hx.size h⟩
/-- The engine's blocks have turned: the model's are as they were. -/
theorem ref_keep {w w1 : World} {base g : Nat} {D S S2 : Nat → Prop} {ge bc bi br : Nat} {p : Plc} {ft : Int} {e : E.En} (h : BothRow w base D g S S2 ge bc bi br p ft e) (ht : Tch (fun k => k = ge ∨ k = bi ∨ k = br) w w1) : RefAt w1 S2 p 0 ft [] e ∧ w1.cell? ⟨g, 0, none⟩ = some (.pointer (some ⟨ge, 0, none⟩)) := by
  obtain ⟨a1, a2, a3⟩ := h.apart2
  have key : ∀ k, (k = ge ∨ k = bi ∨ k = br) → k ≠ g ∧ k ≠ p.bv ∧ k ≠ p.bm := fun k hk => by
    refine ⟨fun e => ?_, fun e => ?_, fun e => ?_⟩
    · obtain ⟨b1, b2, b3, b4, _⟩ := h.apart k (.inl e)
      rcases hk with hk | hk | hk <;> contradiction
    · obtain ⟨b1, b2, b3, b4, _⟩ := h.apart k (.inr (.inl e))
      rcases hk with hk | hk | hk <;> contradiction
    · obtain ⟨b1, b2, b3, b4, _⟩ := h.apart k (.inr (.inr e))
      rcases hk with hk | hk | hk <;> contradiction
  refine ⟨h.ref.tch ht fun k hk => ⟨by rw [h.at'.1]; exact (key k hk).1, (key k hk).2.1, (key k hk).2.2, fun hs => ?_⟩, ht.keepc h.ptr fun hk => (key _ hk).1 rfl⟩
  rcases hk with rfl | rfl | rfl <;> contradiction
theorem box_off {w w2 : World} {base g : Nat} {D S S2 : Nat → Prop} {ge bc bi br : Nat} {p : Plc} {ft : Int} {e : E.En} (h : BothRow w2 base D g S S2 ge bc bi br p ft e) (hd : ∀ k, D k → k < w.heap.size) : ¬ (w.heap.size = ge ∨ w.heap.size = bi ∨ w.heap.size = br) := by
  obtain ⟨m1, m2, m3, m4, _⟩ := h.mine
  have h1 := hd _ m1
  have h3 := hd _ m3
  have h4 := hd _ m4
  omega
theorem act_done {w w1 w2 : World} {base g : Nat} {D S S2 S' S2' : Nat → Prop} {ge bc bi br br' : Nat} {p : Plc} {ft ft' : Int} {e e' : E.En} {bm om cm : Nat} (h : BothRow w base D g S S2 ge bc bi br p ft e) (hbase : base ≤ w.heap.size)
    (ht : Tch (fun k => k = ge ∨ k = bi ∨ k = br) w w1) (he : EngAt w1 S' ge bc bi br' e') (hS : ∀ k, S' k → S k ∨ w.heap.size ≤ k) (hb : br' = br ∨ w.heap.size ≤ br')
    (ht2 : Tch (fun k => k = p.g ∨ k = p.bv ∨ k = p.bm) w1 w2) (hr : RefAt w2 S2' { p with bm := bm, om := om, cm := cm } 0 ft' [] e') (hS2 : ∀ k, S2' k → S2 k ∨ w1.heap.size ≤ k) (hm : bm = p.bm ∨ w1.heap.size ≤ bm) : RetAct w base D g e' (.returned (.bool true)) w2 := by
  obtain ⟨h1, h2⟩ := h.turned hbase ht he hS hb ht2 hr hS2 hm
  exact ⟨rfl, h1, _, ⟨_, _, _, _, _, _, _, _, h2⟩, fun k hk => hk.2⟩
set_option maxRecDepth 100000 in
set_option maxHeartbeats 8000000 in
theorem act_row {w : World} {base g : Nat} {D S S2 : Nat → Prop} {ge bc bi br : Nat} {p : Plc} {ft : Int} {e : E.En} {cs : List E.Cell} {m : Nat} (h : BothRow w base D g S S2 ge bc bi br p ft e) (hg : Gl w) (hb : base ≤ w.heap.size) (hlow : ∀ k, Lib0 k → k < base) (hfit : Fit cs m e) (hm : m ≤ 1000000)
    {a1 : Int} {c : Nat} {av : ByteArray} (hc : c ≤ 255) (ha0 : 0 ≤ a1) (hz : av.size ≤ 9223372036854775807) :
    Calls Tryz.prog 11 #[.pointer (some ⟨g, 0, none⟩), .agg #[.int .u8 a1, .int .u8 c, .string av]] w (RetAct w base D g (actE e (a1, c, av))) := by
  obtain ⟨pg, po, pr, pA, pkc, pbv, pov, pcv, pbm, pom, pcm⟩ := p
  obtain ⟨hpg, hpo, hpr⟩ := h.at'
  have hpg : pg = g := hpg
  have hpo : po = 1 := hpo
  subst hpg hpo
  obtain ⟨W1, hW1⟩ : ∃ W1, W1 = w.alloc (.cells #[.int .u8 a1, .int .u8 c, .string av] 31) := ⟨_, rfl⟩
  have X1 : Ext w W1 := by rw [hW1]; exact (Ext.refl w).alloc _
  have K1 : Hid (W1.heap[w.heap.size]? = some (.cells #[.int .u8 a1, .int .u8 c, .string av] 31 (0, 0))) := Lib.hid (by rw [hW1]; exact heap_alloc_new w _)
  have b0 : W1.cell? ⟨w.heap.size, 0, none⟩ = some (.int .u8 a1) := by rw [new_off K1.out]; rfl
  have b1 : W1.cell? ⟨w.heap.size, 1, none⟩ = some (.int .u8 c) := by rw [new_off K1.out]; rfl
  have b2 : W1.cell? ⟨w.heap.size, 2, none⟩ = some (.string av) := by rw [new_off K1.out]; rfl
  have HB := Lib.hid (h.ext X1)
  have HG := Lib.hid (hg.ext X1)
  have HX1 := Lib.hid X1
  have hfew := hfit.few
  have hlen : e.cells.length ≤ 1000 := by rw [hfit.cells]; omega
  have HLEN := Lib.hid hlen
  have HF := Lib.hid hfit
  have hrev : e.rev < 4000000000000000000 := by have := hfit.rev; omega
  have hcnt : e.st.cnt ≤ 4000000000000000000 := by have := hfit.cnt; omega
  have hnz : (actN e.cells c).size ≤ 200 := by rw [hfit.cells]; exact actN_size hfit.right c
  obtain ⟨k8, hk8⟩ : ∃ k8, k8 = a1 % 8 := ⟨_, rfl⟩
  have hk1 : a1.tmod 8 = k8 := by rw [Int.tmod_eq_emod_of_nonneg ha0, hk8]
  have hk2 : a1 % 8 = k8 := hk8.symm
  have hk3 : 0 ≤ k8 := by omega
  have hk4 : k8 < 8 := by omega
  have HAE : Hid (actE e (a1, (c : Int), av) = if k8 ≤ 2 then (E.setE e (actN e.cells c) av).2 else if k8 = 3 then (E.clearE e (actN e.cells c)).2 else (E.getE e (actN e.cells c)).2.2) := Lib.hid (by rw [hk8]; rfl)
  obtain ⟨e', he'⟩ : ∃ e', e' = actE e (a1, (c : Int), av) := ⟨_, rfl⟩
  rw [← he'] at HAE ⊢
  have HNM := Lib.hid (fun W (hx : Ext w W) => refName18_any (w := W) (A := pA) (kc := pkc) (n := e.cells.length) (c := c) (cs := e.cells) ((h.ext hx).ref.args.keep (fun k hk => (h.ext hx).ref.lt k hk) fun _ _ => rfl) rfl hlen hc (.int .u8 a1) (.string av) rfl rfl)
  obtain ⟨nm, hnm⟩ : ∃ nm, nm = actN e.cells c := ⟨_, rfl⟩
  rw [← hnm] at HNM HAE hnz
  have hn63 : nm.size ≤ 9223372036854775807 := by omega
  obtain ⟨L, hL⟩ : ∃ L, L = e.cells.length := ⟨_, rfl⟩
  rw [← hL] at HNM
  have q0 := HB.out.ptr
  have q1 : W1.cell? ⟨pg, 1, none⟩ = some (.slice pA L pkc) := by rw [hL]; exact HB.out.ref.row.cells.1
  have HOFF : Hid (¬ Lib0 ge ∧ ¬ Lib0 br) := Lib.hid ⟨fun hk => by have := hlow _ hk; have := (h.dom _ h.mine.1).1; omega, fun hk => by have := hlow _ hk; have := (h.dom _ h.mine.2.2.2.1).1; omega⟩
  have HDM : Hid (∀ k, D k → k < w.heap.size) := Lib.hid fun k hk => (h.dom k hk).2
  have HLOW := Lib.hid hlow
  have HBS : Hid (base ≤ W1.heap.size) := Lib.hid (Nat.le_trans hb X1.size)
  clear h hg hfit hpr he' hnm hL hk8 X1 hb hlow hlen
  obtain ⟨Φ, hΦ⟩ : ∃ Φ : World → Prop, ∀ w', Φ w' ↔ (w'.cell? ⟨pg, 1, none⟩ = some (.slice pA L pkc) ∧ w'.cell? ⟨w.heap.size, 0, none⟩ = some (.int .u8 a1) ∧ w'.cell? ⟨w.heap.size, 1, none⟩ = some (.int .u8 c) ∧ w'.cell? ⟨w.heap.size, 2, none⟩ = some (.string av)) := ⟨_, fun _ => Iff.rfl⟩
  have h0 : Φ W1.drew := (hΦ _).2 ⟨q1, b0, b1, b2⟩
  have fx0 : ∀ x : Lat Φ, x.w'.cell? ⟨pg, 1, none⟩ = some (.slice pA L pkc) := fun x => ((hΦ _).1 x.h).1
  have fx1 : ∀ x : Lat Φ, x.w'.cell? ⟨w.heap.size, 0, none⟩ = some (.int .u8 a1) := fun x => ((hΦ _).1 x.h).2.1
  have fx2 : ∀ x : Lat Φ, x.w'.cell? ⟨w.heap.size, 1, none⟩ = some (.int .u8 c) := fun x => ((hΦ _).1 x.h).2.2.1
  have fx3 : ∀ x : Lat Φ, x.w'.cell? ⟨w.heap.size, 2, none⟩ = some (.string av) := fun x => ((hΦ _).1 x.h).2.2.2
  have hne1 := Lat.some h0
  have HΦ := Lib.hid hΦ
  clear hΦ
  go_enter Tryz.func11, Tryz.ntmps11
  go_upto_region 1 with (fail)
  rw [← hW1]
  clear hW1
  refine wp_region_lat [6] Φ h0 (by kernel_rfl) (by kernel_rfl) (by kernel_rfl) ?_
  iterate 6 (refine lex_pure rfl rfl rfl ?_; intro K hK; go_big_quiet_op; go_big_quiet_on)
  refine lex_eff rfl ?_
  go_wp2_with fail
  refine (HNM.out _ HX1.out.drew).mono ?_
  rintro ed w2 ⟨rfl, x2⟩
  have HX2 := Lib.hid ((Ext.refl W1).drew.trans x2)
  have HP2 := Lib.hid ((HΦ.out w2).2 ⟨HX2.out.keepc q1, HX2.out.keepc b0, HX2.out.keepc b1, HX2.out.keepc b2⟩)
  go_wp2_with fail
  refine ⟨⟨⟨w2, HP2.out⟩, rfl⟩, ?_⟩
  iterate 1 (refine lex_pure rfl rfl rfl ?_; intro K hK; go_big_quiet_op; go_big_quiet_on)
  refine lex_nil ?_
  have HB2 := Lib.hid (HB.out.ext HX2.out)
  have HG2 := Lib.hid (HG.out.ext HX2.out)
  have HBS2 : Hid (base ≤ w2.heap.size) := Lib.hid (Nat.le_trans HBS.out HX2.out.size)
  have HX02 := Lib.hid (HX1.out.trans HX2.out)
  replace q0 := HX2.out.keepc q0
  replace b0 := HX2.out.keepc b0
  replace b2 := HX2.out.keepc b2
  clear fx0 fx1 fx2 fx3 hne1 h0 q1 b1 HΦ HP2 x2 Φ HNM
  by_cases h2 : k8 ≤ 2
  · have HAS : Hid (e' = (E.setE e nm av).2) := Lib.hid (by rw [HAE.out, if_pos h2])
    have HC1 := Lib.hid (fun W (hx : Ext w2 W) => Set_any (HB2.out.ext hx).eng HF.out.eok hrev hn63 hz)
    have HC2 := Lib.hid (fun (W : World) (hr : RefAt W S2 ⟨pg, 1, pr, pA, pkc, pbv, pov, pcv, pbm, pom, pcm⟩ 0 ft [] e) => refSet_any hr HF.out.once hrev HLEN.out (n := nm) hz)
    obtain ⟨y, hy⟩ : ∃ y, y = (E.setE e nm av).1 := ⟨_, rfl⟩
    rw [← HAS.out, ← hy] at HC1 HC2
    have hyy : (y == y) = true := by simp
    clear hy HAE
    obtain ⟨Φ, hΦ⟩ : ∃ Φ : World → Prop, ∀ w', Φ w' ↔ (w'.cell? ⟨pg, 0, none⟩ = some (.pointer (some ⟨ge, 0, none⟩)) ∧ w'.cell? ⟨w.heap.size, 2, none⟩ = some (.string av)) := ⟨_, fun _ => Iff.rfl⟩
    have h0 : Φ w2.drew := (hΦ _).2 ⟨q0, b2⟩
    have fx0 : ∀ x : Lat Φ, x.w'.cell? ⟨pg, 0, none⟩ = some (.pointer (some ⟨ge, 0, none⟩)) := fun x => ((hΦ _).1 x.h).1
    have fx1 : ∀ x : Lat Φ, x.w'.cell? ⟨w.heap.size, 2, none⟩ = some (.string av) := fun x => ((hΦ _).1 x.h).2
    have hne1 := Lat.some h0
    have HΦ := Lib.hid hΦ
    clear hΦ
    go_upto_region 4 with (fail)
    refine wp_region_lat [7, 14] Φ h0 (by kernel_rfl) (by kernel_rfl) (by kernel_rfl) ?_
    iterate 7 (refine lex_pure rfl rfl rfl ?_; intro K hK; go_big_quiet_op; go_big_quiet_on)
    refine lex_eff rfl ?_
    go_wp2_with fail
    refine (HC1.out _ (Ext.refl w2).drew).mono ?_
    rintro ed w3 ⟨rfl, he3, t3⟩
    have HE3 := Lib.hid he3
    have HT3 : Hid (Tch (fun k => k = ge ∨ k = bi ∨ k = br) w2 w3) := Lib.hid ((((Ext.refl w2).drew).tch _).trans (t3.mono fun k _ hk => by rcases hk with h | h; exact .inl h; exact .inr (.inl h)))
    obtain ⟨hr3, q3⟩ := ref_keep HB2.out HT3.out
    have b3 : w3.cell? ⟨w.heap.size, 2, none⟩ = some (.string av) := HT3.out.keepc b2 (box_off HB2.out HDM.out)
    have HC3 := Lib.hid (HC2.out w3 hr3)
    have HP3 := Lib.hid ((HΦ.out w3).2 ⟨q3, b3⟩)
    clear he3 t3 hr3 q3 b3 HC1 HC2
    go_wp2_with fail
    refine ⟨⟨⟨w3, HP3.out⟩, rfl⟩, ?_⟩
    iterate 6 (refine lex_pure rfl rfl rfl ?_; intro K hK; go_big_quiet_op; go_big_quiet_on)
    refine lex_eff rfl ?_
    go_wp2_with fail
    refine HC3.out.mono ?_
    rintro ed w4 ⟨rfl, hr4, t4⟩
    obtain ⟨tD, hB4⟩ := HB2.out.turned HBS2.out HT3.out HE3.out (fun k hk => .inl hk) (.inl rfl) (t4.mono fun k _ hk => by rcases hk with h | h; exact .inl h; exact .inr (.inl h)) (bm := pbm) (om := pom) (cm := pcm) hr4 (fun k hk => .inl hk) (.inl rfl)
    have HP4 := Lib.hid ((HΦ.out w4).2 ⟨hB4.ptr, tD.keepc b2 fun hk => Nat.lt_irrefl _ (HDM.out _ hk)⟩)
    have HTD := Lib.hid tD
    have HB4 := Lib.hid hB4
    clear hr4 t4 tD hB4 HC3
    go_wp2_with fail
    refine ⟨⟨⟨w4, HP4.out⟩, rfl⟩, ?_⟩
    iterate 2 (refine lex_pure rfl rfl rfl ?_; intro K hK; go_big_quiet_op; go_big_quiet_on)
    refine lex_nil ?_
    clear fx0 fx1 hne1 h0 HΦ
    go_wp2_with fail
    go_ret
    exact RetAct.ahead HX02.out ⟨rfl, HTD.out, _, ⟨_, _, _, _, _, _, _, _, HB4.out⟩, fun k hk => hk.2⟩
  · by_cases h3 : k8 = 3
    · have HAS : Hid (e' = (E.clearE e nm).2) := Lib.hid (by rw [HAE.out, if_neg h2, if_pos h3])
      have HC1 := Lib.hid (fun W (hx : Ext w2 W) => Clear_any (HB2.out.ext hx).eng hrev hn63)
      have HC2 := Lib.hid (fun (W : World) (hr : RefAt W S2 ⟨pg, 1, pr, pA, pkc, pbv, pov, pcv, pbm, pom, pcm⟩ 0 ft [] e) => refClear_any hr HF.out.once hrev HLEN.out (n := nm))
      obtain ⟨y, hy⟩ : ∃ y, y = (E.clearE e nm).1 := ⟨_, rfl⟩
      rw [← HAS.out, ← hy] at HC1 HC2
      have hyy : (y == y) = true := by simp
      clear hy HAE
      obtain ⟨Φ, hΦ⟩ : ∃ Φ : World → Prop, ∀ w', Φ w' ↔ (w'.cell? ⟨pg, 0, none⟩ = some (.pointer (some ⟨ge, 0, none⟩)) ∧ w'.cell? ⟨w.heap.size, 2, none⟩ = some (.string av)) := ⟨_, fun _ => Iff.rfl⟩
      have h0 : Φ w2.drew := (hΦ _).2 ⟨q0, b2⟩
      have fx0 : ∀ x : Lat Φ, x.w'.cell? ⟨pg, 0, none⟩ = some (.pointer (some ⟨ge, 0, none⟩)) := fun x => ((hΦ _).1 x.h).1
      have fx1 : ∀ x : Lat Φ, x.w'.cell? ⟨w.heap.size, 2, none⟩ = some (.string av) := fun x => ((hΦ _).1 x.h).2
      have hne1 := Lat.some h0
      have HΦ := Lib.hid hΦ
      clear hΦ
      go_upto_region 6 with (fail)
      refine wp_region_lat [5, 10] Φ h0 (by kernel_rfl) (by kernel_rfl) (by kernel_rfl) ?_
      iterate 5 (refine lex_pure rfl rfl rfl ?_; intro K hK; go_big_quiet_op; go_big_quiet_on)
      refine lex_eff rfl ?_
      go_wp2_with fail
      refine (HC1.out _ (Ext.refl w2).drew).mono ?_
      rintro ed w3 ⟨rfl, he3, t3⟩
      have HE3 := Lib.hid he3
      have HT3 : Hid (Tch (fun k => k = ge ∨ k = bi ∨ k = br) w2 w3) := Lib.hid ((((Ext.refl w2).drew).tch _).trans (t3.mono fun k _ hk => by rcases hk with h | h; exact .inl h; exact .inr (.inl h)))
      obtain ⟨hr3, q3⟩ := ref_keep HB2.out HT3.out
      have b3 : w3.cell? ⟨w.heap.size, 2, none⟩ = some (.string av) := HT3.out.keepc b2 (box_off HB2.out HDM.out)
      have HC3 := Lib.hid (HC2.out w3 hr3)
      have HP3 := Lib.hid ((HΦ.out w3).2 ⟨q3, b3⟩)
      clear he3 t3 hr3 q3 b3 HC1 HC2
      go_wp2_with fail
      refine ⟨⟨⟨w3, HP3.out⟩, rfl⟩, ?_⟩
      iterate 4 (refine lex_pure rfl rfl rfl ?_; intro K hK; go_big_quiet_op; go_big_quiet_on)
      refine lex_eff rfl ?_
      go_wp2_with fail
      refine HC3.out.mono ?_
      rintro ed w4 ⟨rfl, hr4, t4⟩
      obtain ⟨tD, hB4⟩ := HB2.out.turned HBS2.out HT3.out HE3.out (fun k hk => .inl hk) (.inl rfl) (t4.mono fun k _ hk => by rcases hk with h | h; exact .inl h; exact .inr (.inl h)) (bm := pbm) (om := pom) (cm := pcm) hr4 (fun k hk => .inl hk) (.inl rfl)
      have HP4 := Lib.hid ((HΦ.out w4).2 ⟨hB4.ptr, tD.keepc b2 fun hk => Nat.lt_irrefl _ (HDM.out _ hk)⟩)
      have HTD := Lib.hid tD
      have HB4 := Lib.hid hB4
      clear hr4 t4 tD hB4 HC3
      go_wp2_with fail
      refine ⟨⟨⟨w4, HP4.out⟩, rfl⟩, ?_⟩
      iterate 2 (refine lex_pure rfl rfl rfl ?_; intro K hK; go_big_quiet_op; go_big_quiet_on)
      refine lex_nil ?_
      clear fx0 fx1 hne1 h0 HΦ
      go_wp2_with fail
      go_ret
      exact RetAct.ahead HX02.out ⟨rfl, HTD.out, _, ⟨_, _, _, _, _, _, _, _, HB4.out⟩, fun k hk => hk.2⟩
    · have HRS : Hid (e' = (E.getE e nm).2.2) := Lib.hid (by rw [HAE.out, if_neg h2, if_neg h3])
      have HC1 := Lib.hid (Get_any HB2.out.eng HG2.out HOFF.out HF.out.ok HF.out.formed HF.out.vals hcnt HLEN.out hrev hn63)
      have HC2 := Lib.hid (fun (W : World) (hr : RefAt W S2 ⟨pg, 1, pr, pA, pkc, pbv, pov, pcv, pbm, pom, pcm⟩ 0 ft [] e) => refGet_any hr HF.out.once HF.out.ok HF.out.formed HF.out.vals hcnt HLEN.out hrev hn63)
      obtain ⟨r, hr⟩ : ∃ r, r = E.getE e nm := ⟨_, rfl⟩
      rw [← hr] at HRS HC1 HC2
      obtain ⟨rv, re, en⟩ := r
      clear hr HAE
      replace HRS : Hid (e' = en) := HRS
      have hn2 : (k8 == 3) = false := by rw [beq_eq_false_iff_ne]; exact h3
      go_upto_region 7 with (fail)
      go_wp2_with fail
      refine HC1.out.mono ?_
      rintro ed w3 ⟨rfl, _, t3, S', br', he3, hs3, hb3⟩
      have HE3 := Lib.hid he3
      have HS3 := Lib.hid (And.intro hs3 hb3)
      have HT3 : Hid (Tch (fun k => k = ge ∨ k = bi ∨ k = br) w2 w3) := Lib.hid (t3.mono fun k _ hk => by rcases hk with h | h; exact .inl h; exact .inr (.inr h))
      obtain ⟨hr3, q3⟩ := ref_keep HB2.out HT3.out
      have HC3 := Lib.hid (HC2.out w3 hr3)
      clear he3 t3 hr3 q3 HC1 HC2 hs3 hb3
      simp only
      generalize hva : rv.getD ⟨#[]⟩ = va at *
      generalize hvb : rv.isSome = vb at *
      have hs1 : (va.toList == va.toList) = true := by simp
      have hs2 : (vb == vb) = true := by simp
      have hs3 : (re == re) = true := by simp
      go_wp2_with fail
      refine HC3.out.mono ?_
      rintro ed w4 ⟨rfl, _, t4, S2', bm, om, cm, ft', hr4, hm4, hs4⟩
      obtain ⟨tD, hB4⟩ := HB2.out.turned HBS2.out HT3.out HE3.out HS3.out.1 HS3.out.2 (t4.mono fun k _ hk => by rcases hk with h | h; exact .inl h; exact .inr (.inr h)) hr4 (fun k hk => hs4 k hk) hm4
      have HTD := Lib.hid tD
      have HB4 := Lib.hid hB4
      clear hr4 t4 tD hB4 HC3 hs4 hm4
      simp only
      rw [hva, hvb]
      clear hva hvb
      go_wp2_with fail
      go_ret
      have hb4 := HB4.out
      rw [← HRS.out] at hb4
      exact RetAct.ahead HX02.out ⟨rfl, HTD.out, _, ⟨_, _, _, _, _, _, _, _, hb4⟩, fun k hk => hk.2⟩
end Go.Proofs.YtkeaoejgboefbaaGreatDoor
