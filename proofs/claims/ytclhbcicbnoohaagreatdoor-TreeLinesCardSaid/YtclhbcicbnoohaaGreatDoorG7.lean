/- The texts Kk Kl Km La Ida Mg Mh Mi Mj of the seat, joined. -/
import Derived.Test.YtclhbcicbnoohaaGreatDoorG6
import Derived.Laws.CopyOwn
import Derived.Lib.BufferRead
/- The given Sponge: Sum. -/
namespace Go.Proofs.YtclhbcicbnoohaaGreatDoor
open Go.RowKit

theorem RestB.gr' {base : Nat} {w w' : World} {A : Option Addr} {c : Nat} {l : List UInt8} (h : RestB base w A c l) (e : Ext w w') : RestB base w' A c l := by
  rcases h with h | ⟨b, h1, h2, h3⟩
  · exact .inl h
  · exact .inr ⟨b, h1, h2, h3.ext e⟩
theorem quiet_load_mid {P : Program} {o : Oper} {a : Act} {C : World → Prop} {K : Act → Prop} (ty : TypeId) (x : Operand) (ho : o.op = .load ty x) (b q : Nat) (hx : a.eval x = .pointer (some ⟨b, q, none⟩)) (cs : List Value) (d : TypeDesc)
    (hc : ∀ w, C w → w.rangeAt b q cs) (hu : P.underlying ty = some d) (hd : d.isRow = true) (hi : (P.info? ty).map (·.size) = some cs.length) (h : K (a.put o.dst (.agg cs.toArray))) : o.quiet P a C K := by
  refine ⟨.agg cs.toArray, fun w hw => ?_, h⟩
  unfold Oper.quietAt execOp
  simp only [ho, hx, Instr.loadAt, Instr.sureAddr, Sem.run_bind, Sem.run_pure, Result.andThen_ok, run_loadVar_mid w b q ty cs d (hc w hw) hu hd hi]
  exact ⟨rfl, rfl⟩
theorem info121v {s : List Nat} (h : s.length = 25) : (Tryz.prog.info? 121).map (·.size) = some (wdV s).toArray.size := by rw [List.size_toArray, wdV_length, h]; kernel_rfl
theorem RestB.heap {base : Nat} {w w' : World} {A : Option Addr} {c : Nat} {l : List UInt8} (h : RestB base w A c l) (e : w'.heap = w.heap) : RestB base w' A c l := by
  rcases h with h | ⟨b, h1, h2, h3⟩
  · exact .inl h
  · obtain ⟨cur, fr, hh, r⟩ := h3
    exact .inr ⟨b, h1, h2, cur, fr, by rw [e]; exact hh, r⟩
theorem conv_rest {base n : Nat} {w : World} {A : Option Addr} {c : Nat} {l : List UInt8} (h : RestB base w A c l) (hl : l.length = n) : (convert 102 9 (.slice A n c)).run Tryz.prog w = .ok (.string ⟨l.toArray⟩) w := by
  rcases h with ⟨rfl, rfl, rfl⟩ | ⟨b, rfl, _, h3⟩
  · subst hl
    exact Lib.run_convert_nil_bytes w 102 9 5 0 Tryz.underlying102 Tryz.underlying5 Tryz.underlying9
  · subst hl
    exact run_convert_bytes_back w 102 9 5 ⟨b, 0, none⟩ c l Tryz.underlying102 Tryz.underlying5 Tryz.underlying9 (fun j hj => by
      rw [Addr.add_lit, Nat.zero_add, h3.cell hj, List.getD_eq_getElem?_getD, List.getElem?_eq_getElem hj]
      rfl)
theorem conv_out {w : World} {O : Nat} {l : List UInt8} (h : ByRow w O 5 32 l) (hl : l.length = 32) : (convert 102 9 (.slice (some ⟨O, 0, none⟩) 32 32)).run Tryz.prog w = .ok (.string ⟨l.toArray⟩) w := by
  have := run_convert_bytes_back (P := Tryz.prog) w 102 9 5 ⟨O, 0, none⟩ 32 l Tryz.underlying102 Tryz.underlying5 Tryz.underlying9 (fun j hj => by
    rw [Addr.add_lit, Nat.zero_add, h.cell hj, List.getD_eq_getElem?_getD, List.getElem?_eq_getElem hj]
    rfl)
  rw [hl] at this
  exact this
theorem splice_row {w : World} {L n : Nat} {l : List UInt8} (h : w.heap[L]? = some (.cells (splice (byV (List.replicate 136 0)) 0 (byV l)).toArray 5 (0, 0))) (hl : l.length = n) (hn : n < 136) : ByRow w L 5 136 (l ++ List.replicate (136 - n) 0) := by
  have e : splice (byV (List.replicate 136 0)) 0 (byV l) = byV (l ++ List.replicate (136 - n) 0) := by
    unfold splice byV
    rw [List.take_zero, List.nil_append, Nat.zero_add, List.length_map, hl, List.map_append, List.map_replicate, List.map_replicate, List.drop_replicate]
  rw [e] at h
  have hlen : (l ++ List.replicate (136 - n) (0 : UInt8)).length = 136 := by rw [List.length_append, List.length_replicate, hl]; omega
  exact ⟨_, _, h, .inr rfl, by omega, by rw [List.size_toArray, byV_length]; omega, by decide, fun j hj => by rw [List.getElem?_toArray]⟩
set_option maxRecDepth 100000 in
theorem xor128 (b : UInt8) : bits .xor .u8 (b.toNat : Int) 128 = ((b ^^^ 128).toNat : Int) := by
  have h : ∀ n : Fin 256, bits .xor .u8 (n.val : Int) 128 = ((n.val ^^^ 128 : Nat) : Int) := by decide
  have hb := b.toNat_lt
  rw [h ⟨b.toNat, hb⟩, UInt8.toNat_xor]
  rfl
theorem lastB_set {l : List UInt8} {n : Nat} (hl : l.length = n) (hn : n < 136) : ((l ++ List.replicate (136 - n) 0).set n 6).set 135 ((((l ++ List.replicate (136 - n) 0).set n 6).getD 135 0) ^^^ 128) = D.lastB l := by
  subst hl
  have e : (l ++ List.replicate (136 - l.length) (0 : UInt8)).set l.length 6 = l ++ 6 :: List.replicate (135 - l.length) 0 := by
    obtain ⟨d, hd⟩ : ∃ d, 136 - l.length = d + 1 := ⟨135 - l.length, by omega⟩
    rw [hd, show 135 - l.length = d by omega, List.replicate_succ, List.set_append_right _ _ (Nat.le_refl _), Nat.sub_self]
    rfl
  rw [e, D.last_xor l hn]
  rfl
theorem made136 : madeCells #[.int .u8 0] 136 = (byV (List.replicate 136 0)).toArray := by kernel_rfl
set_option maxRecDepth 100000 in
set_option maxHeartbeats 2000000 in
theorem SpSum_any (g n c base : Nat) (A : Option Addr) (st : List Nat) (tk : Int) (l : List UInt8) (w : World) (hg : Spg w g st (.slice A n c) tk zeros ⟨#[]⟩ ⟨#[]⟩) (hl : l.length = n) (hr : RestB base w A c l) (hn : n < 136) (hss : D.Small st) (hbg : g < base) :
    Calls Tryz.prog 106 #[.pointer (some ⟨g, 0, none⟩)] w fun e w' => e = .returned (.string ⟨(D.outB (D.take1 st (D.lastB l))).toArray⟩) ∧ Gr g w w' := by
  obtain ⟨R, hR⟩ : ∃ R, R = D.outB (D.take1 st (D.lastB l)) := ⟨_, rfl⟩
  rw [← hR]
  have HRR := Lib.hid hR
  clear hR
  have HCL : Hid (∀ W, Ext w W → Calls Tryz.prog 124 #[.pointer (some ⟨g, 0, none⟩)] W fun e w' => e = .returned (.pointer (some ⟨W.heap.size, 0, none⟩)) ∧ Ext W w' ∧ ∃ A' c', Spg w' W.heap.size st (.slice A' n c') tk zeros ⟨#[]⟩ ⟨#[]⟩ ∧ RestB (W.heap.size + 1) w' A' c' l) := fun W hW =>
    Clone_any g n c base A st zeros tk ⟨#[]⟩ ⟨#[]⟩ l W (hg.other (hW.block g hg.lt)) hl (hr.gr' hW) (by omega)
  have hsum := hg.sum
  have H0 := Lib.hid hg
  have HR := Lib.hid hr
  have HL := Lib.hid hl
  have HSS := Lib.hid hss
  clear hg hr hl hss
  go_enter Tryz.func106, Tryz.ntmps106
  go_upto_region 1 with (fail)
  have hdz : (!((⟨#[]⟩ : ByteArray) == ⟨#[]⟩)) = false := by decide
  go_wp2_with fail
  go_quiet (fail)
  have E0 := Lib.hid ((Ext.refl w).drewN nq)
  generalize w.drewN nq = W0 at *
  clear hdz
  go_wp2_with fail
  refine (HCL.out _ E0.out).mono ?_
  rintro e w1 ⟨rfl, hx1, A1, c1, hs1, hr1⟩
  have hlb := hs1.lt
  obtain ⟨L, hL⟩ : ∃ L, L = w1.heap.size := ⟨_, rfl⟩
  have X1 : Hid (Ext w w1) := E0.out.trans hx1
  have S1 := Lib.hid hs1
  have R1 := Lib.hid hr1
  have HG1 : Hid (w.heap.size ≤ W0.heap.size ∧ W0.heap.size < L) := ⟨E0.out.size, by rw [hL]; exact hlb⟩
  generalize W0.heap.size = G1 at *
  have hmk := fun W => run_make_row' (P := Tryz.prog) 102 5 (.int .u8 0) 1 Tryz.underlying102 byte_info rfl .i64 .i64 136 (by decide) (by decide) W
  rw [show ((136 : Nat) : Int) = 136 from rfl] at hmk
  clear hx1 hs1 hr1 hlb
  go_upto_region 5 with (fail)
  generalize hW2 : World.alloc w1 _ = W2
  rw [← hL]
  have h2 : W2.heap[L]? = some (.cells (byV (List.replicate 136 0)).toArray 5 (0, 0)) ∧ Ext w1 W2 := by
    rw [← hW2, hL]
    exact ⟨by rw [heap_alloc_new, made136], (Ext.refl w1).alloc _⟩
  have S2 := Lib.hid (S1.out.other (h2.2.block G1 S1.out.lt))
  have X2 := Lib.hid (X1.out.trans h2.2)
  have H2 := Lib.hid h2.1
  have R2 := Lib.hid (R1.out.gr' h2.2)
  have cr := S2.out.rest
  have HLL := Lib.hid hL
  clear hW2 h2 hmk S1 R1 hL
  have hsz5 : (Tryz.prog.info? 5).map (·.size) = some 1 := by
    obtain ⟨i, hi, _, hsz, _⟩ := info5
    rw [hi, ← hsz]; rfl
  have hpos : 0 < (byV l).length → ∃ ad, A1 = some ad ∧ ∀ j v, (byV l)[j]? = some v → W2.cell? (ad.add j) = some v := by
    intro h
    rcases R2.out with ⟨_, _, h'⟩ | ⟨b, rfl, _, h3⟩
    · rw [h'] at h; cases h
    · exact ⟨_, rfl, row_cells h3⟩
  have HPOS := Lib.hid hpos
  clear hpos
  go_upto_region 6 with ((refine wpList_copy_splice rfl (.tmp 42) (.tmp 46) 102 102 rfl 5 Tryz.underlying102 hsz5 (some ⟨L, 0, none⟩) A1 136 136 n c1 rfl rfl L 0 (byV (List.replicate 136 0)) 5 H2.out (byV l) (by rw [byV_length, HL.out]; exact (Nat.min_eq_left (Nat.le_of_lt hn)).symm) (fun h => ⟨rfl, HPOS.out h⟩) (by rw [byV_length, byV_length, HL.out, List.length_replicate]; omega) (byV_one l) L W2 (Below.refl _ _) (Nat.le_refl _) ?_; intro w3 H3 hB3))
  have S3 := Lib.hid (S2.out.other (hB3.block G1 HG1.out.2))
  have X3 : Hid (Ext w w3) := ⟨hB3.os.trans X2.out.os, hB3.tape.trans X2.out.tape, hB3.output.trans X2.out.output, Nat.le_trans X2.out.size hB3.size, fun k hk => (hB3.block k (by have := HG1.out; omega)).trans (X2.out.block k hk)⟩
  have hrow3 : ByRow w3 L 5 136 (l ++ List.replicate (136 - n) 0) := splice_row H3.out HL.out hn
  have R3 := Lib.hid hrow3
  have hl3 : (l ++ List.replicate (136 - n) (0 : UInt8)).length = 136 := by have := HL.out; simp; omega
  have i3 := hrow3.cell (i := n) (by rw [hl3]; exact hn)
  generalize (l ++ List.replicate (136 - n) (0 : UInt8)).getD n 0 = ob at i3
  clear hl3
  have f3 := hrow3.frozen (i := n) hn
  have cr3 := S3.out.rest
  clear cr hB3 H3 S2 X2 R2 H2 HPOS hrow3
  go_upto_region 7 with (fail)
  generalize hW4 : World.setCell w3 _ _ = W4
  have h4 : ByRow W4 L 5 136 ((l ++ List.replicate (136 - n) 0).set n 6) ∧ Spg W4 G1 st (.slice A1 n c1) tk zeros ⟨#[]⟩ ⟨#[]⟩ ∧ Ext w W4 := by
    rw [← hW4]
    have hG := HG1.out
    exact ⟨R3.out.set n 6, S3.out.other (heap_setCell_other _ _ _ _ (by simp only; omega)), X3.out.setCell (by simp only; omega) _⟩
  have H4 := Lib.hid h4
  clear hW4 h4 S3 X3 R3 i3 f3 cr3
  have hlen4 : ((l ++ List.replicate (136 - n) (0 : UInt8)).set n 6).length = 136 := by have := HL.out; simp; omega
  have c4 := H4.out.1.cell (i := 135) (by rw [hlen4]; decide)
  have f4 := H4.out.1.frozen (i := 135) (by decide)
  have HX := Lib.hid (xor128 (((l ++ List.replicate (136 - n) 0).set n 6).getD 135 0))
  have HLB : Hid (((l ++ List.replicate (136 - n) 0).set n 6).set 135 ((((l ++ List.replicate (136 - n) 0).set n 6).getD 135 0) ^^^ 128) = D.lastB l) := lastB_set HL.out hn
  have HSET := Lib.hid (H4.out.1.set 135 ((((l ++ List.replicate (136 - n) 0).set n 6).getD 135 0) ^^^ 128))
  rw [HLB.out] at HSET
  generalize (((l ++ List.replicate (136 - n) 0).set n 6).getD 135 0) = lb at c4 HX HSET
  clear hlen4 HLB
  go_upto_region 8 with (fail)
  generalize hW5 : World.setCell W4 _ _ = W5
  have h5 : ByRow W5 L 5 136 (D.lastB l) ∧ Spg W5 G1 st (.slice A1 n c1) tk zeros ⟨#[]⟩ ⟨#[]⟩ ∧ Ext w W5 := by
    rw [← hW5, HX.out]
    have hG := HG1.out
    exact ⟨HSET.out, H4.out.2.1.other (heap_setCell_other _ _ _ _ (by simp only; omega)), H4.out.2.2.setCell (by simp only; omega) _⟩
  have H5 := Lib.hid h5
  clear hW5 h5 H4 HX HSET c4 f4
  have hlb : (D.lastB l).length = 136 := D.lastB_length (by rw [HL.out]; exact hn)
  have HAB := Lib.hid (absorb_any G1 L 0 136 st zeros (.slice A1 n c1) tk ⟨#[]⟩ ⟨#[]⟩ (D.lastB l) W5 H5.out.2.1 HSS.out hlb ⟨H5.out.1.lt, fun i hi => by rw [Nat.zero_add]; exact H5.out.1.cell hi⟩ (by have := HG1.out; omega))
  obtain ⟨F, hF⟩ : ∃ F, F = D.take1 st (D.lastB l) := ⟨_, rfl⟩
  rw [← hF] at HAB HRR
  clear hlb hF
  go_wp2_with fail
  refine HAB.out.mono ?_
  rintro e w6 ⟨rfl, hg6, hs6⟩
  have hmk := fun W => run_make_row' (P := Tryz.prog) 102 5 (.int .u8 0) 1 Tryz.underlying102 byte_info rfl .i64 .i64 32 (by decide) (by decide) W
  rw [show ((32 : Nat) : Int) = 32 from rfl] at hmk
  have X6 : Hid (Ext w w6) := ⟨hg6.os.trans H5.out.2.2.os, hg6.tape.trans H5.out.2.2.tape, hg6.output.trans H5.out.2.2.output, Nat.le_trans H5.out.2.2.size hg6.size, fun k hk => (hg6.blk (Nat.lt_of_lt_of_le hk H5.out.2.2.size) (by have := HG1.out; omega)).trans (H5.out.2.2.block k hk)⟩
  have S6 := Lib.hid hs6
  clear hg6 hs6 HAB H5
  go_upto_region 10 with (fail)
  generalize hW7 : World.alloc w6 _ = W7
  obtain ⟨O, hO⟩ : ∃ O, O = w6.heap.size := ⟨_, rfl⟩
  rw [← hO]
  have h7 : Ext w W7 ∧ Spg W7 G1 F (.slice A1 n c1) tk zeros ⟨#[]⟩ ⟨#[]⟩ ∧ ByRow W7 O 5 32 (D.outK F 0) ∧ G1 < O := by
    rw [← hW7, hO]
    have e := (Ext.refl w6).alloc (.cells (madeCells #[.int .u8 0] 32) 5)
    exact ⟨X6.out.trans e, S6.out.other (e.block G1 S6.out.lt), outRow w6 F, S6.out.lt⟩
  have H7 := Lib.hid h7
  clear hW7 h7 hO hmk X6 S6
  go_wp2_with fail
  go_loopw [66] (fun i wr => ∃ k : Nat, k ≤ 32 ∧ i = .int .i64 k ∧ Hid (Ext w wr ∧ Spg wr G1 F (.slice A1 n c1) tk zeros ⟨#[]⟩ ⟨#[]⟩ ∧ ByRow wr O 5 32 (D.outK F k) ∧ G1 < O)) (fun i _ => 32 - (intOf i).toNat)
  case atStart => exact ⟨0, Nat.zero_le _, rfl, H7.out⟩
  case round =>
    clear H7
    obtain ⟨k, hk, rfl, HK⟩ := hrel
    by_cases hlk : k < 32
    · obtain ⟨d, hd⟩ : ∃ d, d = k / 8 := ⟨_, rfl⟩
      obtain ⟨e, he⟩ : ∃ e, e = k % 8 := ⟨_, rfl⟩
      obtain ⟨sh, hsh⟩ : ∃ sh, sh = 8 * e := ⟨_, rfl⟩
      have q3 : (k : Int) / 8 = (d : Int) := by omega
      have q3' : Int.tdiv (k : Int) 8 = (d : Int) := by rw [Int.tdiv_eq_ediv_of_nonneg (by omega)]; exact q3
      have q4 : (k : Int) % 8 = (e : Int) := by omega
      have q4' : Int.tmod (k : Int) 8 = (e : Int) := by rw [Int.tmod_eq_emod_of_nonneg (by omega)]; exact q4
      have q5 : 8 * (e : Int) = (sh : Int) := by omega
      have hd4 : d < 4 := by omega
      have he8 : e < 8 := by omega
      have hsh56 : sh ≤ 56 := by omega
      have c0 := HK.out.2.1.word (i := d) (by omega)
      have co := HK.out.2.2.1.cell (i := k) (by rw [D.outK_length F hk]; exact hlk)
      have f1 := HK.out.2.2.1.frozen (i := k) hlk
      have HN := Lib.hid (D.outK_succ F hlk)
      rw [← hd, ← he, ← hsh] at HN
      have HB : Hid (∀ b : UInt8, Ext w (wr.setCell ⟨O, k, none⟩ (.int .u8 (b.toNat : Int))) ∧ Spg (wr.setCell ⟨O, k, none⟩ (.int .u8 (b.toNat : Int))) G1 F (.slice A1 n c1) tk zeros ⟨#[]⟩ ⟨#[]⟩ ∧ ByRow (wr.setCell ⟨O, k, none⟩ (.int .u8 (b.toNat : Int))) O 5 32 ((D.outK F k).set k b) ∧ G1 < O) := by
        intro b
        obtain ⟨h1, h2, h3, h4⟩ := HK.out
        have hG := HG1.out
        exact ⟨h1.setCell (by simp only; omega) _, h2.other (heap_setCell_other _ _ _ _ (by simp only; omega)), h3.set k b, h4⟩
      generalize F.getD d 0 = a0 at c0 HN
      have HV := Lib.hid (out_val sh a0)
      generalize ((D.outK F k).getD k 0).toNat = old at co
      clear hd he hsh HK
      go_wp2_with fail
      refine ⟨⟨k + 1, by omega, by go_num, ?_⟩, by simp [intOf]; omega⟩
      rw [HV.out, HN.out]
      exact HB.out _
    · obtain rfl : k = 32 := by omega
      have hgw := H0.out.lt
      have SG := Lib.hid (H0.out.other (HK.out.1.block g hgw))
      have hconv : ∀ W, W.heap = wr.heap → (convert 102 9 (.slice A n c)).run Tryz.prog W = .ok (.string ⟨l.toArray⟩) W := fun W hW => conv_rest ((HR.out.gr' HK.out.1).heap hW) HL.out
      have hconv2 : ∀ W, W.heap = wr.heap → (convert 102 9 (.slice (some ⟨O, 0, none⟩) 32 32)).run Tryz.prog W = .ok (.string ⟨R.toArray⟩) W := fun W hW => by
        have hol := D.outK_length F (Nat.le_refl 32)
        have := run_convert_bytes_back (P := Tryz.prog) W 102 9 5 ⟨O, 0, none⟩ 32 (D.outK F 32) Tryz.underlying102 Tryz.underlying5 Tryz.underlying9 (fun j hj => by
          rw [Addr.add_lit, Nat.zero_add, show W.cell? ⟨O, j, none⟩ = wr.cell? ⟨O, j, none⟩ by simp [World.cell?, hW], HK.out.2.2.1.cell hj, List.getD_eq_getElem?_getD, List.getElem?_eq_getElem hj]
          rfl)
        rw [hol, D.outK_end, ← HRR.out] at this
        exact this
      have HX := Lib.hid HK.out.1
      have hst := SG.out.st25
      have hi := Lib.hid (info121' hst)
      have hi' := Lib.hid (info121v hst)
      have HRW : Hid (RestB base wr A c l) := HR.out.gr' HK.out.1
      have HOW : Hid (ByRow wr O 5 32 (D.outB F)) := by
        have := HK.out.2.2.1
        rw [D.outK_end] at this
        exact this
      have HOG : Hid (g < O) := by have := HK.out.2.2.2; have := HG1.out; have := H0.out.lt; unfold Hid; omega
      clear HK hconv hconv2
      go_wp2_with fail
      obtain ⟨Φ, hΦ⟩ : ∃ Φ : World → Prop, ∀ x, Φ x ↔ (Gr g wr x ∧ ∃ sn tl sm, Spg x g st (.slice A n c) tk sn tl sm) := ⟨_, fun _ => Iff.rfl⟩
      have h0 : Φ wr.drew := (hΦ _).2 ⟨(Ext.refl wr).drew.gr g, zeros, ⟨#[]⟩, ⟨#[]⟩, SG.out.other rfl⟩
      have fxA : ∀ w', (∃ x : Lat Φ, w' = x.w') → w'.rangeAt g 0 (wdV st) := by
        rintro w' ⟨x, rfl⟩
        obtain ⟨_, sn, tl, sm, h⟩ := (hΦ _).1 x.h
        exact h.state
      have HFA := Lib.hid fxA
      have fxB : ∀ x : Lat Φ, x.w'.cell? ⟨g, 25, none⟩ = some (.slice A n c) := fun x => by
        obtain ⟨_, sn, tl, sm, h⟩ := (hΦ _).1 x.h
        exact h.rest
      have fxC : ∀ x : Lat Φ, (convert 102 9 (.slice A n c)).run Tryz.prog x.w' = .ok (.string ⟨l.toArray⟩) x.w' := fun x => conv_rest (HRW.out.gr ((hΦ _).1 x.h).1 hbg) HL.out
      have fxD : ∀ x : Lat Φ, (convert 102 9 (.slice (some ⟨O, 0, none⟩) 32 32)).run Tryz.prog x.w' = .ok (.string ⟨R.toArray⟩) x.w' := fun x => by
        rw [HRR.out]
        exact conv_out (HOW.out.gr ((hΦ _).1 x.h).1 (by have := HOG.out; omega)) (D.outB_length F)
      have hne := Lat.some h0
      have HΦ := Lib.hid hΦ
      clear hΦ fxA
      refine wp_region_tail 20 [16, 19] Φ h0 (by kernel_rfl) (by kernel_rfl) (by kernel_rfl) ?_
      simp only [List.take_succ_cons, List.take_zero, List.drop_succ_cons, List.drop_zero]
      iterate 6 (refine lex_pure rfl rfl rfl ?_; intro K hK; go_big_quiet_op; go_big_quiet_on)
      refine lex_pure rfl rfl rfl ?_
      intro K hK
      refine quiet_load_mid 121 _ rfl g 0 rfl (wdV st) _ HFA.out Tryz.underlying121 rfl hi.out ?_
      go_simp
      go_big_quiet_on
      iterate 9 (refine lex_pure rfl rfl rfl ?_; intro K hK; go_big_quiet_op; go_big_quiet_on)
      refine lex_eff rfl ?_
      have S0 : Spg wr.drew g st (.slice A n c) tk zeros ⟨#[]⟩ ⟨#[]⟩ := SG.out.other rfl
      have hT : wr.drew.there g 27 (wdV st).toArray.size := S0.there (by rw [List.size_toArray, wdV_length, hst]; decide)
      have S1 := Lib.hid (S0.setSeen (s := st) hst)
      have G1' := Lib.hid (((Ext.refl wr).drew.gr g).setCells 27 (wdV st))
      have h1o : (wdV st).toArray.all (·.oneCell') = true := rowU_one st
      clear S0
      go_wp2_with (refine wpList_store_mid rfl 121 (.tmp 100) (.tmp 91) rfl g 27 (wdV st).toArray rfl rfl hT hi'.out h1o ?_)
      refine ⟨⟨⟨_, (HΦ.out _).2 ⟨G1'.out, st, ⟨#[]⟩, ⟨#[]⟩, S1.out⟩⟩, rfl⟩, ?_⟩
      generalize hWa : World.setCells wr.drew g 27 _ = Wa
      have hSa : Gr g wr Wa ∧ Spg Wa g st (.slice A n c) tk st ⟨#[]⟩ ⟨#[]⟩ := by rw [← hWa]; exact ⟨G1'.out, S1.out⟩
      have SA := Lib.hid hSa
      clear hWa hSa S1 G1' hT h1o
      iterate 2 (refine lex_pure rfl rfl rfl ?_; intro K hK; go_big_quiet_op; go_big_quiet_on)
      refine lex_eff rfl ?_
      have ct := SA.out.2.tail
      have ft := SA.out.2.frozen 52
      have SB : Hid (Gr g wr (Wa.setCell ⟨g, 52, none⟩ (.string ⟨l.toArray⟩)) ∧ Spg (Wa.setCell ⟨g, 52, none⟩ (.string ⟨l.toArray⟩)) g st (.slice A n c) tk st ⟨l.toArray⟩ ⟨#[]⟩) := ⟨SA.out.1.setCell 52 _, SA.out.2.setTail _⟩
      go_wp2_with fail
      refine ⟨⟨⟨_, (HΦ.out _).2 ⟨SB.out.1, st, ⟨l.toArray⟩, ⟨#[]⟩, SB.out.2⟩⟩, rfl⟩, ?_⟩
      generalize hWb : World.setCell Wa _ _ = Wb
      have hSb : Gr g wr Wb ∧ Spg Wb g st (.slice A n c) tk st ⟨l.toArray⟩ ⟨#[]⟩ := by rw [← hWb]; exact SB.out
      have SC := Lib.hid hSb
      clear hWb hSb SA SB ct ft
      refine lex_nil ?_
      clear fxB fxC fxD HFA hne h0
      have cs := SC.out.2.sum
      have fs := SC.out.2.frozen 53
      have SD : Hid (Gr g wr (Wb.setCell ⟨g, 53, none⟩ (.string ⟨R.toArray⟩)) ∧ Spg (Wb.setCell ⟨g, 53, none⟩ (.string ⟨R.toArray⟩)) g st (.slice A n c) tk st ⟨l.toArray⟩ ⟨R.toArray⟩) := ⟨SC.out.1.setCell 53 _, SC.out.2.setSum _⟩
      go_upto_region 16 with (fail)
      generalize hWc : World.setCell Wb _ _ = Wc
      have hSc : Gr g wr Wc ∧ Spg Wc g st (.slice A n c) tk st ⟨l.toArray⟩ ⟨R.toArray⟩ := by rw [← hWc]; exact SD.out
      have SE := Lib.hid hSc
      clear hWc hSc SC SD cs fs
      have cr := SE.out.2.sum
      go_wp2_with fail
      go_ret
      exact ⟨rfl, (HX.out.gr g).trans SE.out.1⟩
end Go.Proofs.YtclhbcicbnoohaaGreatDoor

/- digest.Sum: SHA3-256 of a string. -/
namespace Go.Proofs.YtclhbcicbnoohaaGreatDoor
open Go.RowKit

theorem Ext.ofGr {g : Nat} {a b c : World} (h : Ext a b) (k : Gr g b c) (hg : a.heap.size ≤ g) : Ext a c := h.grownRow k hg
set_option maxRecDepth 100000 in
theorem dSum_any (s : ByteArray) (w : World) (hs : s.size ≤ 1000000000000) : Calls Tryz.prog 82 #[.string s] w (Al (.string ⟨(D.sha s.data.toList).toArray⟩) w) := by
  obtain ⟨R, hR⟩ : ∃ R, R = D.sha s.data.toList := ⟨_, rfl⟩
  rw [← hR]
  have HR := Lib.hid hR
  clear hR
  go_enter Tryz.func82, Tryz.ntmps82
  go_wp2_with fail
  refine (New_any w).mono ?_
  rintro e w1 ⟨rfl, hx1, hs1⟩
  have X1 := Lib.hid hx1
  have S1 := Lib.hid hs1
  clear hx1 hs1
  go_upto_region 2 with (fail)
  have X2 : Hid (∀ o : Obj, Ext w1 (w1.alloc o)) := fun o => (Ext.refl w1).alloc o
  have HW : Hid (∀ W, Ext w1 W → ∀ bp, W.cell? ⟨bp, 0, none⟩ = some (.string s) → Calls Tryz.prog 105 #[.pointer (some ⟨w.heap.size, 0, none⟩), .slice (some ⟨bp, 0, none⟩) 1 1] W fun e w' => e = .returned (.int .i64 s.size) ∧ ∃ A c, WrS W w' w.heap.size s.size s.data.toList zeros ⟨#[]⟩ ⟨#[]⟩ (s.size / 136) A c) :=
    fun W hW bp hp => Write_any w.heap.size bp zeros ⟨#[]⟩ ⟨#[]⟩ s W (S1.out.other (hW.block _ S1.out.lt)) hp hs
  go_wp2_with fail
  refine (HW.out _ (X2.out _) w1.heap.size (cell_new w1 _ _ 0)).mono ?_
  rintro e w2 ⟨rfl, A, c, hw2⟩
  have hlt := S1.out.lt
  have H2 : Hid (Ext w w2 ∧ ∃ base, w.heap.size < base ∧ Spg w2 w.heap.size (D.takeN zeros (s.size / 136) s.data.toList) (.slice A (s.size - s.size / 136 * 136) c) s.size zeros ⟨#[]⟩ ⟨#[]⟩ ∧ RestB base w2 A c (s.data.toList.drop (s.size / 136 * 136))) :=
    ⟨(X1.out.trans (X2.out _)).ofGr hw2.1 (Nat.le_refl _), _, Nat.lt_of_lt_of_le hlt (X2.out _).size, hw2.2.1, hw2.2.2⟩
  have hml : s.data.toList.length = s.size := Array.length_toList
  have HS : Hid (Calls Tryz.prog 106 #[.pointer (some ⟨w.heap.size, 0, none⟩)] w2 fun e w' => e = .returned (.string ⟨R.toArray⟩) ∧ Gr w.heap.size w2 w') := by
    obtain ⟨hx, base, hb, h1, h2⟩ := H2.out
    have := SpSum_any w.heap.size _ c base A _ _ _ w2 h1 (by rw [List.length_drop, hml]) h2 (by omega) (D.takeN_small (D.small_zero 25) _ _) hb
    rw [HR.out]
    unfold D.sha
    rw [hml]
    exact this
  clear hw2 hlt hml X2 HW
  go_wp2_with fail
  refine HS.out.mono ?_
  rintro e w3 ⟨rfl, hg3⟩
  have H3 := Lib.hid (H2.out.1.ofGr hg3 (Nat.le_refl _))
  clear hg3
  go_wp2_with fail
  go_ret
  exact ⟨rfl, H3.out⟩
end Go.Proofs.YtclhbcicbnoohaaGreatDoor

/- The identifiers of files: fileID, FileID. -/
namespace Go.Proofs.YtclhbcicbnoohaaGreatDoor
open Go.RowKit

/-- The digest of a string. -/
def dig (b : ByteArray) : ByteArray := ⟨(D.sha b.data.toList).toArray⟩
theorem dig_size (b : ByteArray) : (dig b).size = 32 := by
  have := D.sha_length b.data.toList
  show (D.sha b.data.toList).toArray.size = 32
  rw [List.size_toArray, this]
/-- The identifier of a file. -/
def fidB (s : ByteArray) : ByteArray := dig (⟨#[102]⟩ ++ s)
theorem fidB_size (s : ByteArray) : (fidB s).size = 32 := dig_size _
set_option maxRecDepth 100000 in
theorem fileID_any (s : ByteArray) (w : World) (hs : s.size ≤ 100000000000) : Calls Tryz.prog 68 #[.string s] w (Al (.string (fidB s)) w) := by
  obtain ⟨R, hR⟩ : ∃ R, R = fidB s := ⟨_, rfl⟩
  rw [← hR]
  have hsz : ((⟨#[102]⟩ : ByteArray) ++ s).size = 1 + s.size := by rw [ByteArray.size_append]; rfl
  have HC : Hid (∀ W, Calls Tryz.prog 82 #[.string (⟨#[102]⟩ ++ s)] W (Al (.string R) W)) := fun W => by rw [hR]; exact dSum_any _ W (by rw [hsz]; omega)
  clear hR
  go_enter Tryz.func68, Tryz.ntmps68
  go_wp2_with fail
  refine (HC.out _).mono ?_
  rintro e w3 ⟨rfl, h3⟩
  have H3 := Lib.hid h3
  clear h3
  go_wp2_with fail
  go_ret
  exact ⟨rfl, H3.out⟩
set_option maxRecDepth 100000 in
theorem rFileID_any (s : ByteArray) (w : World) (hs : s.size ≤ 100000000000) : Calls Tryz.prog 69 #[.string s] w (Al (.string (fidB s)) w) := by
  obtain ⟨R, hR⟩ : ∃ R, R = fidB s := ⟨_, rfl⟩
  rw [← hR]
  have hsz : ((⟨#[102]⟩ : ByteArray) ++ s).size = 1 + s.size := by rw [ByteArray.size_append]; rfl
  have HC : Hid (∀ W, Calls Tryz.prog 88 #[.string (⟨#[102]⟩ ++ s)] W (Al (.string R) W)) := fun W => by rw [hR]; exact rSum_any _ W (by rw [hsz]; omega)
  clear hR
  go_enter Tryz.func69, Tryz.ntmps69
  go_wp2_with fail
  refine (HC.out _).mono ?_
  rintro e w3 ⟨rfl, h3⟩
  have H3 := Lib.hid h3
  clear h3
  go_wp2_with fail
  go_ret
  exact ⟨rfl, H3.out⟩
end Go.Proofs.YtclhbcicbnoohaaGreatDoor

/- Lists of texts: the reference's Texts. -/
namespace Go.Proofs.YtclhbcicbnoohaaGreatDoor
open Go.RowKit

/-- The bytes of a list of texts, behind k of them. -/
def txsK (l : List ByteArray) (k : Nat) : List UInt8 := C.num l.length ++ (l.take k).flatMap fun s => C.txt s.data.toList
def txsL (l : List ByteArray) : List UInt8 := C.num l.length ++ l.flatMap fun s => C.txt s.data.toList
theorem txsK_zero (l : List ByteArray) : txsK l 0 = C.num l.length := by simp [txsK]
theorem txsK_succ (l : List ByteArray) {k : Nat} (h : k < l.length) : txsK l (k + 1) = txsK l k ++ C.txt l[k].data.toList := by
  unfold txsK
  rw [List.take_succ_eq_append_getElem h, List.flatMap_append]
  simp
theorem txsK_end (l : List ByteArray) : txsK l l.length = txsL l := by simp [txsK, txsL]
/-- Strings lie behind this address. -/
def TxsAt (w : World) (A : Option Addr) (l : List ByteArray) : Prop := ∀ j (hj : j < l.length), ∃ b off, A = some ⟨b, off, none⟩ ∧ w.cell? ⟨b, off + j, none⟩ = some (.string l[j])
theorem TxsAt.ext {w w' : World} {A : Option Addr} {l : List ByteArray} (h : TxsAt w A l) (e : Ext w w') : TxsAt w' A l := fun j hj => by
  obtain ⟨b, off, h1, h2⟩ := h j hj
  exact ⟨b, off, h1, e.keepc h2⟩
theorem txtV_ok {s : ByteArray} (h : s.size ≤ 65536) : txtV s = .tuple #[.string (mkB (C.txt s.data.toList)), .int .i64 0] := by unfold txtV; rw [if_pos h]
theorem txt_len {s : ByteArray} (h : s.size ≤ 65536) : (C.txt s.data.toList).length ≤ 100000 := by
  have hl : s.data.toList.length = s.size := Array.length_toList
  have := dec_len 15 s.data.toList.length (by omega)
  unfold C.txt
  simp only [List.length_append, List.length_cons, List.length_nil]
  omega
set_option maxRecDepth 100000 in
set_option maxHeartbeats 2000000 in
theorem refTexts_any (l : List ByteArray) (A : Option Addr) (n c : Nat) (w : World) (hn : n = l.length) (hA : TxsAt w A l) (h1 : n ≤ 1024) (h2 : ∀ s ∈ l, s.size ≤ 65536) : Calls Tryz.prog 87 #[.slice A n c] w (Al (.tuple #[.string (mkB (txsL l)), .int .i64 0]) w) := by
  obtain ⟨R, hR⟩ : ∃ R, R = mkB (txsL l) := ⟨_, rfl⟩
  rw [← hR]
  have HR := Lib.hid hR
  have HN := Lib.hid hn
  have HA := Lib.hid hA
  have H2 := Lib.hid h2
  have HD : Hid (∀ W, Calls Tryz.prog 109 #[.int .i64 (n : Int)] W (Al (.string (mkB (C.dec n))) W)) := fun W => Dec_any n W (by omega)
  have hdl : (mkB (C.dec n)).size ≤ 16 := by rw [mkB_size]; exact dec_len 15 _ (by omega)
  have HNS : Hid (mkB (C.dec n) ++ ⟨#[59]⟩ = mkB (txsK l 0)) := by unfold Hid; rw [numS, txsK_zero, hn]
  clear hR hn hA h2
  generalize mkB (C.dec n) = dn at HD HNS hdl
  go_enter Tryz.func87, Tryz.ntmps87
  go_wp2_with fail
  refine (HD.out _).mono ?_
  rintro e w1 ⟨rfl, hx1⟩
  have X1 := Lib.hid hx1
  clear hx1
  go_wp2_with fail
  go_loopw [18, 4] (fun i t wr => ∃ (k : Nat) (b : ByteArray), k ≤ n ∧ i = .int .i64 k ∧ t = .string b ∧ Hid (b = mkB (txsK l k) ∧ b.size ≤ 100 + k * 100000) ∧ Hid (Ext w wr)) (fun i _ _ => n - (intOf i).toNat)
  case atStart => exact ⟨0, _, Nat.zero_le _, rfl, rfl, ⟨HNS.out, by rw [ByteArray.size_append]; show _ + 1 ≤ _; omega⟩, X1.out⟩
  case round =>
    obtain ⟨k, b, hk, rfl, rfl, HK, HX⟩ := hrel
    by_cases hlt : k < n
    · have hkl : k < l.length := by rw [← HN.out]; exact hlt
      obtain ⟨g, off, hAe, hc⟩ := HA.out.ext HX.out k hkl
      have hs := H2.out l[k] (List.getElem_mem hkl)
      have HT : Hid (∀ W, Calls Tryz.prog 110 #[.string l[k]] W (Al (.tuple #[.string (mkB (C.txt l[k].data.toList)), .int .i64 0]) W)) := fun W => by
        rw [← txtV_ok hs]
        exact refText_any' _ W (by omega)
      have hbl : b.size ≤ 100 + k * 100000 := HK.out.2
      have htl : (mkB (C.txt l[k].data.toList)).size ≤ 100000 := by rw [mkB_size]; exact txt_len hs
      have HB : Hid (b ++ mkB (C.txt l[k].data.toList) = mkB (txsK l (k + 1)) ∧ (b ++ mkB (C.txt l[k].data.toList)).size ≤ 100 + (k + 1) * 100000) := ⟨by rw [HK.out.1, mkB_add, txsK_succ l hkl], by rw [ByteArray.size_append]; omega⟩
      have hbb : b.size ≤ 103000000 := by omega
      have hsz : l[k].size ≤ 65536 := hs
      clear HK hs hbl
      generalize mkB (C.txt l[k].data.toList) = tx at HT HB htl
      generalize l[k] = x at hc HT hsz
      subst hAe
      go_wp2_with fail
      refine (HT.out _).mono ?_
      rintro e w5 ⟨rfl, hx5⟩
      have X5 := Lib.hid (HX.out.trans hx5)
      clear hx5
      go_wp2_with fail
      exact ⟨⟨k + 1, _, by omega, by go_num, rfl, HB.out, X5.out⟩, by simp [intOf]; omega⟩
    · have hkn : k = n := by omega
      have HE : Hid (b = R) := by
        unfold Hid
        rw [HK.out.1, HR.out, hkn, HN.out, txsK_end]
      have hdk : decide (k < n) = false := decide_eq_false hlt
      clear HK hkn hk
      go_wp2_with fail
      go_ret2
      exact ⟨by rw [HE.out]; rfl, HX.out⟩
end Go.Proofs.YtclhbcicbnoohaaGreatDoor

/- Plain facts on the identifiers of trees: names, directories, what goes into the digest. No program in sight. -/
namespace Go.Proofs.YtclhbcicbnoohaaGreatDoor.T

/-- The first part of a path; whether there are more. -/
def fstP (p : Bs) : Bs := p.takeWhile fun b => b != 47
def deepP (p : Bs) : Bool := p.any fun b => b == 47
theorem fst_clean : ∀ (p : Bs), ∀ b ∈ fstP p, b ≠ 47
  | [], b, hb => by cases hb
  | a :: p, b, hb => by
    unfold fstP at hb
    rw [List.takeWhile_cons] at hb
    split at hb
    · rename_i h
      rcases List.mem_cons.1 hb with rfl | hb
      · simpa using h
      · exact fst_clean p b hb
    · cases hb
theorem deep_cut {p : Bs} (h : deepP p = true) : p = fstP p ++ 47 :: p.drop ((fstP p).length + 1) := by
  induction p with
  | nil => cases h
  | cons a p ih =>
    unfold fstP
    by_cases ha : a = 47
    · subst ha; simp
    · have h' : deepP p = true := by
        unfold deepP at h ⊢
        rw [List.any_cons] at h
        simpa [ha] using h
      have := ih h'
      rw [List.takeWhile_cons_of_pos (by simpa using ha)]
      simp only [List.length_cons, List.drop_succ_cons, List.cons_append]
      congr 1
theorem flat_fst : ∀ {p : Bs}, deepP p = false → fstP p = p
  | [], _ => rfl
  | a :: p, h => by
    unfold deepP at h
    rw [List.any_cons, Bool.or_eq_false_iff] at h
    have ih := flat_fst (p := p) h.2
    unfold fstP at ih ⊢
    have ha : (a != 47) = true := by have := h.1; simp at this ⊢; exact this
    rw [List.takeWhile_cons, if_pos ha, ih]
theorem segs_flat {p : Bs} (h : deepP p = false) : Seg.segs 47 p = [p] := Seg.segs_stop 47 p (by
  have := fst_clean p
  rwa [flat_fst h] at this)
theorem segs_deep {p : Bs} (h : deepP p = true) : Seg.segs 47 p = fstP p :: Seg.segs 47 (p.drop ((fstP p).length + 1)) := by
  conv => lhs; rw [deep_cut h]
  exact Seg.segs_cut 47 _ _ (fst_clean p)
theorem segs_head (p : Bs) : (Seg.segs 47 p).head? = some (fstP p) := by
  cases h : deepP p with
  | false => rw [segs_flat h, flat_fst h]; rfl
  | true => rw [segs_deep h]; rfl
theorem takeWhile_upto (x r : Bs) (h : ∀ b ∈ x, b ≠ 47) : fstP (x ++ 47 :: r) = x := by
  unfold fstP
  rw [List.takeWhile_append_of_pos (fun b hb => by simpa using h b hb)]
  simp
theorem below_fst {p x : Bs} (hx : ∀ b ∈ x, b ≠ 47) : below p x = true ↔ deepP p = true ∧ fstP p = x := by
  rw [below_iff]
  constructor
  · rintro ⟨r, rfl⟩
    exact ⟨by unfold deepP; simp, takeWhile_upto x r hx⟩
  · rintro ⟨h1, rfl⟩
    exact ⟨_, deep_cut h1⟩

/-! ### Names -/
/-- A name is put into a sorted list, once. -/
def insN (x : Bs) : List Bs → List Bs
  | [] => [x]
  | y :: l => if y ≤ x then (if y = x then y :: l else y :: insN x l) else x :: y :: l
theorem mem_insN (x y : Bs) : ∀ l : List Bs, y ∈ insN x l ↔ y = x ∨ y ∈ l
  | [] => by simp [insN]
  | z :: l => by
    have ih := mem_insN x y l
    rw [insN]
    by_cases h : z ≤ x
    · rw [if_pos h]
      by_cases h2 : z = x
      · subst h2; simp
      · rw [if_neg h2, List.mem_cons, ih, List.mem_cons]
        constructor
        · rintro (h3 | h3 | h3)
          · exact .inr (.inl h3)
          · exact .inl h3
          · exact .inr (.inr h3)
        · rintro (h3 | h3 | h3)
          · exact .inr (.inl h3)
          · exact .inl h3
          · exact .inr (.inr h3)
    · rw [if_neg h]; simp
theorem sorted_insN (x : Bs) : ∀ l : List Bs, l.Pairwise (· < ·) → (insN x l).Pairwise (· < ·)
  | [], _ => by simp [insN]
  | z :: l, h => by
    obtain ⟨h1, h2⟩ := List.pairwise_cons.1 h
    have ih := sorted_insN x l h2
    rw [insN]
    by_cases hz : z ≤ x
    · rw [if_pos hz]
      by_cases he : z = x
      · rw [if_pos he]; exact h
      · rw [if_neg he]
        refine List.pairwise_cons.2 ⟨fun y hy => ?_, ih⟩
        rcases (mem_insN x y l).1 hy with rfl | hy
        · rcases List.le_iff_lt_or_eq.1 hz with h3 | h3
          · exact h3
          · exact absurd h3 he
        · exact h1 y hy
    · rw [if_neg hz]
      have hxz := lt_of_not_le hz
      refine List.pairwise_cons.2 ⟨fun y hy => ?_, h⟩
      rcases List.mem_cons.1 hy with rfl | hy
      · exact hxz
      · exact lt_trans hxz (h1 y hy)
/-- Sorted lists of names with the same names are one. -/
theorem sorted_same : ∀ (l m : List Bs), l.Pairwise (· < ·) → m.Pairwise (· < ·) → (∀ x, x ∈ l ↔ x ∈ m) → l = m
  | [], [], _, _, _ => rfl
  | [], y :: m, _, _, h => absurd ((h y).2 List.mem_cons_self) (by simp)
  | x :: l, [], _, _, h => absurd ((h x).1 List.mem_cons_self) (by simp)
  | x :: l, y :: m, h1, h2, h => by
    obtain ⟨a1, a2⟩ := List.pairwise_cons.1 h1
    obtain ⟨b1, b2⟩ := List.pairwise_cons.1 h2
    have e : x = y := by
      rcases List.mem_cons.1 ((h x).1 List.mem_cons_self) with e | e
      · exact e
      · rcases List.mem_cons.1 ((h y).2 List.mem_cons_self) with e' | e'
        · exact e'.symm
        · exact absurd (lt_trans (b1 x e) (a1 y e')) (lt_irrefl _)
    subst e
    rw [sorted_same l m a2 b2 fun z => ⟨fun hz => by
      rcases List.mem_cons.1 ((h z).1 (List.mem_cons_of_mem _ hz)) with e | e
      · subst e; exact absurd (a1 z hz) (lt_irrefl _)
      · exact e, fun hz => by
      rcases List.mem_cons.1 ((h z).2 (List.mem_cons_of_mem _ hz)) with e | e
      · subst e; exact absurd (b1 z hz) (lt_irrefl _)
      · exact e⟩]
/-- The names of the first k files. -/
def namesK (t : Tr) : Nat → List Bs
  | 0 => []
  | k + 1 => match t[k]? with
    | some f => insN (fstP (pth f)) (namesK t k)
    | none => namesK t k
def names (t : Tr) : List Bs := namesK t t.length
theorem namesK_succ {t : Tr} {k : Nat} (h : k < t.length) : namesK t (k + 1) = insN (fstP (pth t[k])) (namesK t k) := by rw [namesK, List.getElem?_eq_getElem h]
theorem namesK_sorted (t : Tr) : ∀ k, (namesK t k).Pairwise (· < ·)
  | 0 => List.Pairwise.nil
  | k + 1 => by
    rw [namesK]
    split
    · exact sorted_insN _ _ (namesK_sorted t k)
    · exact namesK_sorted t k
theorem mem_namesK (t : Tr) (x : Bs) : ∀ k, k ≤ t.length → (x ∈ namesK t k ↔ ∃ f ∈ t.take k, fstP (pth f) = x)
  | 0, _ => by simp [namesK]
  | k + 1, hk => by
    rw [namesK_succ (by omega), mem_insN, mem_namesK t x k (by omega), List.take_succ_eq_append_getElem (by omega)]
    constructor
    · rintro (rfl | ⟨f, hf, he⟩)
      · exact ⟨_, List.mem_append_right _ (List.mem_singleton.2 rfl), rfl⟩
      · exact ⟨f, List.mem_append_left _ hf, he⟩
    · rintro ⟨f, hf, he⟩
      rcases List.mem_append.1 hf with hf | hf
      · exact .inr ⟨f, hf, he⟩
      · simp only [List.mem_cons, List.not_mem_nil, or_false] at hf
        subst hf
        exact .inl he.symm
theorem mem_names {t : Tr} {x : Bs} : x ∈ names t ↔ ∃ f ∈ t, fstP (pth f) = x := by
  unfold names
  rw [mem_namesK t x _ (Nat.le_refl _), List.take_length]
theorem insN_length (x : Bs) : ∀ l : List Bs, (insN x l).length ≤ l.length + 1
  | [] => by simp [insN]
  | y :: l => by
    have ih := insN_length x l
    rw [insN]
    split
    · split <;> simp <;> omega
    · simp
theorem namesK_length (t : Tr) : ∀ k, (namesK t k).length ≤ k
  | 0 => Nat.le_refl _
  | k + 1 => by
    have ih := namesK_length t k
    rw [namesK]
    split
    · exact Nat.le_trans (insN_length _ _) (by omega)
    · omega
/-! ### Directories -/
def subT (t : Tr) (x : Bs) : Tr := t.filterMap (cutF x)
theorem subT_under {t : Tr} {x : Bs} (h : x ≠ []) : underT t x = subT t x := by unfold underT subT; rw [if_neg h]
theorem mem_sub {t : Tr} {x : Bs} {g : File} : g ∈ subT t x ↔ ∃ f ∈ t, ∃ r, pth f = x ++ 47 :: r ∧ g = (mkF r, f.2) := by
  unfold subT
  rw [List.mem_filterMap]
  constructor
  · rintro ⟨f, hf, hc⟩
    unfold cutF at hc
    split at hc
    · rename_i hb
      obtain ⟨r, hr⟩ := below_iff.1 hb
      refine ⟨f, hf, r, hr, ?_⟩
      rw [hr] at hc
      have e : (x ++ 47 :: r).drop (x.length + 1) = r := by simp
      rw [e] at hc
      exact (Option.some.inj hc).symm
    · cases hc
  · rintro ⟨f, hf, r, hr, rfl⟩
    refine ⟨f, hf, ?_⟩
    unfold cutF
    rw [if_pos (below_iff.2 ⟨r, hr⟩), hr]
    have e : (x ++ 47 :: r).drop (x.length + 1) = r := by simp
    rw [e]
theorem pth_mkF (r : Bs) (d : ByteArray) : pth (mkF r, d) = r := mkF_data r
theorem path_parts {s : ByteArray} (h : okB s = true) : s.data.toList.length ≤ 128 ∧ (Seg.segs 47 s.data.toList).all nameB = true ∧ (Seg.segs 47 s.data.toList).length ≤ 8 := by
  unfold okB pathL at h
  simp only [Bool.and_eq_true, decide_eq_true_eq] at h
  exact ⟨h.1.1, h.1.2, h.2⟩
theorem path_of {s : ByteArray} (h1 : s.data.toList.length ≤ 128) (h2 : (Seg.segs 47 s.data.toList).all nameB = true) (h3 : (Seg.segs 47 s.data.toList).length ≤ 8) : okB s = true := by
  unfold okB pathL
  rw [h2, decide_eq_true h1, decide_eq_true h3]
  rfl
theorem path_first {s : ByteArray} (h : okB s = true) : nameB (fstP s.data.toList) = true := by
  obtain ⟨_, h2, _⟩ := path_parts h
  refine List.all_eq_true.1 h2 _ ?_
  have := segs_head s.data.toList
  cases hs : Seg.segs 47 s.data.toList with
  | nil => rw [hs] at this; cases this
  | cons a l => rw [hs] at this; cases this; exact List.mem_cons_self
theorem path_rest {s : ByteArray} {x r : Bs} (h : okB s = true) (hx : ∀ b ∈ x, b ≠ 47) (he : s.data.toList = x ++ 47 :: r) : okB (mkF r) = true ∧ (Seg.segs 47 s.data.toList).length = (Seg.segs 47 r).length + 1 := by
  obtain ⟨h1, h2, h3⟩ := path_parts h
  have hs : Seg.segs 47 s.data.toList = x :: Seg.segs 47 r := by rw [he, Seg.segs_cut 47 r x hx]
  rw [hs] at h2 h3 ⊢
  refine ⟨path_of ?_ ?_ ?_, rfl⟩ <;> rw [mkF_data]
  · rw [he] at h1; simp at h1; omega
  · rw [List.all_cons, Bool.and_eq_true] at h2; exact h2.2
  · rw [List.length_cons] at h3; omega
theorem name_path {x : Bs} (h : nameB x = true) : okB (mkF x) = true ∧ (∀ b ∈ x, b ≠ 47) ∧ x ≠ [] ∧ x.length ≤ 32 := by
  have h' := h
  unfold nameB at h
  simp only [Bool.and_eq_true, decide_eq_true_eq] at h
  obtain ⟨⟨⟨⟨h1, h2⟩, _⟩, _⟩, h5⟩ := h
  have hc : ∀ b ∈ x, b ≠ 47 := by
    intro b hb e
    have := List.all_eq_true.1 h5 b hb
    rw [e] at this
    revert this
    decide
  have hs := Seg.segs_stop 47 x hc
  refine ⟨path_of (by rw [mkF_data]; omega) ?_ ?_, hc, fun e => by rw [e] at h1; simp at h1, h2⟩
  · rw [mkF_data, hs]; simp [h']
  · rw [mkF_data, hs]; simp
/-- The parts of the paths of a tree are at most n. -/
def Deep (n : Nat) (t : Tr) : Prop := ∀ f ∈ t, (Seg.segs 47 (pth f)).length ≤ n
theorem deep_ok {t : Tr} (h : Ok okB t) : Deep 8 t := fun f hf => (path_parts (h.path f hf)).2.2
theorem deep_zero {t : Tr} (h : Deep 0 t) : t = [] := by
  cases t with
  | nil => rfl
  | cons f t =>
    have := h f List.mem_cons_self
    exact absurd (List.eq_nil_of_length_eq_zero (Nat.le_zero.1 this)) (Seg.segs_ne 47 _)
theorem deep_sub {t : Tr} {n : Nat} {x : Bs} (h : Deep (n + 1) t) (hx : ∀ b ∈ x, b ≠ 47) : Deep n (subT t x) := by
  intro g hg
  obtain ⟨f, hf, r, hr, rfl⟩ := mem_sub.1 hg
  have h1 := h f hf
  rw [hr, Seg.segs_cut 47 r x hx, List.length_cons] at h1
  rw [pth_mkF]
  omega
theorem sub_ok {t : Tr} {x : Bs} (h : Ok okB t) (hx : ∀ b ∈ x, b ≠ 47) : Ok okB (subT t x) := by
  refine ⟨Nat.le_trans (List.length_filterMap_le _ _) h.few, fun g hg => ?_, fun g hg => ?_, ?_, fun g hg k hk => ?_⟩
  · obtain ⟨f, hf, r, hr, rfl⟩ := mem_sub.1 hg
    exact (path_rest (h.path f hf) hx hr).1
  · obtain ⟨f, hf, r, hr, rfl⟩ := mem_sub.1 hg
    exact h.size f hf
  · unfold subT
    rw [List.pairwise_filterMap]
    refine h.sorted.imp fun {f g} hfg a ha b hb => ?_
    unfold cutF at ha hb
    split at ha
    · rename_i h1
      split at hb
      · rename_i h2
        cases ha
        cases hb
        obtain ⟨r, hr⟩ := below_iff.1 h1
        obtain ⟨s, hs⟩ := below_iff.1 h2
        rw [hr, hs] at hfg
        rw [pth_mkF, pth_mkF, hr, hs]
        have e : ∀ z : Bs, (x ++ 47 :: z).drop (x.length + 1) = z := fun z => by simp
        rw [e, e]
        have := append_lt.1 hfg
        rcases List.cons_lt_cons_iff.1 this with h3 | ⟨_, h3⟩
        · exact absurd h3 (UInt8.lt_irrefl 47)
        · exact h3
      · cases hb
    · cases ha
  · obtain ⟨f, hf, r, hr, rfl⟩ := mem_sub.1 hg
    obtain ⟨e, he, s, hs, rfl⟩ := mem_sub.1 hk
    rw [pth_mkF, pth_mkF]
    have := h.apart f hf e he
    rw [hr, hs, below_inD] at this
    exact this
/-! ### What goes into the digest -/
def valT (g : Tr → ByteArray) (t : Tr) (x : Bs) : ByteArray := match findT t x with
  | some f => fidB f.2
  | none => g (subT t x)
def listK (g : Tr → ByteArray) (t : Tr) (l : List Bs) : List ByteArray := l.flatMap fun x => [mkF x, valT g t x]
theorem listK_snoc (g : Tr → ByteArray) (t : Tr) (l : List Bs) (x : Bs) : listK g t (l ++ [x]) = listK g t l ++ [mkF x, valT g t x] := by
  unfold listK
  rw [List.flatMap_append]
  simp
theorem listK_length (g : Tr → ByteArray) (t : Tr) (l : List Bs) : (listK g t l).length = 2 * l.length := by
  induction l with
  | nil => rfl
  | cons x l ih =>
    have : listK g t (x :: l) = mkF x :: valT g t x :: listK g t l := rfl
    rw [this]
    simp only [List.length_cons, ih]
    omega
def idS : Nat → Tr → ByteArray
  | 0, _ => ⟨#[]⟩
  | n + 1, t => dig (⟨#[100]⟩ ++ mkB (txsL (listK (idS n) t (names t))))
theorem idS_size (n : Nat) (t : Tr) : (idS n t).size ≤ 32 := by
  cases n with
  | zero => exact Nat.zero_le _
  | succ n => rw [idS, dig_size]; exact Nat.le_refl _
theorem valT_size {g : Tr → ByteArray} (h : ∀ t, (g t).size ≤ 32) (t : Tr) (x : Bs) : (valT g t x).size ≤ 32 := by
  unfold valT
  split
  · rw [fidB_size]; exact Nat.le_refl _
  · exact h _
theorem mem_listK {g : Tr → ByteArray} {t : Tr} {l : List Bs} {s : ByteArray} (h : s ∈ listK g t l) : ∃ x ∈ l, s = mkF x ∨ s = valT g t x := by
  unfold listK at h
  obtain ⟨x, hx, hs⟩ := List.mem_flatMap.1 h
  simp only [List.mem_cons, List.not_mem_nil, or_false] at hs
  exact ⟨x, hx, hs⟩
/-- The identifier of a tree. -/
def idT (t : Tr) : ByteArray := idS 9 t
def idE (t : Tr) : ByteArray × Int := if checkE okB t ≠ 0 then (⟨#[]⟩, 1) else (idT t, 0)
/-- A name of a right tree. -/
theorem names_ok {t : Tr} (h : Ok okB t) {x : Bs} (hx : x ∈ names t) : nameB x = true := by
  obtain ⟨f, hf, rfl⟩ := mem_names.1 hx
  exact path_first (h.path f hf)
/-- A name is that of a file, or of a directory that is not empty. -/
theorem names_ways {t : Tr} {x : Bs} (hx : x ∈ names t) (hn : findT t x = none) : subT t x ≠ [] := by
  obtain ⟨f, hf, rfl⟩ := mem_names.1 hx
  cases hd : deepP (pth f) with
  | true =>
    intro e
    have hm : (mkF ((pth f).drop ((fstP (pth f)).length + 1)), f.2) ∈ subT t (fstP (pth f)) := mem_sub.2 ⟨f, hf, _, deep_cut hd, rfl⟩
    rw [e] at hm
    cases hm
  | false =>
    have := List.find?_eq_none.1 hn f hf
    rw [flat_fst hd] at this
    simp at this
/-- .. not both. -/
theorem find_sub {t : Tr} (h : Ok okB t) {x : Bs} {f : File} (hf : findT t x = some f) : subT t x = [] := by
  rw [List.eq_nil_iff_forall_not_mem]
  intro g hg
  obtain ⟨k, hk, r, hr, rfl⟩ := mem_sub.1 hg
  have hm := List.mem_of_find?_eq_some hf
  have hp : pth f = x := by simpa using List.find?_some hf
  have := h.apart k hk f hm
  rw [hp, Bool.eq_false_iff] at this
  exact this (below_iff.2 ⟨r, hr⟩)
end Go.Proofs.YtclhbcicbnoohaaGreatDoor.T

/- The reference's Check: the walk. -/
namespace Go.Proofs.YtclhbcicbnoohaaGreatDoor
open Go.RowKit

set_option maxRecDepth 100000 in
set_option maxHeartbeats 2000000 in
theorem rCheck_any (t : T.Tr) (A : Option Addr) (c n : Nat) (w : World) (hn : n = t.length) (hA : SliceAt fileR w (Old w) A c t) (hp : ∀ f ∈ t, f.1.size ≤ 9000000) : Calls Tryz.prog 29 #[.slice A n c] w (Al (.int .i64 (T.checkE okB t)) w) := by
  obtain ⟨R, hR⟩ : ∃ R, R = T.checkE okB t := ⟨_, rfl⟩
  rw [← hR]
  have HR := Lib.hid hR
  have HN := Lib.hid hn
  have HA := Lib.hid hA
  have HP := Lib.hid hp
  have hn63 : n ≤ 9223372036854775807 := by have := hA.1; have := hA.2.1; omega
  clear hR hn hA hp
  by_cases hbig : 64 < n
  · have HF : Hid (R = 10) := by unfold Hid; rw [HR.out, T.checkE_big okB (by rw [← HN.out]; exact hbig)]
    have hd : decide (64 < n) = true := decide_eq_true hbig
    go_enter Tryz.func29, Tryz.ntmps29
    go_wp2_with fail
    go_ret
    exact ⟨by rw [HF.out]; rfl, Ext.refl _⟩
  · have hd : decide (64 < n) = false := decide_eq_false hbig
    go_enter Tryz.func29, Tryz.ntmps29
    go_wp2_with fail
    clear hd
    go_loopw [11] (fun i wr => ∃ k : Nat, k ≤ n ∧ i = .int .i64 k ∧ Hid (T.okTo okB t k ∧ Ext w wr)) (fun i _ => n - (intOf i).toNat)
    case atStart => exact ⟨0, Nat.zero_le _, rfl, fun _ _ h => absurd h (Nat.not_lt_zero _), Ext.refl w⟩
    case round =>
      obtain ⟨k, hk, rfl, HK⟩ := hrel
      by_cases hlt : k < n
      · have hkl : k < t.length := by rw [← HN.out]; exact hlt
        obtain ⟨b, off, hAe, hb, c0, c1, h1, h2⟩ := file_get (HA.out.ext HK.out.2) hkl
        subst hAe
        rw [← Nat.add_assoc] at c1
        have hps := HP.out t[k] (List.getElem_mem hkl)
        have HCP : Hid (∀ W, Calls Tryz.prog 28 #[.string t[k].1] W (Al (.int .i64 (pathErr (pathL t[k].1.data.toList))) W)) := fun W => refPath_any _ W hps
        have HAT : Hid (T.fileE okB t k t[k] ≠ 0 → R = T.fileE okB t k t[k]) := fun h => by rw [HR.out, T.checkE_at okB (by have := HN.out; omega) HK.out.1 hkl h]
        have HX := Lib.hid HK.out.2
        cases hok : okB t[k].1
        · have HF : Hid (R = 2) := by
            have := fileE_path (t := t) (k := k) hok
            rw [this] at HAT
            exact HAT.out (by decide)
          rw [pathErr_no hok] at HCP
          clear HAT HK hok
          generalize t[k] = f at *
          obtain ⟨fp, fd⟩ := f
          simp only at c0 c1 h1 h2 HCP
          go_wp2_with fail
          refine (HCP.out _).mono ?_
          rintro e w5 ⟨rfl, d5⟩
          go_wp2_with fail
          go_ret
          exact ⟨by rw [HF.out]; rfl, (HX.out.alloc _).trans d5⟩
        · rw [pathErr_ok hok] at HCP
          have HIN : Hid (∀ j (_ : j < k) (w' : World), Ext w w' → ∃ g, t[j]? = some g ∧ w'.cell? ⟨b, off + j * 2, none⟩ = some (.string g.1)) := fun j hj w' hw => by
            have hjl : j < t.length := by omega
            obtain ⟨b', off', hAe, _, c0', _⟩ := file_get (HA.out.ext hw) hjl
            simp only [Option.some.injEq, Addr.mk.injEq] at hAe
            obtain ⟨rfl, rfl, _⟩ := hAe
            exact ⟨t[j], List.getElem?_eq_getElem hjl, c0'⟩
          by_cases hsz : 65536 < t[k].2.size
          · have HF : Hid (R = 10) := by
              rw [fileE_size hok hsz] at HAT
              exact HAT.out (by decide)
            clear HAT HK hok HIN
            generalize t[k] = f at *
            obtain ⟨fp, fd⟩ := f
            simp only at c0 c1 h1 h2 HCP hsz
            have hds : decide (65536 < fd.size) = true := decide_eq_true hsz
            go_wp2_with fail
            refine (HCP.out _).mono ?_
            rintro e w5 ⟨rfl, d5⟩
            have e0 := d5.keepc (cell_new wr #[.string fp, .string fd] 25 0)
            have e1 := d5.keepc (cell_new wr #[.string fp, .string fd] 25 1)
            go_wp2_with fail
            go_ret
            exact ⟨by rw [HF.out]; rfl, (HX.out.alloc _).trans d5⟩
          · have hds : decide (65536 < t[k].2.size) = false := decide_eq_false hsz
            by_cases hord : T.ordE t k t[k] = true
            · have HF : Hid (R = 5) := by
                rw [fileE_ord hok hsz hord] at HAT
                exact HAT.out (by decide)
              unfold T.ordE at hord
              rw [Bool.and_eq_true, decide_eq_true_eq] at hord
              obtain ⟨hk0, hord⟩ := hord
              have hd0 : decide (0 < k) = true := decide_eq_true hk0
              obtain ⟨g, hg, hc⟩ := HIN.out (k - 1) (by omega) wr HX.out
              rw [hg] at hord
              have hq : (Op.bytesLess t[k].1.toList g.1.toList || (t[k].1.toList == g.1.toList)) = true := by rw [le_ways]; exact hord
              clear HAT HK hok HIN hord hg
              generalize t[k] = f at *
              obtain ⟨fp, fd⟩ := f
              obtain ⟨gp, gd⟩ := g
              simp only at c0 c1 h1 h2 HCP hds hc hq
              have hc' : wr.cell? ⟨b, off + (k - 1) * 2, none⟩ = some (.string gp) := hc
              obtain ⟨k1, rfl⟩ : ∃ k1, k = k1 + 1 := ⟨k - 1, by omega⟩
              rw [Nat.add_sub_cancel] at hc'
              clear hc
              go_wp2_with fail
              refine (HCP.out _).mono ?_
              rintro e w5 ⟨rfl, d5⟩
              have e0 := d5.keepc (cell_new wr #[.string fp, .string fd] 25 0)
              have e1 := d5.keepc (cell_new wr #[.string fp, .string fd] 25 1)
              have e2 := d5.keepc (alloc_keepc (.cells #[.string fp, .string fd] 25) hc')
              go_wp2_with fail
              go_quiet (fail)
              go_wp2_with fail
              go_ret
              exact ⟨by rw [HF.out]; rfl, ((HX.out.alloc _).trans d5).drewN _⟩
            · have hordf : T.ordE t k t[k] = false := by simpa using hord
              have hno : ∀ g, 0 < k → t[k - 1]? = some g → (Op.bytesLess t[k].1.toList g.1.toList || (t[k].1.toList == g.1.toList)) = false := by
                intro g hk0 hg
                rw [le_ways]
                unfold T.ordE at hordf
                rw [decide_eq_true hk0, Bool.true_and, hg] at hordf
                exact hordf
              have HBE : Hid (∀ j (h : j < t.length), j < k → T.below (T.pth t[k]) (T.pth t[j]) = true → R = 6) := fun j hj hjk hbe => by
                have := HAT.out
                rw [fileE_two hok hsz hordf (bel_any hj hjk hbe)] at this
                exact this (by decide)
              have HOKK : Hid (noBel t (T.pth t[k]) k → T.okTo okB t (k + 1)) := fun hnb => T.okTo_succ okB HK.out.1 hkl (fileE_ok hok hsz hordf (noBel_any hnb))
              have hway : (k = 0 ∧ decide (0 < k) = false) ∨ ∃ k1 gp, k = k1 + 1 ∧ wr.cell? ⟨b, off + k1 * 2, none⟩ = some (.string gp) ∧ Op.bytesLess t[k].1.toList gp.toList = false ∧ (t[k].1.toList == gp.toList) = false := by
                by_cases hk0 : 0 < k
                · obtain ⟨g, hg, hc⟩ := HIN.out (k - 1) (by omega) wr HX.out
                  have h3 := hno g hk0 hg
                  rw [Bool.or_eq_false_iff] at h3
                  exact .inr ⟨k - 1, g.1, by omega, hc, h3⟩
                · exact .inl ⟨by omega, decide_eq_false hk0⟩
              have hp : T.pth t[k] = t[k].1.data.toList := rfl
              rw [hp] at HBE HOKK
              clear HAT HK hok hordf hno hp
              generalize t[k] = f at *
              obtain ⟨fp, fd⟩ := f
              simp only at c0 c1 h1 h2 HCP hds hsz hway HBE HOKK
              rcases hway with ⟨rfl, hd0⟩ | ⟨k1, gp, rfl, hc', hb1, hb2⟩
              · rw [Nat.zero_mul, Nat.add_zero] at c0 c1
                go_wp2_with fail
                refine (HCP.out _).mono ?_
                rintro e w5 ⟨rfl, d5⟩
                have e0 := d5.keepc (cell_new wr #[.string fp, .string fd] 25 0)
                have e1 := d5.keepc (cell_new wr #[.string fp, .string fd] 25 1)
                try (have e2 := d5.keepc (alloc_keepc (.cells #[.string fp, .string fd] 25) hc'))
                go_wp2_with fail
                go_quiet (fail)
                try clear e2
                try clear hc'
                try clear hb1
                try clear hb2
                try clear hd0
                have HX5 : Hid (Ext w w5) := (HX.out.alloc _).trans d5
                have HE0 := Lib.hid e0
                clear e0 e1 d5 c0 c1
                go_wp2_with fail
                go_loopw [5] (fun i wj => ∃ m : Nat, m ≤ 0 ∧ i = .int .i64 m ∧ Hid (noBel t fp.data.toList m ∧ Ext w5 wj)) (fun i _ => 0 - (intOf i).toNat)
                case atStart => exact ⟨0, Nat.zero_le _, rfl, fun _ _ h => absurd h (Nat.not_lt_zero _), (Ext.refl w5).drewN _⟩
                case round =>
                  obtain ⟨m, hm, rfl, HM⟩ := hrel
                  obtain rfl : m = 0 := by omega
                  have HF := Lib.hid (HOKK.out HM.out.1)
                  have HXM := Lib.hid (HX5.out.trans HM.out.2)
                  clear HM
                  go_wp2_with fail
                  go_roundw
                  case rel => exact ⟨0 + 1, by omega, by go_num, HF.out, HXM.out⟩
                  case measure => simp [intOf]; omega
              · go_wp2_with fail
                refine (HCP.out _).mono ?_
                rintro e w5 ⟨rfl, d5⟩
                have e0 := d5.keepc (cell_new wr #[.string fp, .string fd] 25 0)
                have e1 := d5.keepc (cell_new wr #[.string fp, .string fd] 25 1)
                try (have e2 := d5.keepc (alloc_keepc (.cells #[.string fp, .string fd] 25) hc'))
                go_wp2_with fail
                go_quiet (fail)
                try clear e2
                try clear hc'
                try clear hb1
                try clear hb2
                try clear hd0
                have HX5 : Hid (Ext w w5) := (HX.out.alloc _).trans d5
                have HE0 := Lib.hid e0
                clear e0 e1 d5 c0 c1
                go_wp2_with fail
                go_loopw [5] (fun i wj => ∃ m : Nat, m ≤ (k1 + 1) ∧ i = .int .i64 m ∧ Hid (noBel t fp.data.toList m ∧ Ext w5 wj)) (fun i _ => (k1 + 1) - (intOf i).toNat)
                case atStart => exact ⟨0, Nat.zero_le _, rfl, fun _ _ h => absurd h (Nat.not_lt_zero _), (Ext.refl w5).drewN _⟩
                case round =>
                  obtain ⟨m, hm, rfl, HM⟩ := hrel
                  by_cases hmk : m < (k1 + 1)
                  · have hml : m < t.length := by omega
                    obtain ⟨g, hg, hc⟩ := HIN.out m hmk wr (HX5.out.trans HM.out.2)
                    have hgm : t[m] = g := by rw [List.getElem?_eq_getElem hml] at hg; exact Option.some.inj hg
                    have e0 := HM.out.2.keepc HE0.out
                    have HB1 : Hid (T.below fp.data.toList g.1.data.toList = true → R = 6) := fun hb => HBE.out m hml hmk (by rw [hgm]; exact hb)
                    have HB2 : Hid (T.below fp.data.toList g.1.data.toList = false → noBel t fp.data.toList (m + 1)) := fun hb => noBel_succ HM.out.1 hml (by rw [hgm]; exact hb)
                    have HBC : Hid (∀ W, Calls Tryz.prog 53 #[.string fp, .string g.1] W fun e w' => e = .returned (.bool (T.below fp.data.toList g.1.data.toList)) ∧ W = w') := fun W => refBelow_any fp g.1 W
                    have HXM := Lib.hid HM.out.2
                    clear hg hgm HM
                    obtain ⟨gp, gd⟩ := g
                    simp only at hc HB1 HB2 HBC
                    generalize T.below fp.data.toList gp.data.toList = bb at HB1 HB2 HBC
                    cases bb
                    · have HQ := Lib.hid (HB2.out rfl)
                      clear HB1 HB2
                      go_wp2_with fail
                      go_quiet ((go_at_call 53; exact quiet_at (toQ (HBC.out _))))
                      go_wp2_with fail
                      go_roundw
                      case rel => exact ⟨m + 1, by omega, by go_num, HQ.out, HXM.out.drewN _⟩
                      case measure => simp [intOf]; omega
                    · have HQ := Lib.hid (HB1.out rfl)
                      clear HB1 HB2
                      go_wp2_with fail
                      go_quiet ((go_at_call 53; exact quiet_at (toQ (HBC.out _))))
                      go_wp2_with fail
                      go_ret
                      exact ⟨by rw [HQ.out]; rfl, (HX5.out.trans HXM.out).drewN _⟩
                  · obtain rfl : m = (k1 + 1) := by omega
                    have HF := Lib.hid (HOKK.out HM.out.1)
                    have HXM := Lib.hid (HX5.out.trans HM.out.2)
                    clear HM
                    go_wp2_with fail
                    go_roundw
                    case rel => exact ⟨(k1 + 1) + 1, by omega, by go_num, HF.out, HXM.out⟩
                    case measure => simp [intOf]; omega
      · have HF : Hid (R = 0) := by
          have h1 : T.okTo okB t t.length := by
            have := HK.out.1
            rwa [show k = t.length by have := HN.out; omega] at this
          unfold Hid
          rw [HR.out, T.checkE_end okB (by have := HN.out; omega) h1]
        have HX := Lib.hid HK.out.2
        have hdk : decide (k < n) = false := decide_eq_false hlt
        clear HK hk
        go_wp2_with fail
        go_ret
        exact ⟨by rw [HF.out]; rfl, HX.out⟩
end Go.Proofs.YtclhbcicbnoohaaGreatDoor

/- slices.IndexFunc and ContainsFunc of files, for any closure that tells a quality of a file. -/
namespace Go.Proofs.YtclhbcicbnoohaaGreatDoor
open Go.RowKit Go.Maps Go.ChangeMaps

/-- The first k files have not the quality. -/
def noQ (q : T.File → Bool) (t : T.Tr) (k : Nat) : Prop := ∀ i (h : i < t.length), i < k → q t[i] = false
theorem noQ_succ {q : T.File → Bool} {t : T.Tr} {k : Nat} (h : noQ q t k) (hk : k < t.length) (h1 : q t[k] = false) : noQ q t (k + 1) := by
  intro i hi hik
  by_cases e : i = k
  · subst e; exact h1
  · exact h i hi (by omega)
theorem noQ_at {q : T.File → Bool} {t : T.Tr} {k : Nat} (h : noQ q t k) (hk : k < t.length) (h1 : q t[k] = true) : t.findIdx? q = some k := by
  rw [List.findIdx?_eq_some_iff_getElem]
  exact ⟨hk, h1, fun j hj => by rw [h j (by omega) hj]; exact Bool.false_ne_true⟩
theorem noQ_end {q : T.File → Bool} {t : T.Tr} (h : noQ q t t.length) : t.findIdx? q = none := by
  rw [List.findIdx?_eq_none_iff]
  intro x hx
  obtain ⟨i, hi, rfl⟩ := List.getElem_of_mem hx
  exact h i hi hi
set_option maxRecDepth 8000 in
set_option maxHeartbeats 2000000 in
theorem IndexFunc_gen (q : T.File → Bool) (g bp : Nat) (eg : ∀ (args : Array Value) (w : World), (callFunc g args).run Tryz.prog w = .ok (.enter g args) w) (t : T.Tr) (A : Option Addr) (c n : Nat) (w : World) (hn : n = t.length) (hA : SliceAt fileR w (Old w) A c t)
    (hc : ∀ f ∈ t, ∀ W, Ext w W → Calls Tryz.prog g #[.agg #[.string f.1, .string f.2], .pointer (some ⟨bp, 0, none⟩)] W (Al (.bool (q f)) W)) :
    Calls Tryz.prog 71 #[.slice A n c, .func (.func g) #[] #[.pointer (some ⟨bp, 0, none⟩)]] w (Al (.int .i64 (idxI (t.findIdx? q))) w) := by
  have hn2 : n ≤ 9223372036854775807 := by have := hA.1; have := hA.2.1; omega
  have HN := Lib.hid hn
  have HA := Lib.hid hA
  obtain ⟨R, hR⟩ : ∃ R, R = idxI (t.findIdx? q) := ⟨_, rfl⟩
  rw [← hR]
  have HR := Lib.hid hR
  have HC1 := Lib.hid hc
  clear hn hA hc hR
  go_enter Tryz.func71, Tryz.ntmps71
  go_wp2_with fail
  go_loopw [5, 8] (fun _ i wr => ∃ k : Nat, k ≤ n ∧ i = .int .i64 k ∧ Hid (noQ q t k ∧ Ext w wr)) (fun _ i _ => n - (intOf i).toNat)
  case atStart => exact ⟨0, Nat.zero_le _, rfl, fun _ _ h => absurd h (Nat.not_lt_zero _), Ext.refl w⟩
  case round =>
    obtain ⟨k, hk, rfl, HK⟩ := hrel
    by_cases hlt : k < n
    · have hkl : k < t.length := by rw [← HN.out]; exact hlt
      obtain ⟨b, off, hAe, hb, c0, c1, h1, h2⟩ := file_get (HA.out.ext HK.out.2) hkl
      subst hAe
      rw [← Nat.add_assoc] at c1
      have HY : Hid (q t[k] = true → R = (k : Int)) := fun he => by rw [HR.out, noQ_at HK.out.1 hkl he]; rfl
      have HNO : Hid (q t[k] = false → noQ q t (k + 1)) := fun he => noQ_succ HK.out.1 hkl he
      have HX := Lib.hid HK.out.2
      have HCALL := Lib.hid (HC1.out t[k] (List.getElem_mem hkl) wr HK.out.2)
      clear HK
      generalize t[k] = f at *
      obtain ⟨fp, fd⟩ := f
      simp only at c0 c1 h1 h2
      generalize q (fp, fd) = bb at HY HNO HCALL
      cases bb
      · have HQ := Lib.hid (HNO.out rfl)
        have HC : Hid (Calls Tryz.prog g #[.agg #[.string fp, .string fd], .pointer (some ⟨bp, 0, none⟩)] wr (Al (.bool false) wr)) := HCALL
        clear HCALL HY HNO
        go_wp2_with (go_at_fn g; refine HC.out.mono ?_; rintro e w1 ⟨rfl, d1⟩)
        go_roundw
        case rel => exact ⟨k + 1, by omega, by go_num, HQ.out, HX.out.trans d1⟩
        case measure => simp [intOf]; omega
      · have HQ := Lib.hid (HY.out rfl)
        have HC : Hid (Calls Tryz.prog g #[.agg #[.string fp, .string fd], .pointer (some ⟨bp, 0, none⟩)] wr (Al (.bool true) wr)) := HCALL
        clear HCALL HY HNO
        go_wp2_with (go_at_fn g; refine HC.out.mono ?_; rintro e w1 ⟨rfl, d1⟩)
        go_ret
        exact ⟨by rw [HQ.out]; rfl, HX.out.trans d1⟩
    · have HQ : Hid (R = -1) := by
        unfold Hid
        have h1 : noQ q t t.length := by
          have := HK.out.1
          rwa [show k = t.length by have := HN.out; omega] at this
        rw [HR.out, noQ_end h1]
        rfl
      have HX := Lib.hid HK.out.2
      have hdk : decide (k < n) = false := decide_eq_false hlt
      clear HK hk
      go_wp2_with fail
      go_ret
      exact ⟨by rw [HQ.out]; rfl, HX.out⟩
theorem idxI_any (q : T.File → Bool) (t : T.Tr) : decide (0 ≤ idxI (t.findIdx? q)) = t.any q := by
  cases h : t.findIdx? q with
  | none =>
    rw [List.findIdx?_eq_none_iff] at h
    have : t.any q = false := by rw [List.any_eq_false]; intro x hx; rw [h x hx]; exact Bool.false_ne_true
    rw [this]
    rfl
  | some i =>
    rw [List.findIdx?_eq_some_iff_getElem] at h
    obtain ⟨hi, h1, _⟩ := h
    have : t.any q = true := by rw [List.any_eq_true]; exact ⟨_, List.getElem_mem hi, h1⟩
    rw [this]
    simp [idxI]
set_option maxRecDepth 8000 in
theorem ContainsFunc_gen (q : T.File → Bool) (g bp : Nat) (eg : ∀ (args : Array Value) (w : World), (callFunc g args).run Tryz.prog w = .ok (.enter g args) w) (t : T.Tr) (A : Option Addr) (c n : Nat) (w : World) (hn : n = t.length) (hA : SliceAt fileR w (Old w) A c t)
    (hc : ∀ f ∈ t, ∀ W, Ext w W → Calls Tryz.prog g #[.agg #[.string f.1, .string f.2], .pointer (some ⟨bp, 0, none⟩)] W (Al (.bool (q f)) W)) :
    Calls Tryz.prog 45 #[.slice A n c, .func (.func g) #[] #[.pointer (some ⟨bp, 0, none⟩)]] w (Al (.bool (t.any q)) w) := by
  have HI := Lib.hid (IndexFunc_gen q g bp eg t A c n w hn hA hc)
  have he := idxI_any q t
  generalize idxI (t.findIdx? q) = R at HI he
  generalize t.any q = bb at he
  clear hn hA hc eg
  go_enter Tryz.func45, Tryz.ntmps45
  go_wp2_with fail
  refine HI.out.mono ?_
  rintro e w1 ⟨rfl, d1⟩
  have X1 := Lib.hid d1
  clear d1
  go_wp2_with fail
  go_ret
  exact ⟨by simp, X1.out⟩
end Go.Proofs.YtclhbcicbnoohaaGreatDoor

/- tree.Check: the walk. -/
namespace Go.Proofs.YtclhbcicbnoohaaGreatDoor
open Go.RowKit

theorem slice_take {α : Type} {r : Rep α} {w : World} {B : Nat → Prop} {A : Option Addr} {c : Nat} {l : List α} (h : SliceAt r w B A c l) (k : Nat) : SliceAt r w B A c (l.take k) := by
  obtain ⟨h1, h2, h3⟩ := h
  refine ⟨by rw [List.length_take]; omega, h2, fun hne => ?_⟩
  obtain ⟨b, off, hA, hb, hr⟩ := h3 (by intro e; rw [e] at hne; simp at hne)
  refine ⟨b, off, hA, hb, fun i hi => ?_⟩
  rw [List.length_take] at hi
  obtain ⟨us, g1, g2⟩ := hr i (by omega)
  exact ⟨us, by rw [List.getElem_take]; exact g1, g2⟩
theorem egc56 : ∀ (args : Array Value) (w : World), (callFunc 56 args).run Tryz.prog w = .ok (.enter 56 args) w := enters_of Tryz.func56 (by kernel_rfl) rfl
theorem chk1_any (s d x : ByteArray) (bp : Nat) (w : World) (hs : s.size ≤ 1000000000) (c1 : w.cell? ⟨bp, 0, none⟩ = some (.string x)) :
    Calls Tryz.prog 56 #[.agg #[.string s, .string d], .pointer (some ⟨bp, 0, none⟩)] w (Al (.bool (T.below x.data.toList s.data.toList)) w) := by
  have d1 := alloc_keepc (.cells #[.string s, .string d] 25) c1
  have HC : Hid (∀ W, Calls Tryz.prog 47 #[.string x, .string s] W fun e w' => e = .returned (.bool (T.below x.data.toList s.data.toList)) ∧ W = w') := fun W => below_any x s W hs
  clear c1
  generalize T.below x.data.toList s.data.toList = b at HC ⊢
  go_enter Tryz.func56, Tryz.ntmps56
  go_wp2_with fail
  refine (HC.out _).mono ?_
  rintro e w1 ⟨rfl, rfl⟩
  go_wp2_with fail
  go_ret
  exact ⟨rfl, (Ext.refl w).alloc _⟩
set_option maxRecDepth 100000 in
set_option maxHeartbeats 2000000 in
theorem Check_any (t : T.Tr) (A : Option Addr) (c n : Nat) (w : World) (hn : n = t.length) (hA : SliceAt fileR w (Old w) A c t) (hp : ∀ f ∈ t, f.1.size ≤ 1000000) (hg : Gl w) : Calls Tryz.prog 24 #[.slice A n c] w (Al (.int .i64 (T.checkE okB t)) w) := by
  obtain ⟨R, hR⟩ : ∃ R, R = T.checkE okB t := ⟨_, rfl⟩
  rw [← hR]
  have HR := Lib.hid hR
  have HN := Lib.hid hn
  have HA := Lib.hid hA
  have HP := Lib.hid hp
  have HG := Lib.hid hg
  have hn63 : n ≤ 9223372036854775807 := by have := hA.1; have := hA.2.1; omega
  clear hR hn hA hp hg
  by_cases hbig : 64 < n
  · have HF : Hid (R = 10) := by unfold Hid; rw [HR.out, T.checkE_big okB (by rw [← HN.out]; exact hbig)]
    have hd : decide (64 < n) = true := decide_eq_true hbig
    go_enter Tryz.func24, Tryz.ntmps24
    go_wp2_with fail
    go_ret
    exact ⟨by rw [HF.out]; rfl, Ext.refl _⟩
  · have hd : decide (64 < n) = false := decide_eq_false hbig
    go_enter Tryz.func24, Tryz.ntmps24
    go_wp2_with fail
    clear hd
    go_loopw [10] (fun i wr => ∃ k : Nat, k ≤ n ∧ i = .int .i64 k ∧ Hid (T.okTo okB t k ∧ Ext w wr)) (fun i _ => n - (intOf i).toNat)
    case atStart => exact ⟨0, Nat.zero_le _, rfl, fun _ _ h => absurd h (Nat.not_lt_zero _), Ext.refl w⟩
    case round =>
      obtain ⟨k, hk, rfl, HK⟩ := hrel
      by_cases hlt : k < n
      · have hkl : k < t.length := by rw [← HN.out]; exact hlt
        obtain ⟨b, off, hAe, hb, c0, c1, h1, h2⟩ := file_get (HA.out.ext HK.out.2) hkl
        subst hAe
        rw [← Nat.add_assoc] at c1
        have hps := HP.out t[k] (List.getElem_mem hkl)
        have HCP : Hid (∀ W, Ext w W → Calls Tryz.prog 27 #[.string t[k].1] W (Al (.int .i64 (pathErr (pathL t[k].1.data.toList))) W)) := fun W hW => by
          obtain ⟨⟨m, hm⟩, _⟩ := HG.out.ext hW
          exact path_is _ m W hps hm
        have HAT : Hid (T.fileE okB t k t[k] ≠ 0 → R = T.fileE okB t k t[k]) := fun h => by rw [HR.out, T.checkE_at okB (by have := HN.out; omega) HK.out.1 hkl h]
        have HX := Lib.hid HK.out.2
        cases hok : okB t[k].1
        · have HF : Hid (R = 2) := by
            have := fileE_path (t := t) (k := k) hok
            rw [this] at HAT
            exact HAT.out (by decide)
          rw [pathErr_no hok] at HCP
          clear HAT HK hok
          generalize t[k] = f at *
          obtain ⟨fp, fd⟩ := f
          simp only at c0 c1 h1 h2 HCP
          go_wp2_with fail
          refine (HCP.out _ (HX.out.alloc _)).mono ?_
          rintro e w5 ⟨rfl, d5⟩
          go_wp2_with fail
          go_ret
          exact ⟨by rw [HF.out]; rfl, (HX.out.alloc _).trans d5⟩
        · rw [pathErr_ok hok] at HCP
          have HIN : Hid (∀ j (_ : j < k) (w' : World), Ext w w' → ∃ g, t[j]? = some g ∧ w'.cell? ⟨b, off + j * 2, none⟩ = some (.string g.1)) := fun j hj w' hw => by
            have hjl : j < t.length := by omega
            obtain ⟨b', off', hAe, _, c0', _⟩ := file_get (HA.out.ext hw) hjl
            simp only [Option.some.injEq, Addr.mk.injEq] at hAe
            obtain ⟨rfl, rfl, _⟩ := hAe
            exact ⟨t[j], List.getElem?_eq_getElem hjl, c0'⟩
          by_cases hsz : 65536 < t[k].2.size
          · have HF : Hid (R = 10) := by
              rw [fileE_size hok hsz] at HAT
              exact HAT.out (by decide)
            clear HAT HK hok HIN
            generalize t[k] = f at *
            obtain ⟨fp, fd⟩ := f
            simp only at c0 c1 h1 h2 HCP hsz
            have hds : decide (65536 < fd.size) = true := decide_eq_true hsz
            go_wp2_with fail
            refine (HCP.out _ (HX.out.alloc _)).mono ?_
            rintro e w5 ⟨rfl, d5⟩
            have e0 := d5.keepc (cell_new wr #[.string fp, .string fd] 25 0)
            have e1 := d5.keepc (cell_new wr #[.string fp, .string fd] 25 1)
            go_wp2_with fail
            go_ret
            exact ⟨by rw [HF.out]; rfl, (HX.out.alloc _).trans d5⟩
          · have hds : decide (65536 < t[k].2.size) = false := decide_eq_false hsz
            by_cases hord : T.ordE t k t[k] = true
            · have HF : Hid (R = 5) := by
                rw [fileE_ord hok hsz hord] at HAT
                exact HAT.out (by decide)
              unfold T.ordE at hord
              rw [Bool.and_eq_true, decide_eq_true_eq] at hord
              obtain ⟨hk0, hord⟩ := hord
              have hd0 : decide (0 < k) = true := decide_eq_true hk0
              obtain ⟨g, hg, hc⟩ := HIN.out (k - 1) (by omega) wr HX.out
              rw [hg] at hord
              have hq : (!Op.bytesLess g.1.toList t[k].1.toList) = true := by rw [less_le]; exact hord
              have hq2 : Op.bytesLess g.1.toList t[k].1.toList = false := by simpa using hq
              clear HAT HK hok HIN hord hg
              generalize t[k] = f at *
              obtain ⟨fp, fd⟩ := f
              obtain ⟨gp, gd⟩ := g
              simp only at c0 c1 h1 h2 HCP hds hc hq hq2
              have hc' : wr.cell? ⟨b, off + (k - 1) * 2, none⟩ = some (.string gp) := hc
              obtain ⟨k1, rfl⟩ : ∃ k1, k = k1 + 1 := ⟨k - 1, by omega⟩
              rw [Nat.add_sub_cancel] at hc'
              clear hc
              go_wp2_with fail
              refine (HCP.out _ (HX.out.alloc _)).mono ?_
              rintro e w5 ⟨rfl, d5⟩
              have e0 := d5.keepc (cell_new wr #[.string fp, .string fd] 25 0)
              have e1 := d5.keepc (cell_new wr #[.string fp, .string fd] 25 1)
              have e2 := d5.keepc (alloc_keepc (.cells #[.string fp, .string fd] 25) hc')
              go_wp2_with fail
              go_quiet (fail)
              go_wp2_with fail
              go_ret
              exact ⟨by rw [HF.out]; rfl, ((HX.out.alloc _).trans d5).drewN _⟩
            · have hordf : T.ordE t k t[k] = false := by simpa using hord
              have hno : ∀ g, 0 < k → t[k - 1]? = some g → (!Op.bytesLess g.1.toList t[k].1.toList) = false := by
                intro g hk0 hg
                rw [less_le]
                unfold T.ordE at hordf
                rw [decide_eq_true hk0, Bool.true_and, hg] at hordf
                exact hordf
              have HBE : Hid ((t.take k).any (fun g => T.below (T.pth t[k]) (T.pth g)) = true → R = 6) := fun hbe => by
                have := HAT.out
                rw [fileE_two hok hsz hordf hbe] at this
                exact this (by decide)
              have HOKK : Hid ((t.take k).any (fun g => T.below (T.pth t[k]) (T.pth g)) = false → T.okTo okB t (k + 1)) := fun hnb => T.okTo_succ okB HK.out.1 hkl (fileE_ok hok hsz hordf hnb)
              have HSL : Hid (∀ W, Ext w W → SliceAt fileR W (Old W) (some ⟨b, off, none⟩) c (t.take k)) := fun W hW => slice_take (HA.out.ext hW) k
              have htk : k = (t.take k).length := by rw [List.length_take]; omega
              have HTM : Hid (∀ g ∈ t.take k, g.1.size ≤ 1000000) := fun g hg => HP.out g (List.mem_of_mem_take hg)
              have hway : (k = 0 ∧ decide (0 < k) = false) ∨ ∃ k1 gp, k = k1 + 1 ∧ wr.cell? ⟨b, off + k1 * 2, none⟩ = some (.string gp) ∧ Op.bytesLess gp.toList t[k].1.toList = true ∧ (!Op.bytesLess gp.toList t[k].1.toList) = false := by
                by_cases hk0 : 0 < k
                · obtain ⟨g, hg, hc⟩ := HIN.out (k - 1) (by omega) wr HX.out
                  have h3 := hno g hk0 hg
                  exact .inr ⟨k - 1, g.1, by omega, hc, by simpa using h3, h3⟩
                · exact .inl ⟨by omega, decide_eq_false hk0⟩
              have hkc : k ≤ c := by have := HA.out.1; omega
              have hp : T.pth t[k] = t[k].1.data.toList := rfl
              rw [hp] at HBE HOKK
              generalize t.take k = tk at HBE HOKK HSL htk HTM
              clear HIN
              have HTK := Lib.hid htk
              clear htk
              clear HAT HK hok hordf hno hp
              generalize t[k] = f at *
              obtain ⟨fp, fd⟩ := f
              simp only at c0 c1 h1 h2 HCP hds hsz hway HBE HOKK
              rcases hway with ⟨rfl, hd0⟩ | ⟨k1, gp, rfl, hc', hb1, hb2⟩
              · rw [Nat.zero_mul, Nat.add_zero] at c0 c1
                go_wp2_with fail
                refine (HCP.out _ (HX.out.alloc _)).mono ?_
                rintro e w5 ⟨rfl, d5⟩
                have e0 := d5.keepc (cell_new wr #[.string fp, .string fd] 25 0)
                have e1 := d5.keepc (cell_new wr #[.string fp, .string fd] 25 1)
                try (have e2 := d5.keepc (alloc_keepc (.cells #[.string fp, .string fd] 25) hc'))
                go_wp2_with fail
                go_quiet (fail)
                try clear e2
                try clear hc'
                try clear hb1
                try clear hb2
                try clear hd0
                have HX5 : Hid (Ext w (w5.drewN 0)) := (HX.out.alloc _).trans d5
                have HE0 := Lib.hid e0
                clear e0 e1 d5 c0 c1
                obtain ⟨w5', hw5⟩ : ∃ x, x = w5.drewN nq := ⟨_, rfl⟩
                rw [← hw5]
                replace HX5 : Hid (Ext w w5') := by rw [hw5]; exact HX5.out.drewN nq
                replace HE0 := Lib.hid ((show Ext w5 w5' by rw [hw5]; exact (Ext.refl w5).drewN nq).keepc HE0.out)
                clear hw5
                generalize w5' = w5 at *
                have HCC : Hid (Calls Tryz.prog 45 #[.slice (some ⟨b, off, none⟩) 0 c, .func (.func 56) #[] #[.pointer (some ⟨wr.heap.size, 0, none⟩)]] w5 (Al (.bool (tk.any fun g => T.below fp.data.toList (T.pth g))) w5)) :=
                  ContainsFunc_gen _ 56 wr.heap.size egc56 tk _ c 0 w5 HTK.out (HSL.out w5 HX5.out) fun g hg W hW => chk1_any g.1 g.2 fp wr.heap.size W (by have := HTM.out g hg; omega) (hW.keepc HE0.out)
                generalize (tk.any fun g => T.below fp.data.toList (T.pth g)) = bb at HBE HOKK HCC
                clear HE0 HSL HTM
                cases bb
                · have HF := Lib.hid (HOKK.out rfl)
                  clear HBE HOKK
                  go_wp2_with fail
                  refine HCC.out.mono ?_
                  rintro e w6 ⟨rfl, d6⟩
                  have HX6 : Hid (Ext w w6) := HX5.out.trans d6
                  go_wp2_with fail
                  go_roundw
                  case rel => exact ⟨0 + 1, by omega, by go_num, HF.out, HX6.out⟩
                  case measure => simp [intOf]; omega
                · have HF := Lib.hid (HBE.out rfl)
                  clear HBE HOKK
                  go_wp2_with fail
                  refine HCC.out.mono ?_
                  rintro e w6 ⟨rfl, d6⟩
                  have HX6 : Hid (Ext w w6) := HX5.out.trans d6
                  go_wp2_with fail
                  go_ret
                  exact ⟨by rw [HF.out]; rfl, HX6.out⟩
              · go_wp2_with fail
                refine (HCP.out _ (HX.out.alloc _)).mono ?_
                rintro e w5 ⟨rfl, d5⟩
                have e0 := d5.keepc (cell_new wr #[.string fp, .string fd] 25 0)
                have e1 := d5.keepc (cell_new wr #[.string fp, .string fd] 25 1)
                try (have e2 := d5.keepc (alloc_keepc (.cells #[.string fp, .string fd] 25) hc'))
                go_wp2_with fail
                go_quiet (fail)
                try clear e2
                try clear hc'
                try clear hb1
                try clear hb2
                try clear hd0
                have HX5 : Hid (Ext w (w5.drewN 0)) := (HX.out.alloc _).trans d5
                have HE0 := Lib.hid e0
                clear e0 e1 d5 c0 c1
                obtain ⟨w5', hw5⟩ : ∃ x, x = w5.drewN nq := ⟨_, rfl⟩
                rw [← hw5]
                replace HX5 : Hid (Ext w w5') := by rw [hw5]; exact HX5.out.drewN nq
                replace HE0 := Lib.hid ((show Ext w5 w5' by rw [hw5]; exact (Ext.refl w5).drewN nq).keepc HE0.out)
                clear hw5
                generalize w5' = w5 at *
                have HCC : Hid (Calls Tryz.prog 45 #[.slice (some ⟨b, off, none⟩) (k1 + 1) c, .func (.func 56) #[] #[.pointer (some ⟨wr.heap.size, 0, none⟩)]] w5 (Al (.bool (tk.any fun g => T.below fp.data.toList (T.pth g))) w5)) :=
                  ContainsFunc_gen _ 56 wr.heap.size egc56 tk _ c (k1 + 1) w5 HTK.out (HSL.out w5 HX5.out) fun g hg W hW => chk1_any g.1 g.2 fp wr.heap.size W (by have := HTM.out g hg; omega) (hW.keepc HE0.out)
                generalize (tk.any fun g => T.below fp.data.toList (T.pth g)) = bb at HBE HOKK HCC
                clear HE0 HSL HTM
                cases bb
                · have HF := Lib.hid (HOKK.out rfl)
                  clear HBE HOKK
                  go_wp2_with fail
                  refine HCC.out.mono ?_
                  rintro e w6 ⟨rfl, d6⟩
                  have HX6 : Hid (Ext w w6) := HX5.out.trans d6
                  go_wp2_with fail
                  go_roundw
                  case rel => exact ⟨(k1 + 1) + 1, by omega, by go_num, HF.out, HX6.out⟩
                  case measure => simp [intOf]; omega
                · have HF := Lib.hid (HBE.out rfl)
                  clear HBE HOKK
                  go_wp2_with fail
                  refine HCC.out.mono ?_
                  rintro e w6 ⟨rfl, d6⟩
                  have HX6 : Hid (Ext w w6) := HX5.out.trans d6
                  go_wp2_with fail
                  go_ret
                  exact ⟨by rw [HF.out]; rfl, HX6.out⟩
      · have HF : Hid (R = 0) := by
          have h1 : T.okTo okB t t.length := by
            have := HK.out.1
            rwa [show k = t.length by have := HN.out; omega] at this
          unfold Hid
          rw [HR.out, T.checkE_end okB (by have := HN.out; omega) h1]
        have HX := Lib.hid HK.out.2
        have hdk : decide (k < n) = false := decide_eq_false hlt
        clear HK hk
        go_wp2_with fail
        go_ret
        exact ⟨by rw [HF.out]; rfl, HX.out⟩
end Go.Proofs.YtclhbcicbnoohaaGreatDoor

/- Lists of files that a call has built; what the functions give back. -/
namespace Go.Proofs.YtclhbcicbnoohaaGreatDoor
open Go.RowKit

def fcells (l : T.Tr) : List Value := l.flatMap fun p => [.string p.1, .string p.2]
theorem fcells_len : ∀ l : T.Tr, (fcells l).length = l.length * 2
  | [] => rfl
  | p :: l => by
    have := fcells_len l
    unfold fcells at *
    rw [List.flatMap_cons, List.length_append, this, List.length_cons]
    simp
    omega
theorem fcells_append (l m : T.Tr) : fcells (l ++ m) = fcells l ++ fcells m := by unfold fcells; exact List.flatMap_append
theorem fcells_one (l : T.Tr) : ∀ u ∈ fcells l, u.oneCell' = true := by
  intro u hu
  obtain ⟨p, _, hp⟩ := List.mem_flatMap.1 hu
  simp at hp
  rcases hp with rfl | rfl <;> rfl
theorem fcells_get : ∀ (l : T.Tr) (j : Nat) (h : j < l.length), (fcells l)[j * 2]? = some (.string l[j].1) ∧ (fcells l)[j * 2 + 1]? = some (.string l[j].2)
  | p :: l, 0, _ => by simp [fcells]
  | p :: l, j + 1, h => by
    have := fcells_get l j (by simpa using h)
    rw [show (p :: l)[j + 1] = l[j]'(by simpa using h) from rfl]
    have e : fcells (p :: l) = [.string p.1, .string p.2] ++ fcells l := rfl
    rw [e, List.getElem?_append_right (by simp; omega), List.getElem?_append_right (by simp; omega)]
    simp only [List.length_cons, List.length_nil]
    rw [show (j + 1) * 2 - (0 + 1 + 1) = j * 2 by omega, show (j + 1) * 2 + 1 - (0 + 1 + 1) = j * 2 + 1 by omega]
    exact this
def OwnFiles (w : World) (base : Nat) (v : Value) (l : T.Tr) : Prop := OwnAt w base 25 2 v l.length (fcells l)
theorem file_info : (Tryz.prog.info? 25).map (fun i => (i.zero, i.size, i.bytes)) = some (some (.agg #[.string ⟨#[]⟩, .string ⟨#[]⟩]), 2, 32) := by kernel_rfl
theorem cells_new_file (w : World) (x y : ByteArray) : ∀ j u, (fcells [(x, y)])[j]? = some u → (w.alloc (.cells #[.string x, .string y] 25)).cell? ((⟨w.heap.size, 0, none⟩ : Addr).add j) = some u := by
  intro j u hj
  rw [Addr.add_lit, Nat.zero_add, cell_new, ← hj]
  simp [fcells]
theorem cells_file_at (w : World) (g : Nat) (x y : ByteArray) (hg : g = w.heap.size) : ∀ j u, (fcells [(x, y)])[j]? = some u → (w.alloc (.cells #[.string x, .string y] 25)).cell? ((⟨g, 0, none⟩ : Addr).add j) = some u := by
  subst hg
  exact cells_new_file w x y
theorem own_files_nil (w : World) (b : Nat) : OwnFiles w b (.slice none 0 0) [] := OwnAt.nil _ _ _ _
theorem own_files_snoc {w : World} {base : Nat} {v : Value} {l : T.Tr} {x y : ByteArray} {n : Nat} (hn : n = l.length) (h : OwnAt w base 25 2 v (n + 1) (fcells l ++ fcells [(x, y)])) : OwnFiles w base v (l ++ [(x, y)]) := by
  subst hn
  unfold OwnFiles
  rw [List.length_append, fcells_append]
  exact h
/-- Strings that a machine can hold. -/
def SzF (l : T.Tr) : Prop := ∀ f ∈ l, f.1.size ≤ 9223372036854775807 ∧ f.2.size ≤ 9223372036854775807
theorem SzF.of_slice {w : World} {B : Nat → Prop} {A : Option Addr} {c : Nat} {t : T.Tr} (h : SliceAt fileR w B A c t) : SzF t := by
  intro f hf
  obtain ⟨k, hk, rfl⟩ := List.getElem_of_mem hf
  obtain ⟨_, _, _, _, _, _, h1, h2⟩ := file_get h hk
  exact ⟨h1, h2⟩
theorem own_files_form {w : World} {base n : Nat} {v : Value} {xs : List Value} (h : OwnAt w base 25 2 v n xs) : ∃ A c, v = .slice A n c ∧ n ≤ c ∧ c ≤ 9223372036854775807 := by
  obtain ⟨_, ⟨rfl, rfl⟩ | ⟨g, off, cap, cur, rfl, _, _, h1, h2, _⟩⟩ := h
  · exact ⟨none, 0, rfl, Nat.le_refl _, by decide⟩
  · exact ⟨_, cap, rfl, h1, h2⟩
theorem own_files_slice {w : World} {base : Nat} {v : Value} {l : T.Tr} (h : OwnFiles w base v l) (hz : SzF l) : ∃ A c, v = .slice A l.length c ∧ SliceAt fileR w (Old w) A c l := by
  rcases Nat.eq_zero_or_pos l.length with h0 | h0
  · have hl : l = [] := List.eq_nil_of_length_eq_zero h0
    subst hl
    obtain ⟨A, c, rfl, h1, h2⟩ := own_files_form h
    exact ⟨A, c, rfl, SliceAt.nil _ _ _ _ _ h2⟩
  · obtain ⟨g, off, cap, rfl, hb, hlt, hnc, hcap, hc⟩ := OwnAt.cells h h0
    refine ⟨_, cap, rfl, hnc, hcap, fun _ => ⟨g, off, rfl, hlt, fun i hi => ⟨[.string l[i].1, .string l[i].2], ⟨[.string l[i].1], [.string l[i].2], rfl, ⟨rfl, (hz _ (List.getElem_mem hi)).1⟩, ⟨rfl, (hz _ (List.getElem_mem hi)).2⟩⟩, fun j u hj => ?_⟩⟩⟩
    have hg := fcells_get l i hi
    match j with
    | 0 => simp at hj; subst hj; exact hc _ _ hg.1
    | 1 => simp at hj; subst hj; exact hc _ _ hg.2
    | j + 2 => simp at hj
theorem own_files_q {w : World} {base : Nat} {v : Value} {l : T.Tr} (h : OwnFiles w base v l) : ∃ q A c, q = l.length ∧ v = .slice A q c ∧ OwnAt w base 25 2 (.slice A q c) q (fcells l) := by
  obtain ⟨A, c, rfl, _, _⟩ := own_files_form h
  exact ⟨l.length, A, c, rfl, rfl, h⟩
theorem own_at_lt {w : World} {base : Nat} {e : TypeId} {size : Nat} {v : Value} {n : Nat} {xs : List Value} (h : OwnAt w base e size v n xs) {g : Nat} (hg : v.ownBlock = some g) : base ≤ g ∧ g < w.heap.size := by
  obtain ⟨_, ⟨rfl, _⟩ | ⟨g', off, cap, cur, rfl, hb, hh', _⟩⟩ := h
  · simp [Value.ownBlock] at hg
  · simp [Value.ownBlock] at hg
    subst hg
    refine ⟨hb, ?_⟩
    rcases Nat.lt_or_ge g' w.heap.size with h | h
    · exact h
    · rw [Array.getElem?_eq_none h] at hh'; cases hh'
/-- A tree and an error come back. -/
def RetTr (w : World) (r : T.Tr × Int) (e : Ending) (w' : World) : Prop := ∃ v, e = .returned (.tuple #[v, .int .i64 r.2]) ∧ OwnFiles w' w.heap.size v r.1 ∧ Ext w w'
/-- A tree comes back. -/
def RetT (w : World) (r : T.Tr) (e : Ending) (w' : World) : Prop := ∃ v, e = .returned v ∧ OwnFiles w' w.heap.size v r ∧ Ext w w'
theorem checkE_ok {t : T.Tr} (h : T.checkE okB t = 0) : T.Ok okB t := (T.ok_iff okB).1 h
end Go.Proofs.YtclhbcicbnoohaaGreatDoor
