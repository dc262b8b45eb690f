/- The texts Kt Xd Ku Kv Xe of the seat, joined. -/
import Derived.Test.YtkeaoejgboefbaaGreatDoorG17
import Derived.Lib.SlicesS
/- An engine alone and the blocks that are its own. -/
namespace Go.Proofs.YtkeaoejgboefbaaGreatDoor
open Go.RowKit Go.Maps

/-- An engine that has come since w0, behind m acts; D: blocks of its own. -/
def EngD (w0 w : World) (D : Nat → Prop) (g : Nat) (cs : List E.Cell) (m : Nat) (e : E.En) : Prop := Gl w0 ∧ Ext w0 w ∧ Fit cs m e ∧ ∃ S bc bi br, EngAt w S g bc bi br e ∧ (D g ∧ D bc ∧ D bi ∧ D br) ∧ (∀ k, S k → D k) ∧ ∀ k, D k → w0.heap.size ≤ k ∧ k < w.heap.size
section
variable {w0 w w' : World} {D : Nat → Prop} {g m : Nat} {cs : List E.Cell} {e : E.En}
theorem EngD.eng1 (h : EngD w0 w D g cs m e) : Eng1 w0 w g cs m e := by
  obtain ⟨hg, hx, hf, S, bc, bi, br, he, ⟨d1, d2, d3, d4⟩, _, hd⟩ := h
  exact ⟨hg, hx, hf, S, bc, bi, br, he, (hd _ d1).1, (hd _ d3).1, (hd _ d4).1⟩
theorem EngD.ahead (h : EngD w0 w D g cs m e) : Ext w0 w := h.2.1
theorem EngD.fit (h : EngD w0 w D g cs m e) : Fit cs m e := h.2.2.1
theorem EngD.dom (h : EngD w0 w D g cs m e) : ∀ k, D k → w0.heap.size ≤ k ∧ k < w.heap.size := by
  obtain ⟨_, _, _, _, _, _, _, _, _, _, hd⟩ := h
  exact hd
theorem EngD.tch (h : EngD w0 w D g cs m e) {X : Nat → Prop} (ht : Tch X w w') (hX : ∀ k, X k → ¬ D k ∧ w0.heap.size ≤ k) : EngD w0 w' D g cs m e := by
  obtain ⟨hg, hx, hf, S, bc, bi, br, he, ⟨d1, d2, d3, d4⟩, hs, hd⟩ := h
  refine ⟨hg, hx.wrote ht fun k hk => (hX k hk).2, hf, S, bc, bi, br, he.tch ht fun k hk => ?_, ⟨d1, d2, d3, d4⟩, hs, fun k hk => ⟨(hd k hk).1, Nat.lt_of_lt_of_le (hd k hk).2 ht.size⟩⟩
  have h1 := (hX k hk).1
  exact ⟨fun e => h1 (e ▸ d1), fun e => h1 (e ▸ d2), fun e => h1 (e ▸ d3), fun e => h1 (e ▸ d4), fun h => h1 (hs k h)⟩
theorem EngD.ext (h : EngD w0 w D g cs m e) (hx : Ext w w') : EngD w0 w' D g cs m e := h.tch (hx.tch fun _ => False) fun _ h => h.elim
theorem EngD.computed (h : EngD w0 w D g cs m e) : Calls Tryz.prog 15 #[.pointer (some ⟨g, 0, none⟩)] w fun ed w' => ed = .returned (.int .i64 e.st.cnt) ∧ w = w' := h.eng1.computed
theorem EngD.inputs (h : EngD w0 w D g cs m e) : Calls Tryz.prog 13 #[.pointer (some ⟨g, 0, none⟩)] w (RetT w (E.inputsE e)) := h.eng1.inputs
theorem EngD.reads (h : EngD w0 w D g cs m e) {n : ByteArray} (hn : n.size ≤ 9223372036854775807) : Calls Tryz.prog 21 #[.pointer (some ⟨g, 0, none⟩), .string n] w (RetReads w (readsE e n)) := h.eng1.reads hn
theorem EngD.get (h : EngD w0 w D g cs m e) (hm : m ≤ 1000000) {n : ByteArray} (hn : n.size ≤ 9223372036854775807) :
    Calls Tryz.prog 16 #[.pointer (some ⟨g, 0, none⟩), .string n] w fun ed w' => ed = .returned (.tuple #[.string ((E.getE e n).1.getD ⟨#[]⟩), .bool (E.getE e n).1.isSome, .int .i64 (E.getE e n).2.1]) ∧ ((E.getE e n).1.getD ⟨#[]⟩).size ≤ 65536 ∧ Tch D w w' ∧ ∃ D', EngD w0 w' D' g cs (m + 1) (E.getE e n).2.2 ∧ ∀ k, D' k → D k ∨ w.heap.size ≤ k := by
  obtain ⟨hg, hx, hf, S, bc, bi, br, he, ⟨d1, d2, d3, d4⟩, hs, hd⟩ := h
  have hfew := hf.few
  refine (Get_any he (hg.ext hx) ⟨hg.off (hd _ d1).1, hg.off (hd _ d4).1⟩ hf.ok hf.formed hf.vals (by have := hf.cnt; omega) (by rw [hf.cells]; omega) (by have := hf.rev; omega) hn).mono ?_
  rintro ed w' ⟨h1, hz, h2, S', br', h3, h4, h5⟩
  have hsz := h2.size
  have hxs := hx.size
  have l1 := (hd _ d1).2
  have l2 := (hd _ d2).2
  have l3 := (hd _ d3).2
  have l4 : br' < w'.heap.size := by obtain ⟨f, hf, _⟩ := h3.results; exact hf.lt
  refine ⟨h1, hz, h2.mono fun k _ hk => ?_, fun k => k < w'.heap.size ∧ (D k ∨ w.heap.size ≤ k), ⟨hg, hx.wrote h2 fun k hk => ?_, hf.get n, S', bc, bi, br', h3, ⟨⟨by omega, .inl d1⟩, ⟨by omega, .inl d2⟩, ⟨by omega, .inl d3⟩, ⟨l4, ?_⟩⟩, fun k hk => ⟨h3.lt k hk, (h4 k hk).imp_left (hs k)⟩, fun k hk => ⟨?_, hk.1⟩⟩, fun k hk => hk.2⟩
  · rcases hk with rfl | rfl <;> assumption
  · rcases hk with rfl | rfl
    · exact (hd _ d1).1
    · exact (hd _ d4).1
  · rcases h5 with rfl | h5
    · exact .inl d4
    · exact .inr h5
  · rcases hk.2 with h | h
    · exact (hd k h).1
    · omega
theorem EngD.set (h : EngD w0 w D g cs m e) (hm : m ≤ 1000000) {n s : ByteArray} (hn : n.size ≤ 9223372036854775807) (hs : s.size ≤ 9223372036854775807) :
    Calls Tryz.prog 24 #[.pointer (some ⟨g, 0, none⟩), .string n, .string s] w fun ed w' => ed = .returned (.int .i64 (E.setE e n s).1) ∧ Tch D w w' ∧ EngD w0 w' D g cs (m + 1) (E.setE e n s).2 := by
  obtain ⟨hg, hx, hf, S, bc, bi, br, he, ⟨d1, d2, d3, d4⟩, hss, hd⟩ := h
  refine (Set_any he hf.eok (by have := hf.rev; omega) hn hs).mono ?_
  rintro ed w' ⟨h1, h2, h3⟩
  refine ⟨h1, h3.mono fun k _ hk => ?_, hg, hx.wrote h3 fun k hk => ?_, hf.set n s, S, bc, bi, br, h2, ⟨d1, d2, d3, d4⟩, hss, fun k hk => ⟨(hd k hk).1, Nat.lt_of_lt_of_le (hd k hk).2 h3.size⟩⟩
  · rcases hk with rfl | rfl <;> assumption
  · rcases hk with rfl | rfl
    · exact (hd _ d1).1
    · exact (hd _ d3).1
theorem EngD.clear (h : EngD w0 w D g cs m e) (hm : m ≤ 1000000) {n : ByteArray} (hn : n.size ≤ 9223372036854775807) :
    Calls Tryz.prog 26 #[.pointer (some ⟨g, 0, none⟩), .string n] w fun ed w' => ed = .returned (.int .i64 (E.clearE e n).1) ∧ Tch D w w' ∧ EngD w0 w' D g cs (m + 1) (E.clearE e n).2 := by
  obtain ⟨hg, hx, hf, S, bc, bi, br, he, ⟨d1, d2, d3, d4⟩, hss, hd⟩ := h
  refine (Clear_any he (by have := hf.rev; omega) hn).mono ?_
  rintro ed w' ⟨h1, h2, h3⟩
  refine ⟨h1, h3.mono fun k _ hk => ?_, hg, hx.wrote h3 fun k hk => ?_, hf.clear n, S, bc, bi, br, h2, ⟨d1, d2, d3, d4⟩, hss, fun k hk => ⟨(hd k hk).1, Nat.lt_of_lt_of_le (hd k hk).2 h3.size⟩⟩
  · rcases hk with rfl | rfl <;> assumption
  · rcases hk with rfl | rfl
    · exact (hd _ d1).1
    · exact (hd _ d3).1
/-- The engine of both. -/
theorem Both1.eng (h : Both1 w0 w D g cs m e) : ∃ ge D', w.cell? ⟨g, 0, none⟩ = some (.pointer (some ⟨ge, 0, none⟩)) ∧ EngD w0 w D' ge cs m e ∧ ¬ D' g ∧ g < w.heap.size := by
  obtain ⟨hg, hx, hf, S, S2, ge, bc, bi, br, p, ft, hb⟩ := h
  obtain ⟨m1, m2, m3, m4, m5, _⟩ := hb.mine
  obtain ⟨a1, a2, a3, a4, a5⟩ := hb.apart g (.inl rfl)
  exact ⟨ge, fun k => D k ∧ k ≠ g, hb.ptr, ⟨hg, hx, hf, S, bc, bi, br, hb.eng, ⟨⟨m1, fun e => a1 e.symm⟩, ⟨m2, fun e => a2 e.symm⟩, ⟨m3, fun e => a3 e.symm⟩, ⟨m4, fun e => a4 e.symm⟩⟩, fun k hk => ⟨hb.sub k hk, fun e => a5 (e ▸ hk)⟩, fun k hk => hb.dom k hk.1⟩, fun h => h.2 rfl, (hb.dom _ m5).2⟩
end
/-- What lies off the blocks of an engine. -/
def OffD (w : World) (D : Nat → Prop) : Nat → Prop := fun k => k < w.heap.size ∧ ¬ D k
theorem off_kept {α : Type} {r : Rep α} {w w' : World} {D D' : Nat → Prop} {A : Option Addr} {c : Nat} {l : List α} (h : SliceAt r w (OffD w D) A c l) (ht : Tch D w w') (hd : ∀ k, D' k → D k ∨ w.heap.size ≤ k) : SliceAt r w' (OffD w' D') A c l :=
  (h.tch ht fun _ hk => hk).keep (fun k hk => ⟨Nat.lt_of_lt_of_le hk.1 ht.size, fun h => by
    rcases hd k h with h | h
    · exact hk.2 h
    · have := hk.1; omega⟩) fun _ _ => rfl
theorem off_ext {α : Type} {r : Rep α} {w w' : World} {D : Nat → Prop} {A : Option Addr} {c : Nat} {l : List α} (h : SliceAt r w (OffD w D) A c l) (hx : Ext w w') : SliceAt r w' (OffD w' D) A c l :=
  h.keep (fun _ hk => ⟨Nat.lt_of_lt_of_le hk.1 hx.size, hk.2⟩) fun k hk => hx.block k hk.1
theorem own_files_off {w : World} {base : Nat} {A : Option Addr} {n c : Nat} {l : T.Tr} {D : Nat → Prop} (h : OwnFiles w base (.slice A n c) l) (hz : SzF l) (hd : ∀ k, D k → ¬ base ≤ k) : SliceAt fileR w (OffD w D) A c l := by
  obtain ⟨A', c', e, hs⟩ := own_files_slice h hz
  cases e
  refine ⟨hs.1, hs.2.1, fun hne => ?_⟩
  obtain ⟨b, off, hA, hb, hr⟩ := hs.2.2 hne
  refine ⟨b, off, hA, ⟨hb, fun hk => hd b hk ?_⟩, hr⟩
  exact own_apart h (by rw [hA]; rfl)
theorem inputs_vals {e e' : E.En} {cs : List E.Cell} (h1 : e'.cells = cs) (h2 : e.cells = cs) (h3 : e'.vals = e.vals) : E.inputsE e' = E.inputsE e := by
  unfold E.inputsE
  rw [h1, h2, h3]
end Go.Proofs.YtkeaoejgboefbaaGreatDoor

/- The walk of EngineScratch. -/
namespace Go.Proofs.YtkeaoejgboefbaaGreatDoor
open Go.RowKit Go.Maps

set_option maxRecDepth 100000 in
set_option maxHeartbeats 8000000 in
theorem engineScratch_walk (v0 v1 : Value) (cs : List E.Cell) (acts : List ActE) (w : World) (hg : Gl w) (r0 : (sliceR cellR).val w cs v0) (r1 : (sliceR actR).val w acts v1) :
    Calls Tryz.prog 5 #[v0, v1] w (Al (.bool true) w) := by
  obtain ⟨A, k, rfl, hA⟩ := val_slice r0
  obtain ⟨B, kb, rfl, hB⟩ := val_slice r1
  obtain ⟨n, hn⟩ : ∃ n, n = cs.length := ⟨_, rfl⟩
  obtain ⟨m, hm⟩ : ∃ m, m = acts.length := ⟨_, rfl⟩
  rw [← hn, ← hm]
  have HAW := Lib.hid (fun W (h : Ext w W) => awake_any W (hg.ext h))
  have HFW := Lib.hid (fun W (h : Ext w W) => refFew_any cs A k n 12 W hn (hA.ext h))
  have HSW := Lib.hid (fun W (h : Ext w W) => refShort_any acts B kb m 30 W hm (hB.ext h))
  have HST := Lib.hid (fun (hf : FewC cs 12) W (h : Ext w W) => Both1.start (hg.ext h) (hA.ext h) hn hf.args (by have := hf.1; omega))
  have HA := Lib.hid hA
  have HB := Lib.hid hB
  have HCP := Lib.hid (fun (hf : FewC cs 12) W (h : Ext w W) => cp_any (hA.ext h) hn hf.args (by have := hf.1; omega))
  have HV1 := Lib.hid (fun (hf : FewC cs 12) (l : T.Tr) (nm : ByteArray) (hml : l.length ≤ 200) (hx : nm.size ≤ 9223372036854775807) W (h : Ext w W) (A' B' : Option Addr) (k' n' kb' m' : Nat) (h1 : SliceAt cellR W (Old W) A' k' cs) (h2 : n' = cs.length) (h3 : SliceAt fileR W (Old W) B' kb' l) (h4 : m' = l.length) => Value_any (nm := nm) (hg.ext h) h1 h2 hf.args h3 h4 (by omega) hx)
  have HV2 := Lib.hid (fun (hf : FewC cs 12) (l : T.Tr) (nm : ByteArray) (hml : l.length ≤ 200) (hx : nm.size ≤ 9223372036854775807) W (h : Ext w W) (B' : Option Addr) (kb' m' : Nat) (h3 : SliceAt fileR W (Old W) B' kb' l) (h4 : m' = l.length) => refValue_any (nm := nm) (hA.ext h) hn hf.args h3 h4 (by omega) hx)
  have HN := Lib.hid hn
  have HM := Lib.hid hm
  have hm63 : m ≤ 9223372036854775807 := by have := hB.1; have := hB.2.1; omega
  clear hA hB hn hm hg r0 r1
  go_enter Tryz.func5, Tryz.ntmps5
  go_wp2_with fail
  refine (HAW.out _ (Ext.refl w)).mono ?_
  rintro e2 w2 ⟨rfl, d2⟩
  have HD2 := Lib.hid d2
  clear d2
  go_wp2_with fail
  refine (HFW.out _ HD2.out).mono ?_
  rintro e3 w3 ⟨d3, b, rfl, hb⟩
  have HD3 := Lib.hid (HD2.out.trans d3)
  clear d3 HD2
  cases b with
  | false =>
    clear hb
    go_wp2_with fail
    refine (HAW.out _ HD3.out).mono ?_
    rintro e4 w4 ⟨rfl, d4⟩
    have HD4 := Lib.hid (HD3.out.trans d4)
    clear d4
    go_wp2_with fail
    go_ret
    exact ⟨rfl, HD4.out⟩
  | true =>
    have HFO := Lib.hid (hb rfl)
    clear hb
    go_wp2_with fail
    refine (HSW.out _ HD3.out).mono ?_
    rintro e4 w4 ⟨d4, b, rfl, hb⟩
    have HD4 := Lib.hid (HD3.out.trans d4)
    clear d4 HD3
    cases b with
    | false =>
      clear hb
      go_wp2_with fail
      refine (HAW.out _ HD4.out).mono ?_
      rintro e5 w5 ⟨rfl, d5⟩
      have HD5 := Lib.hid (HD4.out.trans d5)
      clear d5
      go_wp2_with fail
      go_ret
      exact ⟨rfl, HD5.out⟩
    | true =>
      have HSO := Lib.hid (hb rfl)
      clear hb
      go_wp2_with fail
      refine (HST.out HFO.out _ HD4.out).mono ?_
      rintro e5 w5 ⟨d5, hr⟩
      have HD5 := Lib.hid (HD4.out.trans d5)
      clear d5
      rcases hr with ⟨_, rfl⟩ | ⟨_, g, D, rfl, hb⟩
      · go_wp2_with fail
        go_ret
        exact ⟨rfl, HD5.out⟩
      · have HBO := Lib.hid hb
        have hn12 : n ≤ 12 := by have := HFO.out.1; have := HN.out; omega
        have hm30 : m ≤ 30 := by have := HSO.out.1; have := HM.out; omega
        clear hb
        go_wp2_with fail
        go_loopw [8, 48] (fun _ i wr => ∃ (t : Nat) (e : E.En) (D' : Nat → Prop), i = .int .i64 t ∧ t ≤ m ∧ Hid (Both1 w4 wr D' g cs t e)) (fun _ i _ => m - (intOf i).toNat)
        case atStart => exact ⟨0, _, _, rfl, Nat.zero_le _, HBO⟩
        case round =>
          obtain ⟨t, e, D', rfl, ht, HB2⟩ := hrel
          by_cases htm : t < m
          · have htl : t < acts.length := by have := HM.out; omega
            obtain ⟨b, off, hBe, hbb, d0, d1, d2, z1, z2, z3⟩ := act_get (HB.out.ext (HD4.out.trans HB2.out.ahead)) htl
            subst hBe
            have HACT := Lib.hid (fun W (hx : Ext wr W) => (HB2.out.ext hx).act (by omega) z1 z2 z3)
            generalize acts[t] = ac at *
            obtain ⟨kk, cc, vv⟩ := ac
            simp only at d0 d1 d2 z1 z2 z3 HACT
            obtain ⟨W2, hW2⟩ : ∃ W2, W2 = wr.alloc (.cells #[.int .u8 kk, .int .u8 cc, .string vv] 31) := ⟨_, rfl⟩
            have X2 : Ext wr W2 := by rw [hW2]; exact (Ext.refl wr).alloc _
            have p0 : W2.cell? ⟨wr.heap.size, 0, none⟩ = some (.int .u8 kk) := by rw [hW2]; exact cell_new wr #[.int .u8 kk, .int .u8 cc, .string vv] 31 0
            have p1 : W2.cell? ⟨wr.heap.size, 1, none⟩ = some (.int .u8 cc) := by rw [hW2]; exact cell_new wr #[.int .u8 kk, .int .u8 cc, .string vv] 31 1
            have p2 : W2.cell? ⟨wr.heap.size, 2, none⟩ = some (.string vv) := by rw [hW2]; exact cell_new wr #[.int .u8 kk, .int .u8 cc, .string vv] 31 2
            have HAC := Lib.hid (HACT.out W2 X2)
            generalize hea : actE e (kk, cc, vv) = e' at *
            go_upto_region 9 with (fail)
            rw [← hW2]
            clear hW2 d0 d1 d2 z1 z2 z3 X2 HACT hea
            go_wp2_with fail
            refine HAC.out.mono ?_
            rintro ed w7 ⟨rfl, _, D2, hb7, _⟩
            have HB7 := Lib.hid hb7
            clear hb7 p0 p1 p2 HAC
            go_wp2_with fail
            go_roundw
            case rel => exact ⟨t + 1, e', D2, by go_num, by omega, HB7⟩
            case measure => simp [intOf]; omega
          · obtain ⟨ge, D2, q0, he1, hng, hgl⟩ := HB2.out.eng
            have HB2c := Lib.hid HB2.out.fit.cells
            have HE := Lib.hid he1
            have HNG := Lib.hid hng
            have HSZ := Lib.hid (sz_inputs HB2.out.fit)
            have HLE : Hid ((E.inputsE e).length ≤ 200) := Lib.hid (by have h1 := inputs_length e; have h2 := HB2.out.fit.few; rw [HB2.out.fit.cells] at h1; omega)
            have HI1 := Lib.hid he1.inputs
            obtain ⟨L, hL⟩ : ∃ L, L = E.inputsE e := ⟨_, rfl⟩
            rw [← hL] at HI1 HSZ HLE
            have HL := Lib.hid hL
            obtain ⟨q, hq⟩ : ∃ q, q = L.length := ⟨_, rfl⟩
            have HQ := Lib.hid hq
            have hq200 : q ≤ 200 := by rw [hq]; exact HLE.out
            clear he1 hng hL hq hgl
            go_wp2_with fail
            refine HI1.out.mono ?_
            rintro ed w5 ⟨v5, rfl, o5, x5⟩
            have hlo : ∀ A' k', v5 = .slice A' L.length k' → SliceAt fileR w5 (OffD w5 D2) A' k' L := fun A' k' hv => own_files_off (hv ▸ o5) HSZ.out fun k hk => by have := (HE.out.dom k hk).2; omega
            obtain ⟨A5, k5, rfl, _⟩ := own_files_slice o5 HSZ.out
            have HS5 := Lib.hid (hlo _ _ rfl)
            have HE5 := Lib.hid (HE.out.ext x5)
            replace q0 := x5.keepc q0
            rw [← HQ.out]
            clear hlo o5 x5 HI1 HE HB2
            go_wp2_with fail
            go_loopw [11, 12, 13, 14, 15, 16, 17, 18, 19, 20, 64] (fun _ _ _ _ _ _ _ _ _ _ i wr => ∃ (j t' : Nat) (e' : E.En) (D' : Nat → Prop), i = .int .i64 j ∧ j ≤ n ∧ t' ≤ 30 + j ∧ wr.cell? ⟨g, 0, none⟩ = some (.pointer (some ⟨ge, 0, none⟩)) ∧ Hid (e'.vals = e.vals) ∧ Hid (EngD w4 wr D' ge cs t' e') ∧ Hid (¬ D' g) ∧ Hid (SliceAt fileR wr (OffD wr D') A5 k5 L)) (fun _ _ _ _ _ _ _ _ _ _ i _ => n - (intOf i).toNat)
            case atStart => exact ⟨0, t, e, D2, rfl, Nat.zero_le _, by omega, q0, rfl, HE5, HNG, HS5⟩
            case round =>
              clear q0 HE5 HNG HS5
              obtain ⟨j, t', e', D', rfl, hj, ht', q0, HV, HE, HNG, HS⟩ := hrel
              by_cases hlt : j < n
              · have hjl : j < cs.length := by have := HN.out; omega
                obtain ⟨b, off, A2, k2, hAe, hbb, d0, d1, d2, d3, z1, z2, z3, z4⟩ := cell_get (HA.out.ext (HD4.out.trans HE.out.ahead)) hjl
                generalize cs[j] = cj at *
                obtain ⟨nm, op, ar, tx⟩ := cj
                simp only at d0 d1 d2 d3 z1 z2 z3 z4
                obtain ⟨W2, hW2⟩ : ∃ W2, W2 = wr.alloc (.cells #[.string nm, .int .i64 op, .slice A2 ar.length k2, .string tx] 50) := ⟨_, rfl⟩
                have X2 : Ext wr W2 := by rw [hW2]; exact (Ext.refl wr).alloc _
                have p0 : W2.cell? ⟨wr.heap.size, 0, none⟩ = some (.string nm) := by rw [hW2]; exact cell_new wr #[.string nm, .int .i64 op, .slice A2 ar.length k2, .string tx] 50 0
                have q1 := X2.keepc q0
                have hHO : Hid (¬ D' wr.heap.size) := Lib.hid fun h => Nat.lt_irrefl _ (HE.out.dom _ h).2
                have HGET := Lib.hid (fun W (hx : Ext W2 W) => (HE.out.ext (X2.trans hx)).get (by omega) z1)
                have HSC : Hid (E.valueE cs L nm = ((E.getE e' nm).1, (E.getE e' nm).2.1)) := Lib.hid (by have hf := HE.out.fit; rw [HL.out, ← inputs_vals hf.cells HB2c.out HV.out, ← hf.cells]; exact E.scratch_get hf.ok hf.eok.vals (by rw [hf.cells]; exact hf.right) nm)
                have hvl := (get_cells e' nm).2.1
                have HVL := Lib.hid hvl
                have HS2 := Lib.hid (off_ext HS.out X2)
                generalize E.getE e' nm = r at *
                obtain ⟨rv, re, rn⟩ := r
                simp only at HGET HSC HVL
                obtain ⟨Φ, hΦ⟩ : ∃ Φ : World → Prop, ∀ w', Φ w' ↔ (w'.cell? ⟨g, 0, none⟩ = some (.pointer (some ⟨ge, 0, none⟩)) ∧ w'.cell? ⟨wr.heap.size, 0, none⟩ = some (.string nm)) := ⟨_, fun _ => Iff.rfl⟩
                have h0 : Φ W2.drew := (hΦ _).2 ⟨q1, p0⟩
                have fx0 : ∀ x : Lat Φ, x.w'.cell? ⟨g, 0, none⟩ = some (.pointer (some ⟨ge, 0, none⟩)) := fun x => ((hΦ _).1 x.h).1
                have fx1 : ∀ x : Lat Φ, x.w'.cell? ⟨wr.heap.size, 0, none⟩ = some (.string nm) := fun x => ((hΦ _).1 x.h).2
                have hne1 := Lat.some h0
                have HΦ := Lib.hid hΦ
                subst hAe
                clear hΦ X2 hvl
                go_upto_region 16 with (fail)
                rw [← hW2]
                clear hW2 d0 d1 d2 d3 z2 z3 z4
                refine wp_region_lat [6] Φ h0 (by kernel_rfl) (by kernel_rfl) (by kernel_rfl) ?_
                iterate 6 (refine lex_pure rfl rfl rfl ?_; intro K hK; go_big_quiet_op; go_big_quiet_on)
                refine lex_eff rfl ?_
                go_wp2_with fail
                refine (HGET.out _ (Ext.refl W2).drew).mono ?_
                rintro ed w7 ⟨rfl, hrz, t7, D7, he7, hd7⟩
                have HD7 : Hid (∀ k, D7 k → D' k ∨ W2.heap.size ≤ k) := Lib.hid hd7
                have HGL : Hid (g < W2.heap.size) := Lib.hid (World.block_lt_of_cell? _ _ q1)
                have HNG7 : Hid (¬ D7 g) := Lib.hid fun h => by
                  rcases HD7.out g h with h | h
                  · exact HNG.out h
                  · have := HGL.out; omega
                have q7 := t7.keepc ((Ext.refl W2).drew.keepc q1) HNG.out
                have p7 := t7.keepc ((Ext.refl W2).drew.keepc p0) hHO.out
                have HS7 := Lib.hid (off_kept (off_ext HS2.out (Ext.refl W2).drew) t7 hd7)
                have HP7 := Lib.hid ((HΦ.out w7).2 ⟨q7, p7⟩)
                have HE7 := Lib.hid he7
                have hvl7 : Hid (rn.vals = e.vals) := Lib.hid (HVL.out.trans HV.out)
                clear hd7 he7 t7 HGET HE HS HS2 HNG q0 q1 p0 hHO HD7 HGL HVL HV hrz
                go_wp2_with fail
                refine ⟨⟨⟨w7, HP7.out⟩, rfl⟩, ?_⟩
                iterate 7 (refine lex_pure rfl rfl rfl ?_; intro K hK; go_big_quiet_op; go_big_quiet_on)
                refine lex_nil ?_
                clear fx0 fx1 hne1 h0 HΦ Φ HP7
                have HXW := Lib.hid (HD4.out.trans HE7.out.ahead)
                obtain ⟨Φ, hΦ⟩ : ∃ Φ : World → Prop, ∀ w', Φ w' ↔ w'.cell? ⟨wr.heap.size, 0, none⟩ = some (.string nm) := ⟨_, fun _ => Iff.rfl⟩
                have h0 : Φ w7.drew := (hΦ _).2 p7
                have fx1 : ∀ x : Lat Φ, x.w'.cell? ⟨wr.heap.size, 0, none⟩ = some (.string nm) := fun x => (hΦ _).1 x.h
                have hne1 := Lat.some h0
                have HΦ := Lib.hid hΦ
                generalize hva : rv.getD ⟨#[]⟩ = va at *
                generalize hvb : rv.isSome = vb at *
                have hs1 : (va.toList == va.toList) = true := by simp
                have hs2 : (vb == vb) = true := by simp
                have hs3 : (re == re) = true := by simp
                clear hΦ
                go_wp2_with fail
                refine wp_region_lat [1, 3, 6] Φ h0 (by kernel_rfl) (by kernel_rfl) (by kernel_rfl) ?_
                iterate 1 (refine lex_pure rfl rfl rfl ?_; intro K hK; go_big_quiet_op; go_big_quiet_on)
                refine lex_eff rfl ?_
                go_wp2_with fail
                refine (HCP.out HFO.out _ (HXW.out.drew)).mono ?_
                rintro ed w8 ⟨A8, k8, n8, hn8, rfl, hs8, x8⟩
                have HX8 := Lib.hid ((Ext.refl w7).drew.trans x8)
                have HS8 := Lib.hid hs8
                have HN8 := Lib.hid hn8
                clear x8 hs8 hn8
                go_wp2_with fail
                refine ⟨⟨⟨w8, (HΦ.out _).2 (HX8.out.keepc p7)⟩, rfl⟩, ?_⟩
                iterate 1 (refine lex_pure rfl rfl rfl ?_; intro K hK; go_big_quiet_op; go_big_quiet_on)
                refine lex_eff rfl ?_
                go_wp2_with fail
                refine (CloneF_any L A5 k5 q w8 HQ.out ((off_ext HS7.out HX8.out).keep (fun _ hk => hk.1) fun _ _ => rfl) (by omega)).mono ?_
                rintro ed w9 ⟨v9, rfl, o9, x9⟩
                obtain ⟨A9, k9, rfl, hs9⟩ := own_files_slice o9 HSZ.out
                have HX9 := Lib.hid (HX8.out.trans x9)
                have HVC := Lib.hid (HV1.out HFO.out L nm HLE.out z1 w9 (HXW.out.trans HX9.out) A8 A9 k8 n8 k9 _ (HS8.out.ext x9) HN8.out hs9 rfl)
                rw [← HQ.out] at HVC ⊢
                clear o9 x9 hs9 HS8
                go_wp2_with fail
                refine ⟨⟨⟨w9, (HΦ.out _).2 (HX9.out.keepc p7)⟩, rfl⟩, ?_⟩
                iterate 2 (refine lex_pure rfl rfl rfl ?_; intro K hK; go_big_quiet_op; go_big_quiet_on)
                refine lex_eff rfl ?_
                go_wp2_with fail
                refine HVC.out.mono ?_
                rintro ed w10 ⟨rfl, _, x10⟩
                have HX10 := Lib.hid (HX9.out.trans x10)
                clear x10 HVC
                rw [HSC.out]
                simp only
                rw [hva, hvb]
                go_wp2_with fail
                refine ⟨⟨⟨w10, (HΦ.out _).2 (HX10.out.keepc p7)⟩, rfl⟩, ?_⟩
                iterate 7 (refine lex_pure rfl rfl rfl ?_; intro K hK; go_big_quiet_op; go_big_quiet_on)
                refine lex_nil ?_
                clear fx1 hne1 h0 HΦ Φ
                have p10 := HX10.out.keepc p7
                have q10 := HX10.out.keepc q7
                have HVR := Lib.hid (HV2.out HFO.out L nm HLE.out z1 w10 (HXW.out.trans HX10.out) A5 k5 q ((off_ext HS7.out HX10.out).keep (fun _ hk => hk.1) fun _ _ => rfl) HQ.out)
                clear p7 q7
                go_wp2_with fail
                refine HVR.out.mono ?_
                rintro ed w11 ⟨rfl, _, x11⟩
                have HX11 := Lib.hid (HX10.out.trans x11)
                replace q10 := x11.keepc q10
                clear x11 HVR p10
                rw [HSC.out]
                simp only
                rw [hva, hvb]
                clear hva hvb
                have HE11 := Lib.hid (HE7.out.ext HX11.out)
                have HS11 := Lib.hid (off_ext HS7.out HX11.out)
                go_wp2_with fail
                go_roundw
                case rel => exact ⟨j + 1, t' + 1, rn, D7, by go_num, by omega, by omega, q10, hvl7, HE11, HNG7, HS11⟩
                case measure => simp [intOf]; omega
              · go_wp2_with fail
                go_ret
                exact ⟨rfl, HD4.out.trans HE.out.ahead⟩
end Go.Proofs.YtkeaoejgboefbaaGreatDoor

/- EngineQuiet: no program in sight. -/
namespace Go.Proofs.YtkeaoejgboefbaaGreatDoor

theorem findC_at {cs : List E.Cell} (h : Once cs) {i : Nat} (hi : i < cs.length) : E.findC cs cs[i].1 = some cs[i] := by
  cases hf : E.findC cs cs[i].1 with
  | none =>
    unfold E.findC at hf
    have := List.find?_eq_none.1 hf cs[i] (List.getElem_mem hi)
    simp at this
  | some c =>
    obtain ⟨h1, h2⟩ := E.findC_some hf
    obtain ⟨j, hj, rfl⟩ := List.getElem_of_mem h1
    have : j = i := h j i hj hi (by rw [nmAt_get hj, nmAt_get hi]; exact h2)
    subst this
    rfl
/-- The first k cells' formulas are up to date, and what they read is in R. -/
def Upto (cs : List E.Cell) (k : Nat) (e : E.En) (R : List ByteArray) : Prop := ∃ U, E.InvE e U ∧ (∀ i (h : i < cs.length), i < k → E.isIn cs[i] = false → cs[i].1 ∈ U) ∧ ∀ i (h : i < cs.length), i < k → ∀ x ∈ readsL e cs[i].1, x ∈ R
theorem upto_zero {cs : List E.Cell} {e : E.En} (h : E.OkE e) : Upto cs 0 e [] := by
  obtain ⟨U, hU⟩ := h
  exact ⟨U, hU, fun i _ h => absurd h (Nat.not_lt_zero _), fun i _ h => absurd h (Nat.not_lt_zero _)⟩
theorem upto_succ {cs : List E.Cell} {k : Nat} {e : E.En} {R : List ByteArray} (h : Upto cs k e R) (hc : e.cells = cs) (ho : Once cs) (hk : k < cs.length) (h0 : (E.getE e cs[k].1).2.1 = 0) :
    Upto cs (k + 1) (E.getE e cs[k].1).2.2 (R ++ readsL (E.getE e cs[k].1).2.2 cs[k].1) := by
  obtain ⟨U, hI, h1, h2⟩ := h
  rcases E.get_spec hI cs[k].1 with ⟨x, hx, hg, _⟩ | ⟨v, S, W, hg, _, hI2, hK, _, _, _, hG, _⟩
  · rw [hg] at h0
    exact absurd h0 hx
  · rw [hg]
    simp only
    refine ⟨U ++ W, hI2, fun i hi hik hf => ?_, fun i hi hik x hx => ?_⟩
    · by_cases e1 : i = k
      · subst e1
        unfold E.Good at hG
        simp only at hG
        rw [hc, findC_at ho hi] at hG
        simp only [hf] at hG
        exact (by simpa using hG : _ ∧ _).1
      · exact List.mem_append_left _ (h1 i hi (by omega) hf)
    · by_cases e1 : i = k
      · subst e1
        exact List.mem_append_right _ hx
      · refine List.mem_append_left _ (h2 i hi (by omega) x ?_)
        cases hf : E.isIn cs[i] with
        | false =>
          have := hK _ (h1 i hi (by omega) hf)
          unfold readsL at hx ⊢
          rw [← this]
          exact hx
        | true =>
          unfold readsL at hx
          simp only at hx
          cases hm : S.ms cs[i].1 with
          | none => rw [hm] at hx; cases hx
          | some m =>
            obtain ⟨c, hc1, hc2, _⟩ := hI2.form _ m hm
            simp only at hc1
            rw [hc, findC_at ho hi] at hc1
            cases hc1
            rw [hf] at hc2
            cases hc2
/-- Behind all cells. -/
theorem upto_full {cs : List E.Cell} {k : Nat} {e : E.En} {R : List ByteArray} (h : Upto cs k e R) (hc : e.cells = cs) (hk : k = cs.length) : (∃ U, E.Full e U) ∧ ∀ n m, e.st.ms n = some m → ∀ r ∈ m.reads, r.1 ∈ R := by
  obtain ⟨U, hI, h1, h2⟩ := h
  refine ⟨⟨U, hI, fun n c hn hi => ?_⟩, fun n m hm r hr => ?_⟩
  · obtain ⟨m1, m2⟩ := E.findC_some hn
    rw [hc] at m1
    obtain ⟨i, hi', rfl⟩ := List.getElem_of_mem m1
    rw [← m2]
    exact h1 i hi' (by omega) hi
  · obtain ⟨c, hn, _⟩ := hI.form n m hm
    obtain ⟨m1, m2⟩ := E.findC_some hn
    rw [hc] at m1
    obtain ⟨i, hi', rfl⟩ := List.getElem_of_mem m1
    refine h2 i hi' (by omega) r.1 ?_
    unfold readsL
    rw [m2, hm]
    exact List.mem_map.2 ⟨r, hr, rfl⟩
/-- Only values of inputs that nobody has read are others. -/
structure KeptQ (e4 : E.En) (R : List ByteArray) (e : E.En) : Prop where
  cells : e.cells = e4.cells
  st : e.st = e4.st
  vals : ∀ x ∈ R, e.vals x = e4.vals x
theorem KeptQ.refl (e : E.En) (R : List ByteArray) : KeptQ e R e := ⟨rfl, rfl, fun _ _ => rfl⟩
theorem change_stQ (e : E.En) (n : ByteArray) (v : E.V) : (E.change e n v).st = e.st := by
  unfold E.change
  split <;> rfl
theorem change_valsQ (e : E.En) (n : ByteArray) (v : E.V) (x : ByteArray) : (E.change e n v).vals x = if x = n then v else e.vals x := by
  unfold E.change
  by_cases h : e.vals n = v
  · rw [if_pos h]
    by_cases hx : x = n
    · rw [if_pos hx, hx]; exact h
    · rw [if_neg hx]
  · rw [if_neg h]
    rfl
theorem change_cells' (e : E.En) (n : ByteArray) (v : E.V) : (E.change e n v).cells = e.cells := by
  unfold E.change
  split <;> rfl
theorem set_is {e : E.En} {n s : ByteArray} (h : E.inputB e n = true) (hs : s.size ≤ 65536) : E.setE e n s = (0, E.change e n (some s)) := by
  unfold E.setE
  rw [if_neg (by rw [h]; simp), if_neg (by omega)]
theorem clear_is {e : E.En} {n : ByteArray} (h : E.inputB e n = true) : E.clearE e n = (0, E.change e n none) := by
  unfold E.clearE
  rw [if_neg (by rw [h]; simp)]
theorem input_change {e : E.En} {n m : ByteArray} {v : E.V} (h : E.inputB e m = true) : E.inputB (E.change e n v) m = true := by
  unfold E.inputB at h ⊢
  rw [change_cells']
  exact h
theorem KeptQ.off {e4 e : E.En} {R : List ByteArray} (h : KeptQ e4 R e) {n : ByteArray} (hn : n ∉ R) (v : E.V) : KeptQ e4 R (E.change e n v) := by
  refine ⟨(change_cells' _ _ _).trans h.cells, (change_stQ _ _ _).trans h.st, fun x hx => ?_⟩
  rw [change_valsQ, if_neg fun e1 => hn (by rw [← e1]; exact hx)]
  exact h.vals x hx
theorem KeptQ.back {e4 e : E.En} {R : List ByteArray} (h : KeptQ e4 R e) {n : ByteArray} (v v2 : E.V) (hv : v2 = e4.vals n) : KeptQ e4 R (E.change (E.change e n v) n v2) := by
  refine ⟨(change_cells' _ _ _).trans ((change_cells' _ _ _).trans h.cells), (change_stQ _ _ _).trans ((change_stQ _ _ _).trans h.st), fun x hx => ?_⟩
  rw [change_valsQ, change_valsQ]
  by_cases e1 : x = n
  · rw [if_pos e1, hv, e1]
  · rw [if_neg e1, if_neg e1]
    exact h.vals x hx
theorem KeptQ.same {e4 e : E.En} {R : List ByteArray} (h : KeptQ e4 R e) (hR : ∀ n m, e4.st.ms n = some m → ∀ r ∈ m.reads, r.1 ∈ R) : E.Same e4 e :=
  ⟨h.cells, by rw [h.st]; exact E.Like.refl _, fun n m hm r hr _ _ _ => h.vals _ (hR n m hm r hr)⟩
theorem same_get {e0 e : E.En} {U : List E.Nm} (h : E.Full e0 U) (hs : E.Same e0 e) {n : ByteArray} (hn : E.findC e.cells n ≠ none) : (E.getE e n).2.1 = 0 ∧ E.Same e0 (E.getE e n).2.2 := by
  obtain ⟨v, S, h1, h2⟩ := E.get_quiet h hs hn
  rw [h1]
  exact ⟨rfl, h2⟩
/-- Where a name is found among the inputs, there its value is. -/
theorem found_is {e : E.En} {L : T.Tr} {nm : ByteArray} (h : ∀ f : T.File, f ∈ L ↔ e.vals f.1 = some f.2) : (∀ i, L.findIdx? (fun f => f.1.toList == nm.toList) = some i → ∃ hi : i < L.length, e.vals nm = some L[i].2) ∧ (L.findIdx? (fun f => f.1.toList == nm.toList) = none → e.vals nm = none) := by
  refine ⟨fun i hi => ?_, fun hn => ?_⟩
  · obtain ⟨h1, h2, _⟩ := List.findIdx?_eq_some_iff_getElem.1 hi
    refine ⟨h1, ?_⟩
    have h3 : L[i].1 = nm := by
      have h4 : L[i].1.toList = nm.toList := by simpa using h2
      rw [ByteArray.toList_eq, ByteArray.toList_eq] at h4
      exact bytes_inj h4
    rw [← h3]
    exact (h _).1 (List.getElem_mem h1)
  · cases hv : e.vals nm with
    | none => rfl
    | some s =>
      have h1 := (h (nm, s)).2 hv
      have h2 := List.findIdx?_eq_none_iff.1 hn _ h1
      simp at h2
end Go.Proofs.YtkeaoejgboefbaaGreatDoor

/- Pieces of EngineQuiet: strings that are joined on, strings that are sought, the closure. -/
namespace Go.Proofs.YtkeaoejgboefbaaGreatDoor
open Go.RowKit Go.Maps

theorem Contains_any {w : World} {B : Nat → Prop} {A : Option Addr} {k n : Nat} {l : List ByteArray} (h : SliceAt strR w B A k l) (hn : n = l.length) (x : ByteArray) :
    Calls Tryz.prog 25 #[.slice A n k, .string x] w fun e w' => (∃ b, e = .returned (.bool b) ∧ (b = true ↔ x ∈ l)) ∧ w' = w := by
  by_cases hl : l = []
  · subst hl
    obtain rfl : n = 0 := hn
    refine (Tryz.slices_Contains_string_empty A k x w).mono ?_
    rintro e w' ⟨rfl, rfl⟩
    exact ⟨⟨false, rfl, by simp⟩, rfl⟩
  · obtain ⟨b, off, rfl, _, _⟩ := h.2.2 hl
    have h63 : n ≤ 9223372036854775807 := by have := h.1; have := h.2.1; omega
    have h1 := Tryz.slices_Contains_string b off n k l x w (by omega) h63 fun j hj => by
      obtain ⟨b2, off2, e, _, hc, _⟩ := str_get h hj
      cases e
      rw [hc, List.getD_eq_getElem?_getD, List.getElem?_eq_getElem hj]
      rfl
    refine h1.mono ?_
    rintro e w' ⟨rfl, rfl⟩
    exact ⟨⟨_, rfl, by rw [hn, List.take_length]; exact Lib.containsS_iff l x⟩, rfl⟩
theorem strs_cells {w : World} {B : Nat → Prop} {A : Option Addr} {c : Nat} {y : List ByteArray} (hy : SliceAt strR w B A c y) (hn : y ≠ []) : ∃ b off, A = some ⟨b, off, none⟩ ∧ ∀ j u, (y.map Value.string)[j]? = some u → w.cell? ((⟨b, off, none⟩ : Addr).add j) = some u := by
  obtain ⟨b, off, hA, _, _⟩ := hy.2.2 hn
  refine ⟨b, off, hA, fun j u hj => ?_⟩
  have hjl : j < y.length := by
    rcases Nat.lt_or_ge j y.length with h | h
    · exact h
    · rw [List.getElem?_eq_none (by simpa using h)] at hj; cases hj
  obtain ⟨b2, off2, e, _, hc, _⟩ := str_get hy hjl
  rw [hA] at e
  cases e
  rw [Addr.add_lit, hc, ← hj, List.getElem?_map, List.getElem?_eq_getElem hjl]
  rfl
/-- append(v, y...) of strings, none too; of the rows that were, only v's has changed. -/
theorem wpList_append_strs {ops : Array Oper} {rest : List Oper} {o : Oper} {a : Act} {w : World} {Q : Exit → Act → World → Prop} (hw : Region.wanted o (yielded ops a.tmps) = true) (s x : Operand)
    (ho : o.op = .call { callee := .builtin .append, args := #[s, x], argTypes := #[48, 48] })
    (base : Nat) (v : Value) (l y : List ByteArray) (hs : a.eval s = v) (hown : OwnAt w base 9 1 v l.length (l.map Value.string)) (A : Option Addr) (m c : Nat) (hx : a.eval x = .slice A m c) (hm1 : m = y.length) (B : Nat → Prop) (hy : SliceAt strR w B A c y)
    (h63 : l.length + y.length ≤ 100000) (hbase : base ≤ w.heap.size)
    (h : ∀ v' w', OwnAt w' base 9 1 v' (l ++ y).length ((l ++ y).map Value.string) → w.grownBy w' v.ownBlock → (v'.ownBlock = v.ownBlock ∨ ∃ g, v'.ownBlock = some g ∧ w.heap.size ≤ g ∧ g < w'.heap.size) → wpList Tryz.prog ops Q rest (a.put o.dst v') w') : wpList Tryz.prog ops Q (o :: rest) a w := by
  obtain ⟨i0, hi, hz0, hz1, hz2⟩ := info_parts str_info
  refine wpList_wanted hw ?_
  by_cases hm : y = []
  · subst hm
    have hm0 : m = 0 := hm1
    subst hm0
    have hsrc : Src Tryz.prog i0.size 48 (.slice A 0 c) 0 [] w := by
      cases A with
      | none => exact Src.ofNil w Tryz.underlying48 c
      | some ad => exact Src.ofSlice w Tryz.underlying48 ad 0 c [] (by simp) (fun j u hj => by simp at hj) (fun u hu => by simp at hu)
    have hrun : ∃ (b : Option Addr) (n cp : Nat), v = .slice b n cp ∧ n ≤ cp := by
      obtain ⟨h1, ⟨rfl, h2⟩ | ⟨g, off, cap, cur, rfl, _, _, hc, _⟩⟩ := hown
      · exact ⟨_, _, _, rfl, Nat.le_refl _⟩
      · exact ⟨_, _, _, rfl, hc⟩
    obtain ⟨b, n, cp, rfl, hle⟩ := hrun
    have hr := run_append_nothing (P := Tryz.prog) w 48 48 o.type 9 i0 Tryz.underlying48 hi b n cp hle _ hsrc
    unfold Oper.wp execOp
    simp only [ho, resolve, invoke, builtin, Sem.run_bind, Sem.run_pure, Result.andThen_ok, List.map_toArray, List.map_cons, List.map_nil, hs, hx, hr]
    exact h _ _ (by rw [List.append_nil]; exact hown) (World.grownBy.refl _ _) (.inl rfl)
  · have hpos : 0 < y.length := List.length_pos_iff.2 hm
    obtain ⟨b, off, rfl, hcc⟩ := strs_cells hy hm
    subst hm1
    refine wp_append_ownAt w s x 48 ho base 9 i0 (.string ⟨#[]⟩) 1 16 Tryz.underlying48 hi hz0 hz1 hz2 rfl (by decide) v l.length (l.map Value.string) hs hown ⟨b, off, none⟩ y.length c (y.map Value.string) hx (by simp) hcc (fun u hu => by obtain ⟨t, _, rfl⟩ := List.mem_map.1 hu; rfl) (by unfold maxLen; omega) (by omega) hbase hpos ?_
    intro v' w' h2 h3 _ h5
    refine h v' w' ?_ h3 h5
    rw [List.map_append, List.length_append]
    exact h2
theorem readsL_le {w0 w : World} {D : Nat → Prop} {g m : Nat} {cs : List E.Cell} {e : E.En} (h : EngD w0 w D g cs m e) {n : ByteArray} (hn : n.size ≤ 9223372036854775807) : (readsL e n).length ≤ 100 := by
  obtain ⟨_, _, _, S, bc, bi, br, he, _⟩ := h
  obtain ⟨f, hf, hc⟩ := he.results
  obtain ⟨_, _, _, _, _, rs, _, _, h1, h2⟩ := memo_look hf hc hn
  rw [← h2, List.length_map]
  exact h1
set_option maxRecDepth 100000 in
theorem quiet1_any {W : World} {bp : Nat} {nm x y : ByteArray} (hc : W.cell? ⟨bp, 0, none⟩ = some (.string nm)) : Calls Tryz.prog 23 #[.agg #[.string x, .string y], .pointer (some ⟨bp, 0, none⟩)] W (Al (.bool (x.toList == nm.toList)) W) := by
  obtain ⟨W2, hW2⟩ : ∃ W2, W2 = W.alloc (.cells #[.string x, .string y] 57) := ⟨_, rfl⟩
  have X2 : Ext W W2 := by rw [hW2]; exact (Ext.refl W).alloc _
  have p0 : W2.cell? ⟨W.heap.size, 0, none⟩ = some (.string x) := by rw [hW2]; exact cell_new W #[.string x, .string y] 57 0
  have p1 := X2.keepc hc
  have HX2 := Lib.hid X2
  clear X2
  go_enter Tryz.func23, Tryz.ntmps23
  go_upto_region 1 with (fail)
  rw [← hW2]
  clear hW2 hc
  go_wp2_with fail
  go_ret
  exact ⟨rfl, HX2.out⟩
end Go.Proofs.YtkeaoejgboefbaaGreatDoor

/- The walk of EngineQuiet. -/
namespace Go.Proofs.YtkeaoejgboefbaaGreatDoor
open Go.RowKit Go.Maps

theorem eg23 : ∀ (args : Array Value) (w : World), (callFunc 23 args).run Tryz.prog w = .ok (.enter 23 args) w := enters_of Tryz.func23 (by kernel_rfl) rfl
theorem grown_tch {w w' : World} {row : Option Nat} (h : w.grownBy w' row) : Tch (fun k => row = some k) w w' := (Tch.refl _ w).grown h fun _ hi _ => hi

attribute [local irreducible] wpLex
set_option maxRecDepth 100000 in
set_option maxHeartbeats 8000000 in
theorem engineQuiet_walk (v0 v1 v2 : Value) (cs : List E.Cell) (acts : List ActE) (x : ByteArray) (w : World) (hg : Gl w) (r0 : (sliceR cellR).val w cs v0) (r1 : (sliceR actR).val w acts v1) (r2 : strR.val w x v2) :
    Calls Tryz.prog 6 #[v0, v1, v2] w (Al (.bool true) w) := by
  obtain ⟨A, k, rfl, hA⟩ := val_slice r0
  obtain ⟨B, kb, rfl, hB⟩ := val_slice r1
  obtain ⟨rfl, hx⟩ := val_str r2
  obtain ⟨n, hn⟩ : ∃ n, n = cs.length := ⟨_, rfl⟩
  obtain ⟨m, hm⟩ : ∃ m, m = acts.length := ⟨_, rfl⟩
  rw [← hn, ← hm]
  have HAW := Lib.hid (fun W (h : Ext w W) => awake_any W (hg.ext h))
  have HFW := Lib.hid (fun W (h : Ext w W) => refFew_any cs A k n 12 W hn (hA.ext h))
  have HSW := Lib.hid (fun W (h : Ext w W) => refShort_any acts B kb m 30 W hm (hB.ext h))
  have HST := Lib.hid (fun (hf : FewC cs 12) W (h : Ext w W) => Both1.start (hg.ext h) (hA.ext h) hn hf.args (by have := hf.1; omega))
  have HA := Lib.hid hA
  have HB := Lib.hid hB
  have HN := Lib.hid hn
  have HM := Lib.hid hm
  have hm63 : m ≤ 9223372036854775807 := by have := hB.1; have := hB.2.1; omega
  clear hA hB hn hm hg r0 r1 r2
  go_enter Tryz.func6, Tryz.ntmps6
  go_wp2_with fail
  refine (HAW.out _ (Ext.refl w)).mono ?_
  rintro e2 w2 ⟨rfl, d2⟩
  have HD2 := Lib.hid d2
  clear d2
  go_wp2_with fail
  refine (HFW.out _ HD2.out).mono ?_
  rintro e3 w3 ⟨d3, b, rfl, hb⟩
  have HD3 := Lib.hid (HD2.out.trans d3)
  clear d3 HD2
  cases b with
  | false =>
    clear hb
    go_wp2_with fail
    refine (HAW.out _ HD3.out).mono ?_
    rintro e4 w4 ⟨rfl, d4⟩
    have HD4 := Lib.hid (HD3.out.trans d4)
    clear d4
    go_wp2_with fail
    go_ret
    exact ⟨rfl, HD4.out⟩
  | true =>
    have HFO := Lib.hid (hb rfl)
    clear hb
    go_wp2_with fail
    refine (HSW.out _ HD3.out).mono ?_
    rintro e4 w4 ⟨d4, b, rfl, hb⟩
    have HD4 := Lib.hid (HD3.out.trans d4)
    clear d4 HD3
    cases b with
    | false =>
      clear hb
      go_wp2_with fail
      refine (HAW.out _ HD4.out).mono ?_
      rintro e5 w5 ⟨rfl, d5⟩
      have HD5 := Lib.hid (HD4.out.trans d5)
      clear d5
      go_wp2_with fail
      go_ret
      exact ⟨rfl, HD5.out⟩
    | true =>
      have HSO := Lib.hid (hb rfl)
      clear hb
      by_cases hx200 : 200 < x.size
      · go_wp2_with fail
        refine (HAW.out _ HD4.out).mono ?_
        rintro e5 w5 ⟨rfl, d5⟩
        have HD5 := Lib.hid (HD4.out.trans d5)
        clear d5
        go_wp2_with fail
        go_ret
        exact ⟨rfl, HD5.out⟩
      have hx201 : x.size ≤ 200 := by omega
      go_wp2_with fail
      refine (HST.out HFO.out _ HD4.out).mono ?_
      rintro e5 w5 ⟨d5, hr⟩
      have HD5 := Lib.hid (HD4.out.trans d5)
      clear d5
      rcases hr with ⟨_, rfl⟩ | ⟨_, g, D, rfl, hb⟩
      · go_wp2_with fail
        go_ret
        exact ⟨rfl, HD5.out⟩
      · have HBO := Lib.hid hb
        have hn12 : n ≤ 12 := by have := HFO.out.1; have := HN.out; omega
        have hm30 : m ≤ 30 := by have := HSO.out.1; have := HM.out; omega
        clear hb
        go_wp2_with fail
        go_loopw [10, 61] (fun _ i wr => ∃ (t : Nat) (e : E.En) (D' : Nat → Prop), i = .int .i64 t ∧ t ≤ m ∧ Hid (Both1 w4 wr D' g cs t e)) (fun _ i _ => m - (intOf i).toNat)
        case atStart => exact ⟨0, _, _, rfl, Nat.zero_le _, HBO⟩
        case round =>
          obtain ⟨t, e, D', rfl, ht, HB2⟩ := hrel
          by_cases htm : t < m
          · have htl : t < acts.length := by have := HM.out; omega
            obtain ⟨b, off, hBe, hbb, d0, d1, d2, z1, z2, z3⟩ := act_get (HB.out.ext (HD4.out.trans HB2.out.ahead)) htl
            subst hBe
            have HACT := Lib.hid (fun W (hx : Ext wr W) => (HB2.out.ext hx).act (by omega) z1 z2 z3)
            generalize acts[t] = ac at *
            obtain ⟨kk, cc, vv⟩ := ac
            simp only at d0 d1 d2 z1 z2 z3 HACT
            obtain ⟨W2, hW2⟩ : ∃ W2, W2 = wr.alloc (.cells #[.int .u8 kk, .int .u8 cc, .string vv] 31) := ⟨_, rfl⟩
            have X2 : Ext wr W2 := by rw [hW2]; exact (Ext.refl wr).alloc _
            have p0 : W2.cell? ⟨wr.heap.size, 0, none⟩ = some (.int .u8 kk) := by rw [hW2]; exact cell_new wr #[.int .u8 kk, .int .u8 cc, .string vv] 31 0
            have p1 : W2.cell? ⟨wr.heap.size, 1, none⟩ = some (.int .u8 cc) := by rw [hW2]; exact cell_new wr #[.int .u8 kk, .int .u8 cc, .string vv] 31 1
            have p2 : W2.cell? ⟨wr.heap.size, 2, none⟩ = some (.string vv) := by rw [hW2]; exact cell_new wr #[.int .u8 kk, .int .u8 cc, .string vv] 31 2
            have HAC := Lib.hid (HACT.out W2 X2)
            generalize hea : actE e (kk, cc, vv) = e' at *
            go_upto_region 9 with (fail)
            rw [← hW2]
            clear hW2 d0 d1 d2 z1 z2 z3 X2 HACT hea
            go_wp2_with fail
            refine HAC.out.mono ?_
            rintro ed w7 ⟨rfl, _, D2, hb7, _⟩
            have HB7 := Lib.hid hb7
            clear hb7 p0 p1 p2 HAC
            go_wp2_with fail
            go_roundw
            case rel => exact ⟨t + 1, e', D2, by go_num, by omega, HB7⟩
            case measure => simp [intOf]; omega
          · obtain ⟨ge, D2, q0, he1, hng, hgl⟩ := HB2.out.eng
            have HB2c := Lib.hid HB2.out.fit.cells
            have HE := Lib.hid he1
            have HNG := Lib.hid hng
            have HUP := Lib.hid (upto_zero (cs := cs) HB2.out.fit.ok)
            clear he1 hng hgl HB2c
            go_wp2_with fail
            go_loopw [11, 13, 14, 15, 16, 17, 18, 72] (fun v _ _ _ _ _ _ i wr => ∃ (j t' : Nat) (e' : E.En) (D' : Nat → Prop) (R : List ByteArray), i = .int .i64 j ∧ j ≤ n ∧ t' ≤ 30 + j ∧ wr.cell? ⟨g, 0, none⟩ = some (.pointer (some ⟨ge, 0, none⟩)) ∧ Hid (EngD w4 wr D' ge cs t' e') ∧ Hid (¬ D' g) ∧ Hid (Upto cs j e' R) ∧ R.length ≤ 100 * j ∧ Hid (∀ s ∈ R, s.size ≤ 9223372036854775807) ∧ Hid (OwnAt wr w4.heap.size 9 1 v R.length (R.map Value.string)) ∧ Hid (∀ b, v.ownBlock = some b → ¬ D' b ∧ b ≠ g)) (fun _ _ _ _ _ _ _ i _ => n - (intOf i).toNat)
            case atStart => exact ⟨0, t, e, D2, [], rfl, Nat.zero_le _, by omega, q0, HE, HNG, HUP, Nat.zero_le _, (fun _ h => absurd h List.not_mem_nil), OwnAt.nil _ _ _ _, (fun _ h => by cases h)⟩
            case round =>
              clear q0 HE HNG HUP
              obtain ⟨j, t', e', D', R, rfl, hj, ht', q0, HE, HNG, HUP, hRl, HRZ, HOW, HOD⟩ := hrel
              by_cases hlt : j < n
              · have hjl : j < cs.length := by have := HN.out; omega
                obtain ⟨b, off, A2, k2, hAe, hbb, d0, d1, d2, d3, z1, z2, z3, z4⟩ := cell_get (HA.out.ext (HD4.out.trans HE.out.ahead)) hjl
                have HST := Lib.hid (fun h0 => upto_succ HUP.out HE.out.fit.cells (once_of HE.out.fit.right) hjl h0)
                have HFC : Hid (E.findC cs cs[j].1 = some cs[j]) := Lib.hid (findC_at (once_of HE.out.fit.right) hjl)
                generalize cs[j] = cj at *
                obtain ⟨nm, op, ar, tx⟩ := cj
                simp only at d0 d1 d2 d3 z1 z2 z3 z4 HST HFC
                obtain ⟨W2, hW2⟩ : ∃ W2, W2 = wr.alloc (.cells #[.string nm, .int .i64 op, .slice A2 ar.length k2, .string tx] 50) := ⟨_, rfl⟩
                have X2 : Ext wr W2 := by rw [hW2]; exact (Ext.refl wr).alloc _
                have p0 : W2.cell? ⟨wr.heap.size, 0, none⟩ = some (.string nm) := by rw [hW2]; exact cell_new wr #[.string nm, .int .i64 op, .slice A2 ar.length k2, .string tx] 50 0
                have q1 := X2.keepc q0
                have hHO : Hid (¬ D' wr.heap.size) := Lib.hid fun h => Nat.lt_irrefl _ (HE.out.dom _ h).2
                have HGET := Lib.hid (fun W (hx : Ext W2 W) => (HE.out.ext (X2.trans hx)).get (by omega) z1)
                have HOW2 := Lib.hid (HOW.out.ext X2)
                generalize E.getE e' nm = r at *
                obtain ⟨rv, re, rn⟩ := r
                simp only at HGET HST
                obtain ⟨Φ, hΦ⟩ : ∃ Φ : World → Prop, ∀ w', Φ w' ↔ (w'.cell? ⟨g, 0, none⟩ = some (.pointer (some ⟨ge, 0, none⟩)) ∧ w'.cell? ⟨wr.heap.size, 0, none⟩ = some (.string nm)) := ⟨_, fun _ => Iff.rfl⟩
                have h0 : Φ W2.drew := (hΦ _).2 ⟨q1, p0⟩
                have fx0 : ∀ x : Lat Φ, x.w'.cell? ⟨g, 0, none⟩ = some (.pointer (some ⟨ge, 0, none⟩)) := fun x => ((hΦ _).1 x.h).1
                have fx1 : ∀ x : Lat Φ, x.w'.cell? ⟨wr.heap.size, 0, none⟩ = some (.string nm) := fun x => ((hΦ _).1 x.h).2
                have hne1 := Lat.some h0
                have HΦ := Lib.hid hΦ
                subst hAe
                clear hΦ X2
                go_upto_region 16 with (fail)
                rw [← hW2]
                clear hW2 d0 d1 d2 d3 z2 z3 z4
                refine wp_region_lat [6] Φ h0 (by kernel_rfl) (by kernel_rfl) (by kernel_rfl) ?_
                iterate 6 (refine lex_pure rfl rfl rfl ?_; intro K hK; go_big_quiet_op; go_big_quiet_on)
                refine lex_eff rfl ?_
                go_wp2_with fail
                refine (HGET.out _ (Ext.refl W2).drew).mono ?_
                rintro ed w7 ⟨rfl, hrz, t7, D7, he7, hd7⟩
                have HD7 : Hid (∀ k, D7 k → D' k ∨ W2.heap.size ≤ k) := Lib.hid hd7
                have HGL : Hid (g < W2.heap.size) := Lib.hid (World.block_lt_of_cell? _ _ q1)
                have HNG7 : Hid (¬ D7 g) := Lib.hid fun h => by
                  rcases HD7.out g h with h | h
                  · exact HNG.out h
                  · have := HGL.out; omega
                have q7 := t7.keepc ((Ext.refl W2).drew.keepc q1) HNG.out
                have p7 := t7.keepc ((Ext.refl W2).drew.keepc p0) hHO.out
                have HP7 := Lib.hid ((HΦ.out w7).2 ⟨q7, p7⟩)
                have HE7 := Lib.hid he7
                have HOW7 : Hid (OwnAt w7 w4.heap.size 9 1 u11 R.length (R.map Value.string)) := Lib.hid (OwnAt.keep HOW2.out fun b hb hlt => t7.block b hlt (HOD.out b hb).1)
                have HOD7 : Hid (∀ b, u11.ownBlock = some b → ¬ D7 b ∧ b ≠ g) := Lib.hid fun b hb => ⟨fun h => by
                  rcases HD7.out b h with h | h
                  · exact (HOD.out b hb).1 h
                  · have := own_at_lt HOW2.out hb; omega, (HOD.out b hb).2⟩
                clear hd7 he7 t7 HGET HE HNG q0 q1 p0 hHO HD7 HGL hrz HOW HOW2 HOD HUP
                go_wp2_with fail
                refine ⟨⟨⟨w7, HP7.out⟩, rfl⟩, ?_⟩
                iterate 7 (refine lex_pure rfl rfl rfl ?_; intro K hK; go_big_quiet_op; go_big_quiet_on)
                refine lex_nil ?_
                clear fx0 fx1 hne1 h0 HΦ Φ HP7
                by_cases hre : re = 0
                · subst hre
                  have HRE : Hid (readsE rn nm = (readsL rn nm, 0)) := Lib.hid (by unfold readsE; rw [HE7.out.fit.cells, HFC.out])
                  have HRD := Lib.hid (fun W (hx : Ext w7 W) => (HE7.out.ext hx).reads z1)
                  rw [HRE.out] at HRD
                  have hrl := readsL_le HE7.out z1
                  have HUP8 := Lib.hid (HST.out rfl)
                  generalize readsL rn nm = rs at *
                  obtain ⟨Φ, hΦ⟩ : ∃ Φ : World → Prop, ∀ w', Φ w' ↔ (w'.cell? ⟨g, 0, none⟩ = some (.pointer (some ⟨ge, 0, none⟩)) ∧ w'.cell? ⟨wr.heap.size, 0, none⟩ = some (.string nm)) := ⟨_, fun _ => Iff.rfl⟩
                  have h0 : Φ w7.drew := (hΦ _).2 ⟨q7, p7⟩
                  have fx0 : ∀ x : Lat Φ, x.w'.cell? ⟨g, 0, none⟩ = some (.pointer (some ⟨ge, 0, none⟩)) := fun x => ((hΦ _).1 x.h).1
                  have fx1 : ∀ x : Lat Φ, x.w'.cell? ⟨wr.heap.size, 0, none⟩ = some (.string nm) := fun x => ((hΦ _).1 x.h).2
                  have hne1 := Lat.some h0
                  have HΦ := Lib.hid hΦ
                  clear hΦ HST HRE
                  go_wp2_with fail
                  refine wp_region_lat [6] Φ h0 (by kernel_rfl) (by kernel_rfl) (by kernel_rfl) ?_
                  iterate 6 (refine lex_pure rfl rfl rfl ?_; intro K hK; go_big_quiet_op; go_big_quiet_on)
                  refine lex_eff rfl ?_
                  go_wp2_with fail
                  refine (HRD.out _ (Ext.refl w7).drew).mono ?_
                  rintro ed w8 ⟨x8, A8, k8, n8, hn8, rfl, hs8⟩
                  have HX8 := Lib.hid ((Ext.refl w7).drew.trans x8)
                  have HS8 := Lib.hid hs8
                  have HN8 := Lib.hid hn8
                  simp only
                  clear x8 hs8 hn8 HRD
                  go_wp2_with fail
                  refine ⟨⟨⟨w8, (HΦ.out _).2 ⟨HX8.out.keepc q7, HX8.out.keepc p7⟩⟩, rfl⟩, ?_⟩
                  iterate 5 (refine lex_pure rfl rfl rfl ?_; intro K hK; go_big_quiet_op; go_big_quiet_on)
                  refine lex_nil ?_
                  clear fx0 fx1 hne1 h0 HΦ Φ
                  replace q7 := HX8.out.keepc q7
                  have HE8 := Lib.hid (HE7.out.ext HX8.out)
                  have HOW8 := Lib.hid (HOW7.out.ext HX8.out)
                  have hb8 : Hid (w4.heap.size ≤ w8.heap.size) := Lib.hid HE8.out.ahead.size
                  clear HE7 HOW7 p7
                  go_wp2_with (at_builtin; refine wpList_append_strs rfl (.tmp 99) (.tmp 100) rfl w4.heap.size _ R rs rfl HOW8.out A8 n8 k8 rfl HN8.out _ HS8.out (by omega) hb8.out ?_; intro v9 w9 o9 g9 f9)
                  have HGX : Hid (g < w8.heap.size) := Lib.hid (World.block_lt_of_cell? _ _ q7)
                  have HE9 : Hid (EngD w4 w9 D7 ge cs (t' + 1) rn) := Lib.hid (HE8.out.tch (X := fun k => u11.ownBlock = some k) (grown_tch g9) fun k hk => ⟨(HOD7.out k hk).1, own_apart HOW8.out hk⟩)
                  have HOD9 : Hid (∀ b, v9.ownBlock = some b → ¬ D7 b ∧ b ≠ g) := Lib.hid fun b hb => by
                    rcases f9 with f9 | ⟨t, f9, f10, _⟩
                    · exact HOD7.out b (f9 ▸ hb)
                    · rw [f9] at hb; cases hb; exact ⟨fun h => by have := (HE8.out.dom b h).2; omega, by have := HGX.out; omega⟩
                  have q9 := (grown_tch g9).keepc q7 (fun h => (HOD7.out _ h).2 rfl)
                  have HOW9 := Lib.hid o9
                  have HRZ9 : Hid (∀ s ∈ R ++ rs, s.size ≤ 9223372036854775807) := Lib.hid fun s hs => by
                    rcases List.mem_append.1 hs with h | h
                    · exact HRZ.out s h
                    · exact strs_sized HS8.out s h
                  have hRl9 : (R ++ rs).length ≤ 100 * (j + 1) := by rw [List.length_append]; omega
                  generalize R ++ rs = R9 at *
                  clear o9 g9 f9 HE8 HOW8 hb8 q7 HGX HOD7 HS8 HN8 hrl HX8
                  go_wp2_with fail
                  go_roundw
                  case rel => exact ⟨j + 1, t' + 1, rn, D7, R9, by go_num, by omega, by omega, q9, HE9, HNG7, HUP8, hRl9, HRZ9, HOW9, HOD9⟩
                  case measure => simp [intOf]; omega
                · have hx1 : (re == 0) = false := by rw [beq_eq_false_iff_ne]; exact hre
                  have hx2 : (re != 0) = true := by rw [bne, hx1]; rfl
                  clear HST
                  go_wp2_with fail
                  go_ret
                  exact ⟨rfl, HD4.out.trans HE7.out.ahead⟩
              · have hjn : j = n := by omega
                obtain ⟨AR, kR, hu, _⟩ := strs_slice HOW.out rfl HRZ.out
                obtain ⟨y, hy⟩ : ∃ y, y = R.length := ⟨_, rfl⟩
                rw [← hy] at hu
                subst hu
                have HY := Lib.hid hy
                have hy1200 : y ≤ 1200 := by rw [hy]; omega
                clear hy
                have HVS := Lib.hid HE.out.fit.vals
                obtain ⟨hfull, hreads⟩ := upto_full HUP.out HE.out.fit.cells (by rw [hjn]; exact HN.out)
                obtain ⟨U, hU⟩ := hfull
                have HU := Lib.hid hU
                have HRR := Lib.hid hreads
                have HCM := Lib.hid (fun W (hx : Ext wr W) => (HE.out.ext hx).computed)
                have HI1 := Lib.hid (fun W (hx : Ext wr W) => (HE.out.ext hx).inputs)
                have HSZ := Lib.hid (sz_inputs HE.out.fit)
                have HMI := Lib.hid (fun f => E.mem_inputs HE.out.fit.eok.vals f)
                have HLE : Hid ((E.inputsE e').length ≤ 200) := Lib.hid (by have h1 := inputs_length e'; have h2 := HE.out.fit.few; rw [HE.out.fit.cells] at h1; omega)
                obtain ⟨L, hL⟩ : ∃ L, L = E.inputsE e' := ⟨_, rfl⟩
                rw [← hL] at HI1 HSZ HMI HLE
                obtain ⟨q, hq⟩ : ∃ q, q = L.length := ⟨_, rfl⟩
                have HQ := Lib.hid hq
                have hq200 : q ≤ 200 := by rw [hq]; exact HLE.out
                obtain ⟨cn, hcn⟩ : ∃ cn : Int, cn = e'.st.cnt := ⟨_, rfl⟩
                have HCN := Lib.hid hcn
                rw [← hcn] at HCM
                clear hU hreads hL hq hcn hjn HUP
                go_wp2_with fail
                refine (HCM.out _ (Ext.refl wr)).mono ?_
                rintro ed w5 ⟨rfl, rfl⟩
                clear HCM
                go_wp2_with fail
                refine (HI1.out _ (Ext.refl wr)).mono ?_
                rintro ed w6 ⟨v6, rfl, o6, x6⟩
                have hlo : ∀ A' k', v6 = .slice A' L.length k' → SliceAt fileR w6 (OffD w6 D') A' k' L := fun A' k' hv => own_files_off (hv ▸ o6) HSZ.out fun k hk => by have := (HE.out.dom k hk).2; omega
                obtain ⟨A6, k6, rfl, _⟩ := own_files_slice o6 HSZ.out
                have HS6 := Lib.hid (hlo _ _ rfl)
                have HE6 := Lib.hid (HE.out.ext x6)
                have HOW6 := Lib.hid (HOW.out.ext x6)
                replace q0 := x6.keepc q0
                have HE6c := Lib.hid HE6.out.fit.cells
                have HKQ : Hid (KeptQ e' R e') := KeptQ.refl _ _
                rw [← HQ.out]
                clear hlo o6 x6 HI1 HE HOW
                go_wp2_with fail
                go_loopw [22, 23, 115] (fun _ _ i wr => ∃ (j2 t2 : Nat) (e2 : E.En), i = .int .i64 j2 ∧ j2 ≤ n ∧ t2 ≤ 50 + 2 * j2 ∧ wr.cell? ⟨g, 0, none⟩ = some (.pointer (some ⟨ge, 0, none⟩)) ∧ Hid (EngD w4 wr D' ge cs t2 e2) ∧ Hid (KeptQ e' R e2) ∧ Hid (OwnAt wr w4.heap.size 9 1 (.slice AR y kR) R.length (R.map Value.string)) ∧ Hid (SliceAt fileR wr (OffD wr D') A6 k6 L)) (fun _ _ i _ => n - (intOf i).toNat)
                case atStart => exact ⟨0, t', e', rfl, Nat.zero_le _, by omega, q0, HE6, HKQ, HOW6, HS6⟩
                case round =>
                  clear q0 HE6 HKQ HOW6 HS6
                  obtain ⟨j2, t2, e2, rfl, hj2, ht2, q0, HE2, HKQ, HOW2, HS2⟩ := hrel
                  by_cases hlt2 : j2 < n
                  · have hjl : j2 < cs.length := by have := HN.out; omega
                    obtain ⟨b, off, A2, k2, hAe, hbb, d0, d1, d2, d3, z1, z2, z3, z4⟩ := cell_get (HA.out.ext (HD4.out.trans HE2.out.ahead)) hjl
                    have HFC : Hid (E.findC cs cs[j2].1 = some cs[j2]) := Lib.hid (findC_at (once_of HE2.out.fit.right) hjl)
                    generalize cs[j2] = cj at *
                    obtain ⟨nm, op, ar, tx⟩ := cj
                    simp only at d0 d1 d2 d3 z1 z2 z3 z4 HFC
                    obtain ⟨W2, hW2⟩ : ∃ W2, W2 = wr.alloc (.cells #[.string nm, .int .i64 op, .slice A2 ar.length k2, .string tx] 50) := ⟨_, rfl⟩
                    have X2 : Ext wr W2 := by rw [hW2]; exact (Ext.refl wr).alloc _
                    have p0 : W2.cell? ⟨wr.heap.size, 0, none⟩ = some (.string nm) := by rw [hW2]; exact cell_new wr #[.string nm, .int .i64 op, .slice A2 ar.length k2, .string tx] 50 0
                    have p1 : W2.cell? ⟨wr.heap.size, 1, none⟩ = some (.int .i64 op) := by rw [hW2]; exact cell_new wr #[.string nm, .int .i64 op, .slice A2 ar.length k2, .string tx] 50 1
                    have q1 := X2.keepc q0
                    have hHO : Hid (¬ D' wr.heap.size) := Lib.hid fun h => Nat.lt_irrefl _ (HE2.out.dom _ h).2
                    have HEW := Lib.hid (HE2.out.ext X2)
                    have HOW3 := Lib.hid (HOW2.out.ext X2)
                    have HS3 := Lib.hid (off_ext HS2.out X2)
                    subst hAe
                    clear X2
                    go_upto_region 27 with (fail)
                    rw [← hW2]
                    clear hW2 d0 d1 d2 d3 z2 z3 z4 HE2 HOW2 HS2 q0
                    by_cases hop : op = 1
                    · subst hop
                      have HIN : Hid (E.inputB e2 nm = true) := Lib.hid (by unfold E.inputB; rw [HKQ.out.cells.trans HE6c.out, HFC.out]; rfl)
                      have HIX := Lib.hid (fun W (hx : Ext W2 W) => IndexFunc_gen (fun f => f.1.toList == nm.toList) 23 wr.heap.size eg23 L A6 k6 q W HQ.out ((off_ext HS3.out hx).keep (fun _ hk => hk.1) fun _ _ => rfl) fun f _ W' hW' => quiet1_any (y := f.2) ((hx.trans hW').keepc p0))
                      have HIS := Lib.hid (found_is (e := e') (L := L) (nm := nm) HMI.out)
                      obtain ⟨was, hwas⟩ : ∃ was, was = L.findIdx? (fun f => f.1.toList == nm.toList) := ⟨_, rfl⟩
                      rw [← hwas] at HIX HIS
                      obtain ⟨wi, hwi⟩ : ∃ wi, wi = idxI was := ⟨_, rfl⟩
                      rw [← hwi] at HIX
                      have HWI := Lib.hid hwi
                      clear hwas hwi
                      go_wp2_with fail
                      refine (HIX.out _ (Ext.refl W2)).mono ?_
                      rintro ed w7 ⟨rfl, x7⟩
                      have HE7 := Lib.hid (HEW.out.ext x7)
                      have HOW7 := Lib.hid (HOW3.out.ext x7)
                      have HS7 := Lib.hid (off_ext HS3.out x7)
                      have p7 := x7.keepc p0
                      have q7 := x7.keepc q1
                      clear x7 HIX HEW HOW3 HS3 p0 p1 q1
                      have HSET := Lib.hid (fun W (hx7 : Ext w7 W) => (HE7.out.ext hx7).set (n := nm) (s := x) (by omega) z1 hx)
                      rw [set_is HIN.out (by omega)] at HSET
                      obtain ⟨Φ, hΦ⟩ : ∃ Φ : World → Prop, ∀ w', Φ w' ↔ (w'.cell? ⟨g, 0, none⟩ = some (.pointer (some ⟨ge, 0, none⟩)) ∧ w'.cell? ⟨wr.heap.size, 0, none⟩ = some (.string nm)) := ⟨_, fun _ => Iff.rfl⟩
                      have h0 : Φ w7.drew := (hΦ _).2 ⟨q7, p7⟩
                      have fx0 : ∀ x : Lat Φ, x.w'.cell? ⟨g, 0, none⟩ = some (.pointer (some ⟨ge, 0, none⟩)) := fun x => ((hΦ _).1 x.h).1
                      have fx1 : ∀ x : Lat Φ, x.w'.cell? ⟨wr.heap.size, 0, none⟩ = some (.string nm) := fun x => ((hΦ _).1 x.h).2
                      have hne1 := Lat.some h0
                      have HΦ := Lib.hid hΦ
                      clear hΦ
                      simp only at HSET
                      go_wp2_with fail
                      refine wp_region_lat [7] Φ h0 (by kernel_rfl) (by kernel_rfl) (by kernel_rfl) ?_
                      iterate 7 (refine lex_pure rfl rfl rfl ?_; intro K hK; go_big_quiet_op; go_big_quiet_on)
                      refine lex_eff rfl ?_
                      go_wp2_with fail
                      refine (HSET.out _ (Ext.refl w7).drew).mono ?_
                      rintro ed w8 ⟨rfl, t8, he8⟩
                      have q8 := t8.keepc ((Ext.refl w7).drew.keepc q7) HNG.out
                      have p8 := t8.keepc ((Ext.refl w7).drew.keepc p7) hHO.out
                      have HE8 := Lib.hid he8
                      have HP8 := Lib.hid ((HΦ.out w8).2 ⟨q8, p8⟩)
                      have HOW8 : Hid (OwnAt w8 w4.heap.size 9 1 (.slice AR y kR) R.length (R.map Value.string)) := Lib.hid (OwnAt.keep (HOW7.out.ext (Ext.refl w7).drew) fun b hb hlt => t8.block b hlt (HOD.out b hb).1)
                      have HS8 := Lib.hid (off_kept (off_ext HS7.out (Ext.refl w7).drew) t8 fun _ h => .inl h)
                      clear t8 he8 HSET HE7 HOW7 HS7
                      go_wp2_with fail
                      refine ⟨⟨⟨w8, HP8.out⟩, rfl⟩, ?_⟩
                      iterate 1 (refine lex_pure rfl rfl rfl ?_; intro K hK; go_big_quiet_op; go_big_quiet_on)
                      refine lex_nil ?_
                      clear fx0 fx1 hne1 h0 HΦ Φ HP8 p7 q7
                      obtain ⟨A', k', e1, hs⟩ := strs_slice HOW8.out rfl HRZ.out
                      injection e1 with e1 e2' e3
                      subst e1 e3
                      have HCT := Lib.hid (Contains_any hs HY.out nm)
                      clear hs e2'
                      go_wp2_with fail
                      refine HCT.out.mono ?_
                      rintro ed w9 ⟨⟨bb, rfl, hbb2⟩, rfl⟩
                      clear HCT
                      cases bb with
                      | false =>
                        have HK9 : Hid (KeptQ e' R (E.change e2 nm (some x))) := Lib.hid (HKQ.out.off (fun h => by have := hbb2.2 h; cases this) _)
                        clear hbb2 HIS HWI p8
                        go_wp2_with fail
                        go_roundw
                        case rel => exact ⟨j2 + 1, t2 + 1, _, by go_num, by omega, by omega, q8, HE8, HK9, HOW8, HS8⟩
                        case measure => simp [intOf]; omega
                      | true =>
                        have hin2 := input_change (n := nm) (v := some x) HIN.out
                        have HIN2 := Lib.hid hin2
                        clear hbb2 hin2
                        cases was with
                        | none =>
                          have hwi : wi = -1 := HWI.out
                          have hd1 : decide ((0 : Int) ≤ wi) = false := decide_eq_false (by omega)
                          have hd3 : decide (wi ≥ (0 : Int)) = false := decide_eq_false (by omega)
                          have hd2 : decide (wi < (0 : Int)) = true := decide_eq_true (by omega)
                          clear hwi
                          have HK9 : Hid (KeptQ e' R (E.change (E.change e2 nm (some x)) nm none)) := Lib.hid (HKQ.out.back _ _ (HIS.out.2 rfl).symm)
                          have HCL := Lib.hid (fun W (hx9 : Ext w9 W) => (HE8.out.ext hx9).clear (n := nm) (by omega) z1)
                          rw [clear_is HIN2.out] at HCL
                          simp only at HCL
                          obtain ⟨Φ, hΦ⟩ : ∃ Φ : World → Prop, ∀ w', Φ w' ↔ (w'.cell? ⟨g, 0, none⟩ = some (.pointer (some ⟨ge, 0, none⟩)) ∧ w'.cell? ⟨wr.heap.size, 0, none⟩ = some (.string nm)) := ⟨_, fun _ => Iff.rfl⟩
                          have h0 : Φ w9.drew := (hΦ _).2 ⟨q8, p8⟩
                          have fx0 : ∀ x : Lat Φ, x.w'.cell? ⟨g, 0, none⟩ = some (.pointer (some ⟨ge, 0, none⟩)) := fun x => ((hΦ _).1 x.h).1
                          have fx1 : ∀ x : Lat Φ, x.w'.cell? ⟨wr.heap.size, 0, none⟩ = some (.string nm) := fun x => ((hΦ _).1 x.h).2
                          have hne1 := Lat.some h0
                          have HΦ := Lib.hid hΦ
                          clear hΦ
                          clear HIS HWI
                          go_wp2_with fail
                          refine wp_region_lat [14, 27] Φ h0 (by kernel_rfl) (by kernel_rfl) (by kernel_rfl) ?_
                          iterate 3 (refine lex_pure rfl rfl rfl ?_; intro K hK; go_big_quiet_op; go_big_quiet_on)
                          iterate 13 (refine no_implicit_lambda% (lex_skip (by kernel_rfl) ?_); go_frame)
                          iterate 1 (refine lex_pure rfl rfl rfl ?_; intro K hK; go_big_quiet_op; go_big_quiet_on)
                          iterate 1 (refine lex_pure rfl rfl rfl ?_; intro K hK; go_big_quiet_op; go_big_quiet_on)
                          iterate 3 (refine lex_pure rfl rfl rfl ?_; intro K hK; go_big_quiet_op; go_big_quiet_on)
                          iterate 6 (refine lex_pure rfl rfl rfl ?_; intro K hK; go_big_quiet_op; go_big_quiet_on)
                          refine lex_eff rfl ?_
                          go_wp2_with fail
                          refine (HCL.out _ (Ext.refl w9).drew).mono ?_
                          rintro ed w10 ⟨rfl, t10, he10⟩
                          have q10 := t10.keepc ((Ext.refl w9).drew.keepc q8) HNG.out
                          have p10 := t10.keepc ((Ext.refl w9).drew.keepc p8) hHO.out
                          have HE10 := Lib.hid he10
                          have HP10 := Lib.hid ((HΦ.out w10).2 ⟨q10, p10⟩)
                          have HOW10 : Hid (OwnAt w10 w4.heap.size 9 1 (.slice AR y kR) R.length (R.map Value.string)) := Lib.hid (OwnAt.keep (HOW8.out.ext (Ext.refl w9).drew) fun b hb hlt => t10.block b hlt (HOD.out b hb).1)
                          have HS10 := Lib.hid (off_kept (off_ext HS8.out (Ext.refl w9).drew) t10 fun _ h => .inl h)
                          clear t10 he10 HCL HE8 HOW8 HS8
                          go_wp2_with fail
                          refine ⟨⟨⟨w10, HP10.out⟩, rfl⟩, ?_⟩
                          iterate 1 (refine lex_pure rfl rfl rfl ?_; intro K hK; go_big_quiet_op; go_big_quiet_on)
                          iterate 2 (refine lex_pure rfl rfl rfl ?_; intro K hK; go_big_quiet_op; go_big_quiet_on)
                          refine lex_nil ?_
                          clear fx0 fx1 hne1 h0 HΦ Φ HP10
                          go_wp2_with fail
                          go_roundw
                          case rel => exact ⟨j2 + 1, t2 + 1 + 1, _, by go_num, by omega, by omega, q10, HE10, HK9, HOW10, HS10⟩
                          case measure => simp [intOf]; omega
                        | some i =>
                          obtain rfl : wi = (i : Int) := HWI.out
                          obtain ⟨hil, hvi⟩ := HIS.out.1 i rfl
                          have hsi := HVS.out _ _ hvi
                          obtain ⟨b6, o6, hAe, _, f0, f1, y0, y1⟩ := file_get HS8.out hil
                          subst hAe
                          have HK9 : Hid (KeptQ e' R (E.change (E.change e2 nm (some x)) nm (some L[i].2))) := Lib.hid (HKQ.out.back _ _ hvi.symm)
                          have hiq : i < q := by rw [HQ.out]; exact hil
                          have HCL := Lib.hid (fun W (hx9 : Ext w9 W) => (HE8.out.ext hx9).set (n := nm) (s := L[i].2) (by omega) z1 y1)
                          rw [set_is HIN2.out hsi] at HCL
                          simp only at HCL
                          rw [← Nat.add_assoc] at f1
                          generalize L[i].2 = si at *
                          have hd1 : decide ((0 : Int) ≤ (i : Int)) = true := decide_eq_true (by omega)
                          have hd2 : decide ((i : Int) < 0) = false := decide_eq_false (by omega)
                          obtain ⟨Φ, hΦ⟩ : ∃ Φ : World → Prop, ∀ w', Φ w' ↔ (w'.cell? ⟨g, 0, none⟩ = some (.pointer (some ⟨ge, 0, none⟩)) ∧ w'.cell? ⟨wr.heap.size, 0, none⟩ = some (.string nm) ∧ w'.cell? ⟨b6, o6 + i * 2 + 1, none⟩ = some (.string si)) := ⟨_, fun _ => Iff.rfl⟩
                          have h0 : Φ w9.drew := (hΦ _).2 ⟨q8, p8, f1⟩
                          have fx0 : ∀ x : Lat Φ, x.w'.cell? ⟨g, 0, none⟩ = some (.pointer (some ⟨ge, 0, none⟩)) := fun x => ((hΦ _).1 x.h).1
                          have fx1 : ∀ x : Lat Φ, x.w'.cell? ⟨wr.heap.size, 0, none⟩ = some (.string nm) := fun x => ((hΦ _).1 x.h).2.1
                          have fx2 : ∀ x : Lat Φ, x.w'.cell? ⟨b6, o6 + i * 2 + 1, none⟩ = some (.string si) := fun x => ((hΦ _).1 x.h).2.2
                          have hne1 := Lat.some h0
                          have HΦ := Lib.hid hΦ
                          clear hΦ
                          clear HIS HWI hvi f0 hil y0
                          go_wp2_with fail
                          refine wp_region_lat [14, 27] Φ h0 (by kernel_rfl) (by kernel_rfl) (by kernel_rfl) ?_
                          iterate 3 (refine lex_pure rfl rfl rfl ?_; intro K hK; go_big_quiet_op; go_big_quiet_on)
                          iterate 11 (refine lex_pure rfl rfl rfl ?_; intro K hK; go_big_quiet_op; go_big_quiet_on)
                          refine lex_eff rfl ?_
                          go_wp2_with fail
                          refine (HCL.out _ (Ext.refl w9).drew).mono ?_
                          rintro ed w10 ⟨rfl, t10, he10⟩
                          have q10 := t10.keepc ((Ext.refl w9).drew.keepc q8) HNG.out
                          have p10 := t10.keepc ((Ext.refl w9).drew.keepc p8) hHO.out
                          have HNB : Hid (¬ D' b6) := Lib.hid (by obtain ⟨_, _, e9, hb9, _⟩ := HS8.out.2.2 (by intro h9; have := HQ.out; rw [h9] at this; simp at this; omega); cases e9; exact hb9.2)
                          have f10 := t10.keepc ((Ext.refl w9).drew.keepc f1) HNB.out
                          have HE10 := Lib.hid he10
                          have HP10 := Lib.hid ((HΦ.out w10).2 ⟨q10, p10, f10⟩)
                          have HOW10 : Hid (OwnAt w10 w4.heap.size 9 1 (.slice AR y kR) R.length (R.map Value.string)) := Lib.hid (OwnAt.keep (HOW8.out.ext (Ext.refl w9).drew) fun b hb hlt => t10.block b hlt (HOD.out b hb).1)
                          have HS10 := Lib.hid (off_kept (off_ext HS8.out (Ext.refl w9).drew) t10 fun _ h => .inl h)
                          clear t10 he10 HCL HE8 HOW8 HS8
                          go_wp2_with fail
                          refine ⟨⟨⟨w10, HP10.out⟩, rfl⟩, ?_⟩
                          iterate 1 (refine lex_pure rfl rfl rfl ?_; intro K hK; go_big_quiet_op; go_big_quiet_on)
                          iterate 1 (refine lex_pure rfl rfl rfl ?_; intro K hK; go_big_quiet_op; go_big_quiet_on)
                          iterate 1 (refine lex_pure rfl rfl rfl ?_; intro K hK; go_big_quiet_op; go_big_quiet_on)
                          iterate 3 (refine lex_pure rfl rfl rfl ?_; intro K hK; go_big_quiet_op; go_big_quiet_on)
                          iterate 8 (refine no_implicit_lambda% (lex_skip (by kernel_rfl) ?_); go_frame)
                          iterate 2 (refine lex_pure rfl rfl rfl ?_; intro K hK; go_big_quiet_op; go_big_quiet_on)
                          refine lex_nil ?_
                          clear fx0 fx1 hne1 h0 HΦ Φ HP10 fx2
                          go_wp2_with fail
                          go_roundw
                          case rel => exact ⟨j2 + 1, t2 + 1 + 1, _, by go_num, by omega, by omega, q10, HE10, HK9, HOW10, HS10⟩
                          case measure => simp [intOf]; omega
                    · have ho1 : (op == 1) = false := by rw [beq_eq_false_iff_ne]; exact hop
                      have ho2 : (op != 1) = true := by rw [bne, ho1]; rfl
                      have q9 := q1
                      have HE9 := HEW
                      clear p0
                      go_wp2_with fail
                      go_roundw
                      case rel => exact ⟨j2 + 1, t2, e2, by go_num, by omega, by omega, q9, HE9, HKQ, HOW3, HS3⟩
                      case measure => simp [intOf]; omega
                  · have HSM : Hid (E.Same e' e2) := Lib.hid (HKQ.out.same HRR.out)
                    clear HKQ HOW2 HS2
                    go_wp2_with fail
                    go_loopw [25, 26, 27, 28, 172] (fun _ _ _ _ i wr => ∃ (j3 t3 : Nat) (e3 : E.En) (D3 : Nat → Prop), i = .int .i64 j3 ∧ j3 ≤ n ∧ t3 ≤ 100 + j3 ∧ wr.cell? ⟨g, 0, none⟩ = some (.pointer (some ⟨ge, 0, none⟩)) ∧ Hid (EngD w4 wr D3 ge cs t3 e3) ∧ Hid (¬ D3 g) ∧ Hid (E.Same e' e3)) (fun _ _ _ _ i _ => n - (intOf i).toNat)
                    case atStart => exact ⟨0, t2, e2, D', rfl, Nat.zero_le _, by omega, q0, HE2, HNG, HSM⟩
                    case round =>
                      clear q0 HE2 HNG HSM
                      obtain ⟨j3, t3, e3, D3, rfl, hj3, ht3, q0, HE3, HNG, HSM⟩ := hrel
                      by_cases hlt3 : j3 < n
                      · have hjl : j3 < cs.length := by have := HN.out; omega
                        obtain ⟨b, off, A2, k2, hAe, hbb, d0, d1, d2, d3, z1, z2, z3, z4⟩ := cell_get (HA.out.ext (HD4.out.trans HE3.out.ahead)) hjl
                        have HQ3 := Lib.hid (same_get HU.out HSM.out (n := cs[j3].1) (by rw [HE3.out.fit.cells, findC_at (once_of HE3.out.fit.right) hjl]; simp))
                        generalize cs[j3] = cj at *
                        obtain ⟨nm, op, ar, tx⟩ := cj
                        simp only at d0 d1 d2 d3 z1 z2 z3 z4 HQ3
                        obtain ⟨W2, hW2⟩ : ∃ W2, W2 = wr.alloc (.cells #[.string nm, .int .i64 op, .slice A2 ar.length k2, .string tx] 50) := ⟨_, rfl⟩
                        have X2 : Ext wr W2 := by rw [hW2]; exact (Ext.refl wr).alloc _
                        have p0 : W2.cell? ⟨wr.heap.size, 0, none⟩ = some (.string nm) := by rw [hW2]; exact cell_new wr #[.string nm, .int .i64 op, .slice A2 ar.length k2, .string tx] 50 0
                        have q1 := X2.keepc q0
                        have hHO : Hid (¬ D3 wr.heap.size) := Lib.hid fun h => Nat.lt_irrefl _ (HE3.out.dom _ h).2
                        have HGET := Lib.hid (fun W (hx : Ext W2 W) => (HE3.out.ext (X2.trans hx)).get (by omega) z1)
                        generalize E.getE e3 nm = r at *
                        obtain ⟨rv, re, rn⟩ := r
                        simp only at HGET HQ3
                        obtain rfl : re = 0 := HQ3.out.1
                        have HSM2 := Lib.hid HQ3.out.2
                        obtain ⟨Φ, hΦ⟩ : ∃ Φ : World → Prop, ∀ w', Φ w' ↔ (w'.cell? ⟨g, 0, none⟩ = some (.pointer (some ⟨ge, 0, none⟩)) ∧ w'.cell? ⟨wr.heap.size, 0, none⟩ = some (.string nm)) := ⟨_, fun _ => Iff.rfl⟩
                        have h0 : Φ W2.drew := (hΦ _).2 ⟨q1, p0⟩
                        have fx0 : ∀ x : Lat Φ, x.w'.cell? ⟨g, 0, none⟩ = some (.pointer (some ⟨ge, 0, none⟩)) := fun x => ((hΦ _).1 x.h).1
                        have fx1 : ∀ x : Lat Φ, x.w'.cell? ⟨wr.heap.size, 0, none⟩ = some (.string nm) := fun x => ((hΦ _).1 x.h).2
                        have hne1 := Lat.some h0
                        have HΦ := Lib.hid hΦ
                        subst hAe
                        clear hΦ X2 HQ3
                        go_upto_region 38 with (fail)
                        rw [← hW2]
                        clear hW2 d0 d1 d2 d3 z2 z3 z4
                        refine wp_region_lat [6] Φ h0 (by kernel_rfl) (by kernel_rfl) (by kernel_rfl) ?_
                        iterate 6 (refine lex_pure rfl rfl rfl ?_; intro K hK; go_big_quiet_op; go_big_quiet_on)
                        refine lex_eff rfl ?_
                        go_wp2_with fail
                        refine (HGET.out _ (Ext.refl W2).drew).mono ?_
                        rintro ed w7 ⟨rfl, hrz, t7, D7, he7, hd7⟩
                        have HGL : Hid (g < W2.heap.size) := Lib.hid (World.block_lt_of_cell? _ _ q1)
                        have HD7 : Hid (∀ k, D7 k → D3 k ∨ W2.heap.size ≤ k) := Lib.hid hd7
                        have HNG7 : Hid (¬ D7 g) := Lib.hid fun h => by
                          rcases HD7.out g h with h | h
                          · exact HNG.out h
                          · have := HGL.out; omega
                        have q7 := t7.keepc ((Ext.refl W2).drew.keepc q1) HNG.out
                        have p7 := t7.keepc ((Ext.refl W2).drew.keepc p0) hHO.out
                        have HP7 := Lib.hid ((HΦ.out w7).2 ⟨q7, p7⟩)
                        have HE7 := Lib.hid he7
                        clear hd7 he7 t7 HGET HE3 HNG q0 q1 p0 hHO HD7 HGL hrz p7
                        go_wp2_with fail
                        refine ⟨⟨⟨w7, HP7.out⟩, rfl⟩, ?_⟩
                        iterate 7 (refine lex_pure rfl rfl rfl ?_; intro K hK; go_big_quiet_op; go_big_quiet_on)
                        refine lex_nil ?_
                        clear fx0 fx1 hne1 h0 HΦ Φ HP7
                        go_wp2_with fail
                        go_roundw
                        case rel => exact ⟨j3 + 1, t3 + 1, rn, D7, by go_num, by omega, by omega, q7, HE7, HNG7, HSM2⟩
                        case measure => simp [intOf]; omega
                      · have HCM := Lib.hid HE3.out.computed
                        have hce : (e3.st.cnt : Int) = cn := by rw [HCN.out, HSM.out.like.1]
                        rw [hce] at HCM
                        have hcc : (cn == cn) = true := by simp
                        clear hce
                        go_wp2_with fail
                        refine HCM.out.mono ?_
                        rintro ed w9 ⟨rfl, rfl⟩
                        have HXE := Lib.hid (HD4.out.trans HE3.out.ahead)
                        clear HCM
                        go_wp2_with fail
                        go_ret
                        exact ⟨rfl, HXE.out⟩
end Go.Proofs.YtkeaoejgboefbaaGreatDoor
