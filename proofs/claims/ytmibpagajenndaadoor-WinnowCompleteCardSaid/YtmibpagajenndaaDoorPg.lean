/- RollingEqual: equal runs have equal hashes. -/
import Derived.Test.YtmibpagajenndaaDoorPf
import Derived.IntWalk
namespace Go.Proofs.YtmibpagajenndaaDoor
open Go.RowKit

theorem run_slice_part {P : Program} {α : Type} {r : Rep α} {w : World} {S : Nat → Prop} {A : Option Addr} {c n i j : Nat} {l : List α} (t : TypeId) (ht : P.underlying t = some (.slice (P.elem t))) (hs : ∀ w', (sizeOf (P.elem t)).run P w' = .ok r.size w')
    (h : SliceAt r w S A c l) (hn : n = l.length) (hi : i ≤ j) (hj : j ≤ n) :
    ∃ A', (∀ w', (Instr.slice t (.slice A n c) (some (.int .i64 (i : Int))) (some (.int .i64 (j : Int))) none).run P w' = .ok (.slice A' (j - i) (c - i)) w') ∧ SliceAt r w S A' (c - i) ((l.drop i).take (j - i)) := by
  have hc := h.1
  refine ⟨if c = i then A else A.map (·.add (i * r.size)), fun w' => ?_, ?_⟩
  · rw [run_slice_lh w' t A n c ht .i64 .i64 i j (by omega) (by omega) (by omega), hs]
    simp [Result.andThen, sliced]
  · exact h.cut i j hi (by omega) (if c = i then A else A.map (·.add (i * r.size))) (fun hlt b off hA => by
      rw [if_neg (by omega), hA]; simp [Addr.add_lit])
theorem Few_is (l : List (ByteArray × Int)) (A : Option Addr) (c n : Nat) (bb : Bool) (w : World) (hn : n = l.length) (hA : SliceAt lexR w (Old w) A c l) (h : fewB l = bb) :
    Calls Tryd.prog 7 #[.slice A n c] w fun e w' => e = .returned (.bool bb) ∧ w = w' := by subst hn; exact h ▸ Few_q l A c w hA
theorem Few_at (l : List (ByteArray × Int)) (A : Option Addr) (c n : Nat) (bb : Bool) (w : World) (hn : n = l.length) (hA : SliceAt lexR w (Old w) A c l) (h : fewB l = bb) :
    ∀ w', Ext w w' → Calls Tryd.prog 7 #[.slice A n c] w' fun e w2 => e = .returned (.bool bb) ∧ w' = w2 := fun w' he => Few_is l A c n bb w' hn (hA.ext he) h

set_option maxRecDepth 8000 in
set_option maxHeartbeats 1000000 in
theorem rollEq_few (pa pb : ByteArray) (a b : List (ByteArray × Int)) (A B : Option Addr) (ca cb na nb : Nat) (x2 x3 x4 : Int) (w : World) (hna : na = a.length) (hnb : nb = b.length) (hpa : pa.size ≤ 9223372036854775807) (hpb : pb.size ≤ 9223372036854775807)
    (hA : SliceAt lexR w (Old w) A ca a) (hB : SliceAt lexR w (Old w) B cb b) (h : fewB a = false ∨ fewB b = false ∨ 200 < pa.size ∨ 200 < pb.size) :
    Calls Tryd.prog 3 #[.agg #[.string pa, .slice A na ca], .agg #[.string pb, .slice B nb cb], .int .u8 x2, .int .u8 x3, .int .u8 x4] w (Al (.bool true) w) := by
  obtain ⟨fa, hfa⟩ : ∃ f, fewB a = f := ⟨_, rfl⟩
  obtain ⟨fb, hfb⟩ : ∃ f, fewB b = f := ⟨_, rfl⟩
  have FA := Lib.hid (Few_at a A ca na fa w hna hA hfa)
  have FB := Lib.hid (Few_at b B cb nb fb w hnb hB hfb)
  rw [hfa, hfb] at h
  clear hfa hfb hA hB hna hnb
  have hh : fa = false ∨ (fa = true ∧ fb = false) ∨ (fa = true ∧ fb = true ∧ 200 < pa.size) ∨ (fa = true ∧ fb = true ∧ ¬ 200 < pa.size ∧ 200 < pb.size) := by
    cases fa <;> cases fb <;> simp at h ⊢
    omega
  clear h
  rcases hh with rfl | ⟨rfl, rfl⟩ | ⟨rfl, rfl, h1⟩ | ⟨rfl, rfl, h1, h2⟩
  all_goals
    go_enter Tryd.func3, Tryd.ntmps3
    go_wp2_with fail
    refine (awake24 _).mono ?_
    rintro e w1 ⟨rfl, d1⟩
    obtain ⟨b0, b1, b2, b3, e1⟩ := boxes2 d1
    clear d1
    go_wp2_with fail
    refine (FA.out _ e1).mono ?_
    rintro e w' ⟨rfl, rfl⟩
    go_wp2_with fail
  · go_ret
    exact ⟨rfl, e1⟩
  all_goals
    refine (FB.out _ e1).mono ?_
    rintro e w' ⟨rfl, rfl⟩
    go_wp2_with fail
    go_ret
    exact ⟨rfl, e1⟩

theorem same_texts {a b : List (ByteArray × Int)} {i j n k : Nat} (h : sameRun a b i j n) (hk : k ≤ n) (hi : i + n ≤ a.length) (hj : j + n ≤ b.length) : texts ((a.drop i).take k) = texts ((b.drop j).take k) := by
  apply List.ext_getElem?
  intro t
  unfold texts
  rw [List.getElem?_map, List.getElem?_map]
  by_cases ht : t < k
  · rw [List.getElem?_take_of_lt ht, List.getElem?_take_of_lt ht, List.getElem?_drop, List.getElem?_drop]
    have := h t (by omega)
    rw [List.getElem?_eq_getElem (by omega), List.getElem?_eq_getElem (by omega)] at this ⊢
    simp at this ⊢
    rw [this]
  · rw [List.getElem?_eq_none (by simp; omega), List.getElem?_eq_none (by simp; omega)]
theorem few_words {l : List (ByteArray × Int)} (h : fewB l = true) : ∀ x ∈ l, x.1.size ≤ 40 := by
  intro x hx
  unfold fewB at h
  rw [Bool.and_eq_true, List.all_eq_true] at h
  simpa using h.2 x hx
theorem rem_pos (x : Int) (n : Nat) (hx : 0 ≤ x) : ∃ p : Nat, x.tmod ((n : Int) + 1) = (p : Int) ∧ p ≤ n := by
  have h1 := Int.emod_nonneg x (show (n : Int) + 1 ≠ 0 by omega)
  have h2 := Int.emod_lt_of_pos x (show 0 < (n : Int) + 1 by omega)
  refine ⟨(x % ((n : Int) + 1)).toNat, ?_, by omega⟩
  rw [Int.tmod_eq_emod_of_nonneg hx]
  omega

set_option maxRecDepth 8000 in
set_option maxHeartbeats 1000000 in
theorem rollEq_main (pa pb : ByteArray) (a b : List (ByteArray × Int)) (A B : Option Addr) (ca cb na nb : Nat) (x2 x3 x4 m : Int) (w : World) (hna : na = a.length) (hnb : nb = b.length) (hpa : pa.size ≤ 200) (hpb : pb.size ≤ 200)
    (hA : SliceAt lexR w (Old w) A ca a) (hB : SliceAt lexR w (Old w) B cb b) (hfa : fewB a = true) (hfb : fewB b = true) (h2 : 0 ≤ x2 ∧ x2 ≤ 255) (h3 : 0 ≤ x3 ∧ x3 ≤ 255) (h4 : 0 ≤ x4 ∧ x4 ≤ 255) (hm : w.cell? ⟨0, 0, none⟩ = some (.int .i64 m)) :
    Calls Tryd.prog 3 #[.agg #[.string pa, .slice A na ca], .agg #[.string pb, .slice B nb cb], .int .u8 x2, .int .u8 x3, .int .u8 x4] w (Al (.bool true) w) := by
  have la := few_len hfa
  have lb := few_len hfb
  rw [← hna] at la
  rw [← hnb] at lb
  obtain ⟨p, hp, hpn⟩ := rem_pos x2 na h2.1
  obtain ⟨q, hq, hqn⟩ := rem_pos x3 nb h3.1
  have com := fun (w' : World) (h : Ext w w') => Common_any pa pb a b A B ca cb na nb p q m w' hna hnb (by omega) (by omega) (hA.ext h) (hB.ext h) (by omega) (by omega) (fun x hx => by have := few_words hfa x hx; omega) (fun x hx => by have := few_words hfb x hx; omega) (h.keepc hm) hpn hqn
  have FA := Lib.hid (Few_at a A ca na true w hna hA hfa)
  have FB := Lib.hid (Few_at b B cb nb true w hnb hB hfb)
  have COM := Lib.hid com
  have HA := Lib.hid hA
  have HB := Lib.hid hB
  have HNA := Lib.hid hna
  have HNB := Lib.hid hnb
  have hca : na ≤ ca ∧ ca ≤ 9223372036854775807 := ⟨by have := hA.1; omega, hA.2.1⟩
  have hcb : nb ≤ cb ∧ cb ≤ 9223372036854775807 := ⟨by have := hB.1; omega, hB.2.1⟩
  clear com hA hB hna hnb hfa hfb hm
  go_enter Tryd.func3, Tryd.ntmps3
  go_wp2_with fail
  refine (awake24 _).mono ?_
  rintro e w1 ⟨rfl, d1⟩
  obtain ⟨b0, b1, b2, b3, e1⟩ := boxes2 d1
  clear d1
  go_wp2_with fail
  refine (FA.out _ e1).mono ?_
  rintro e w' ⟨rfl, rfl⟩
  go_wp2_with fail
  refine (FB.out _ e1).mono ?_
  rintro e w' ⟨rfl, rfl⟩
  have k1 : IntKind.i64.wrap ((na : Int) + 1) = (na : Int) + 1 := IntWalk.i64_in _ (by omega)
  have k2 : IntKind.i64.wrap ((nb : Int) + 1) = (nb : Int) + 1 := IntWalk.i64_in _ (by omega)
  have k3 : IntKind.i64.wrap x2 = x2 := IntWalk.i64_in _ (by omega)
  have k4 : IntKind.i64.wrap x3 = x3 := IntWalk.i64_in _ (by omega)
  go_wp2_with fail
  go_quiet (fail)
  clear k1 k2 k3 k4 hp hq
  go_wp2_with fail
  have e5 := e1.drewN nq
  refine (COM.out _ e5).mono ?_
  rintro e w2 ⟨n, rfl, hn1, hn2, hrun, d2⟩
  have g0 := d2.keepc (show (w1.drewN nq).cell? _ = _ from b0)
  have g1 := d2.keepc (show (w1.drewN nq).cell? _ = _ from b1)
  have g2 := d2.keepc (show (w1.drewN nq).cell? _ = _ from b2)
  have g3 := d2.keepc (show (w1.drewN nq).cell? _ = _ from b3)
  have e2 := e5.trans d2
  clear b0 b1 b2 b3 d2 e5 e1
  have hn3 : p + n ≤ na := by have := HNA.out; omega
  have hn4 : q + n ≤ nb := by have := HNB.out; omega
  obtain ⟨k, hk, hkn⟩ : ∃ k : Nat, min (n : Int) x4 = (k : Int) ∧ k ≤ n := ⟨min n x4.toNat, by omega, by omega⟩
  have hs := same_texts hrun hkn hn1 hn2
  have HS := Lib.hid hs
  clear hs hrun hn1 hn2
  have k3 : IntKind.i64.wrap x4 = x4 := IntWalk.i64_in _ (by omega)
  go_wp2_with fail
  clear hk k3 FA FB COM g0 g2
  obtain ⟨A', sa, hA'⟩ := run_slice_part (P := Tryd.prog) (i := p) (j := p + k) 22 Tryd.underlying22 (fun w' => by kernel_rfl) (HA.out.ext e2) HNA.out (by omega) (by omega)
  obtain ⟨B', sb, hB'⟩ := run_slice_part (P := Tryd.prog) (i := q) (j := q + k) 22 Tryd.underlying22 (fun w' => by kernel_rfl) (HB.out.ext e2) HNB.out (by omega) (by omega)
  rw [Int.natCast_add, Nat.add_sub_cancel_left] at sa sb
  rw [Nat.add_sub_cancel_left] at hA' hB'
  have hlA : k = ((a.drop p).take k).length := by simp; have := HNA.out; omega
  have hlB : k = ((b.drop q).take k).length := by simp; have := HNB.out; omega
  have HHA := Lib.hid (fun (w' : World) (h : Ext w2 w') => Hash_n _ A' (ca - p) k w' hlA.symm (hA'.ext h))
  have HHB := Lib.hid (fun (w' : World) (h : Ext w2 w') => Hash_n _ B' (cb - q) k w' hlB.symm (hB'.ext h))
  rw [← HS.out] at HHB
  generalize M.hash (texts ((a.drop p).take k)) = hv at HHA HHB
  have j1 : IntKind.i64.wrap ((p : Int) + (k : Int)) = (p : Int) + (k : Int) := IntWalk.i64_in _ (by omega)
  have j2 : IntKind.i64.wrap ((q : Int) + (k : Int)) = (q : Int) + (k : Int) := IntWalk.i64_in _ (by omega)
  have ho := hA'.2.1
  clear hlA hlB hA' hB'
  obtain ⟨Φ, hΦ⟩ : ∃ Φ : World → Prop, ∀ x, Φ x ↔ Ext w2 x := ⟨_, fun _ => Iff.rfl⟩
  have h0 : Φ w2.drew := (hΦ _).2 (Ext.refl w2).drew
  have fx0 : ∀ x : Lat Φ, x.w'.cell? ⟨w.heap.size, 1, none⟩ = some (.slice A na ca) := fun x => ((hΦ _).1 x.h).keepc g1
  have fx1 : ∀ x : Lat Φ, x.w'.cell? ⟨w.heap.size + 1, 1, none⟩ = some (.slice B nb cb) := fun x => ((hΦ _).1 x.h).keepc g3
  have HΦ := Lib.hid hΦ
  clear hΦ
  have hne := Lat.some h0
  refine wp_region_lat [7, 15] Φ h0 (by kernel_rfl) (by kernel_rfl) (by kernel_rfl) ?_
  repeat (refine lex_pure rfl rfl rfl ?_; intro K hK; go_big_quiet_op; go_big_quiet_on)
  refine lex_eff rfl ?_
  go_wp2_with fail
  refine (HHA.out _ (Ext.refl w2).drew).mono ?_
  rintro e w3 ⟨rfl, d3⟩
  go_wp2_with fail
  have e3 := (Ext.refl w2).drew.trans d3
  refine ⟨⟨⟨w3, (HΦ.out _).2 e3⟩, rfl⟩, ?_⟩
  repeat (refine lex_pure rfl rfl rfl ?_; intro K hK; go_big_quiet_op; go_big_quiet_on)
  refine lex_eff rfl ?_
  go_wp2_with fail
  refine (HHB.out _ e3).mono ?_
  rintro e w4 ⟨rfl, d4⟩
  go_wp2_with fail
  refine ⟨⟨⟨w4, (HΦ.out _).2 (e3.trans d4)⟩, rfl⟩, ?_⟩
  repeat (refine lex_pure rfl rfl rfl ?_; intro K hK; go_big_quiet_op; go_big_quiet_on)
  refine lex_nil ?_
  go_wp2_with fail
  go_ret
  exact ⟨rfl, e2.trans (e3.trans d4)⟩

def textR : Rep (ByteArray × List (ByteArray × Int)) := prodR strR (sliceR lexR)
theorem op24 {H : Type} {enc : TypeId × Value → H} {w : World} : Opens enc Tryd.prog w 24 textR := Opens.struct Tryd.underlying24 (by kernel_rfl) (.cons op9 rfl (.one op22 rfl))
theorem text_val {w : World} {v : Value} {x : ByteArray × List (ByteArray × Int)} (hs : ∃ cs, v = .agg cs) (h : textR.val w x v) :
    ∃ A c, v = .agg #[.string x.1, .slice A x.2.length c] ∧ x.1.size ≤ 9223372036854775807 ∧ SliceAt lexR w (Old w) A c x.2 := by
  obtain ⟨cs, rfl⟩ := hs
  obtain ⟨⟨us, ys, he, ⟨rfl, h1⟩, A, c, rfl, h2⟩, _⟩ := h
  refine ⟨A, c, ?_, h1, h2⟩
  have : cs.toList = [.string x.1, .slice A x.2.length c] := he
  rw [show cs = cs.toList.toArray from Array.toArray_toList.symm, this]
theorem rollingEqual_walk (v0 v1 v2 v3 v4 : Value) (a0 a1 : ByteArray × List (ByteArray × Int)) (a2 a3 a4 m : Int) (w : World) (hm : w.cell? ⟨0, 0, none⟩ = some (.int .i64 m)) (h0 : ∃ cs, v0 = .agg cs) (h1 : ∃ cs, v1 = .agg cs)
    (r0 : textR.val w a0 v0) (r1 : textR.val w a1 v1) (r2 : (intR .u8).val w a2 v2) (r3 : (intR .u8).val w a3 v3) (r4 : (intR .u8).val w a4 v4) : Calls Tryd.prog 3 #[v0, v1, v2, v3, v4] w (Al (.bool true) w) := by
  obtain ⟨A, ca, rfl, hpa, hA⟩ := text_val h0 r0
  obtain ⟨B, cb, rfl, hpb, hB⟩ := text_val h1 r1
  obtain ⟨rfl, w2⟩ := val_int r2
  obtain ⟨rfl, w3⟩ := val_int r3
  obtain ⟨rfl, w4⟩ := val_int r4
  by_cases hc : fewB a0.2 = false ∨ fewB a1.2 = false ∨ 200 < a0.1.size ∨ 200 < a1.1.size
  · exact rollEq_few a0.1 a1.1 a0.2 a1.2 A B ca cb _ _ a2 a3 a4 w rfl rfl hpa hpb hA hB hc
  · have hfa : fewB a0.2 = true := by cases h : fewB a0.2 <;> simp [h] at hc ⊢
    have hfb : fewB a1.2 = true := by cases h : fewB a1.2 <;> simp [h, hfa] at hc ⊢
    rw [hfa, hfb] at hc
    simp at hc
    exact rollEq_main a0.1 a1.1 a0.2 a1.2 A B ca cb _ _ a2 a3 a4 m w rfl rfl hc.1 hc.2 hA hB hfa hfb (wf_u8 w2) (wf_u8 w3) (wf_u8 w4) hm

end Go.Proofs.YtmibpagajenndaaDoor
