/- The walks of RollingJoins and RollingRolls. -/
import Derived.Test.YtmibpagajenndaaJ
namespace Go.Proofs.Ytmibpagajenndaa
open Go.RowKit

theorem Join_is {a b n : Int} (v : Value) (w : World) (h : joinV a b n = v) : Calls Try.prog 28 #[.int .i64 a, .int .i64 b, .int .i64 n] w fun e w' => e = .returned v ∧ w = w' := h ▸ Join_any a b n w
theorem texts_take_drop (l : List (ByteArray × Int)) (i : Nat) : texts l = texts (l.take i) ++ texts (l.drop i) := by
  unfold texts; rw [← List.map_append, List.take_append_drop]
theorem joinV_hash (l : List (ByteArray × Int)) (i : Nat) (hi : i ≤ l.length) (hl : l.length ≤ 8192) :
    joinV (M.hash (texts (l.take i))) (M.hash (texts (l.drop i))) ((l.length : Int) - i) = .tuple #[.int .i64 (M.hash (texts l)), .int .i64 0] := by
  have h1 := M.hash_range (texts (l.take i))
  have h2 := M.hash_range (texts (l.drop i))
  have hlen : (texts (l.drop i)).length = l.length - i := by unfold texts; simp
  unfold joinV
  rw [if_pos (by simp only [joinOk, decide_eq_true_eq]; omega), texts_take_drop l i, M.hash_append, hlen, show ((l.length : Int) - i).toNat = l.length - i by omega]
theorem Hash_nil (A : Option Addr) (c : Nat) (hc : c ≤ 9223372036854775807) (w : World) : Calls Try.prog 29 #[.slice A 0 c] w (Al (.int .i64 0) w) := by
  have := Hash_a [] A c w (SliceAt.nil _ _ _ _ _ hc)
  rw [show M.hash (texts []) = 0 by simp [M.hash, texts]] at this
  exact this

theorem hash_one_text (x : ByteArray × Int) : M.hash (texts [x]) = (M.code x.1.data.toList + 1) % 2305843009213693951 := M.hash_one _

theorem lex_one {w : World} {g : Nat} {S : Nat → Prop} {x : ByteArray × Int} (h0 : w.cell? ⟨g, 0, none⟩ = some (.string x.1)) (h1 : w.cell? ⟨g, 1, none⟩ = some (.int .i64 x.2)) (hg : S g) (hs : x.1.size ≤ 9223372036854775807) (hx : (Lit.int .i64 x.2).wf = true) :
    SliceAt lexR w S (some ⟨g, 0, none⟩) 1 [x] := by
  refine lex_slice hg (Nat.le_refl _) (by omega) fun i hi => ?_
  obtain rfl : i = 0 := by simp at hi; omega
  exact ⟨h0, h1, hs, hx⟩

theorem lex_wf {w : World} {B : Nat → Prop} {b off : Nat} {l : List (ByteArray × Int)} (h : RowAt lexR w B b off l) (i : Nat) (hi : i < l.length) : (Lit.int .i64 l[i].2).wf = true := by
  obtain ⟨us, ⟨x, y, rfl, _, ⟨rfl, hw⟩⟩, _⟩ := h i hi
  exact hw

set_option maxHeartbeats 1000000 in
theorem joins_ne (l : List (ByteArray × Int)) (b off c i : Nat) (a1 : Int) (w : World) (hA : SliceAt lexR w (Old w) (some ⟨b, off, none⟩) c l) (hf : fewB l = true) (h1 : 0 ≤ a1 ∧ a1 ≤ 255) (hi : a1 % ((l.length : Int) + 1) = (i : Int)) (hil : i ≤ l.length) (hne : l ≠ []) :
    Calls Try.prog 6 #[.slice (some ⟨b, off, none⟩) l.length c, .int .u8 a1] w (Al (.bool true) w) := by
  have hl := few_len hf
  have hlc := hA.1
  have hcc := hA.2.1
  have hl0 : 0 < l.length := List.length_pos_iff.2 hne
  have hcut0 := fun (w' : World) (he : Ext w w') => (hA.ext he).cut 0 i (Nat.zero_le _) hil (some ⟨b, off, none⟩) (fun _ b off h => by rw [h, Nat.zero_mul, Nat.add_zero])
  simp only [Nat.sub_zero, List.drop_zero] at hcut0
  have e1 : (l.drop i).take (l.length - i) = l.drop i := List.take_of_length_le (by simp)
  have hcut1 := fun (w' : World) (he : Ext w w') => (hA.ext he).cut i l.length hil (Nat.le_refl _) (some ⟨b, off + i * 2, none⟩) (fun _ b off h => by cases h; rfl)
  simp only [e1] at hcut1
  have hj := joinV_hash l i hil (by omega)
  have hlt : (l.take i).length = i := by simp; omega
  have hld : (l.drop i).length = l.length - i := by simp
  have hrow : ∀ k (h : k < l.length), w.cell? ⟨b, off + k * 2, none⟩ = some (.string l[k].1) ∧ w.cell? ⟨b, off + k * 2 + 1, none⟩ = some (.int .i64 l[k].2) ∧ l[k].1.size ≤ 9223372036854775807 ∧ (Lit.int .i64 l[k].2).wf = true := by
    intro k h
    obtain ⟨b', off', e, _, hr⟩ := hA.2.2 hne
    cases e
    obtain ⟨g1, g2, g3⟩ := lex_cells hr k h
    exact ⟨g1, g2, g3, lex_wf hr k h⟩
  have hb : b < w.heap.size := World.block_lt_of_cell? w ⟨b, _, none⟩ (hrow 0 hl0).1
  have HC0 := Lib.hid hcut0
  have HC1 := Lib.hid hcut1
  have HF := Lib.hid hf
  have HJ := Lib.hid hj
  have HLT := Lib.hid hlt
  have HLD := Lib.hid hld
  have HROW := Lib.hid hrow
  have HA := Lib.hid hA
  clear hcut0 hcut1 e1 hf hj hlt hld hrow hA hne
  by_cases hci : i < c
  · go_enter Try.func6, Try.ntmps6
    go_wp2_with (first | (go_at_call 20; refine (awake24 _).mono ?_; rintro e w1 ⟨rfl, d1⟩) | (go_at_call 27; refine (Few_q l _ _ _ (HA.out.ext d1)).mono ?_; rw [HF.out]; rintro e w' ⟨rfl, rfl⟩))
    have hne1 := Lat.some (Φ := Ext w1) ((Ext.refl w1).drew)
    refine wp_region_lat [3, 7, 12] (Ext w1) ((Ext.refl w1).drew) (by kernel_rfl) (by kernel_rfl) (by kernel_rfl) ?_
    repeat (refine lex_pure rfl rfl rfl ?_; intro K hK; go_big_quiet_op; go_big_quiet_on)
    refine lex_eff rfl ?_
    go_wp2_with (go_at_call 29; refine (Hash_n _ _ _ _ _ HLT.out (HC0.out _ (d1.drew))).mono ?_; rintro e w2 ⟨rfl, d2⟩)
    refine ⟨⟨⟨_, (Ext.refl w1).drew.trans d2⟩, rfl⟩, ?_⟩
    repeat (refine lex_pure rfl rfl rfl ?_; intro K hK; go_big_quiet_op; go_big_quiet_on)
    refine lex_eff rfl ?_
    go_wp2_with (go_at_call 29; refine (Hash_n _ _ _ _ _ HLD.out (HC1.out _ (d1.drew.trans d2))).mono ?_; rintro e w3 ⟨rfl, d3⟩)
    refine ⟨⟨⟨_, ((Ext.refl w1).drew.trans d2).trans d3⟩, rfl⟩, ?_⟩
    repeat (refine lex_pure rfl rfl rfl ?_; intro K hK; go_big_quiet_op; go_big_quiet_on)
    refine lex_eff rfl ?_
    go_wp2_with (go_at_call 28; refine (Join_is _ _ HJ.out).mono ?_; rintro e w' ⟨rfl, rfl⟩)
    refine ⟨⟨⟨_, ((Ext.refl w1).drew.trans d2).trans d3⟩, rfl⟩, ?_⟩
    repeat (refine lex_pure rfl rfl rfl ?_; intro K hK; go_big_quiet_op; go_big_quiet_on)
    refine lex_nil ?_
    have d5 : Ext w w3 := (d1.drew.trans d2).trans d3
    go_wp2_with fail
    refine (Hash_a l _ _ _ (HA.out.ext d5)).mono ?_
    rintro e w4 ⟨rfl, d4⟩
    go_wp2_with fail
    refine (Hash_nil _ _ (by omega) _).mono ?_
    rintro e w6 ⟨rfl, d6⟩
    have d7 : Ext w w6 := (d5.trans d4).trans d6
    go_wp2_with fail
    go_loopw [51] (fun i wr => ∃ k : Nat, k ≤ l.length ∧ i = .int .i64 k ∧ Ext w wr) (fun i _ => l.length - (intOf i).toNat)
    case atStart => exact ⟨0, Nat.zero_le _, rfl, d7⟩
    case round =>
      obtain ⟨k, hk, rfl, hd⟩ := hrel
      by_cases hlt : k < l.length
      · obtain ⟨g0, g1, g2, g3⟩ := HROW.out k hlt
        rw [← hd.cell (p := ⟨b, _, none⟩) hb] at g0
        rw [← hd.cell (p := ⟨b, _, none⟩) hb] at g1
        have hcr := M.code_range l[k].1.data.toList
        have H1 := Lib.hid (hash_one_text l[k])
        have G3 := Lib.hid g3
        clear g3
        go_wp2_with fail
        have hs2 : wr.heap.size < (wr.alloc (.cells #[.string l[k].1, .int .i64 l[k].2] 41)).heap.size := by simp
        obtain ⟨W, hW⟩ : ∃ W, W = wr.alloc (.cells #[.string l[k].1, .int .i64 l[k].2] 41) := ⟨_, rfl⟩
        have f0 : W.cell? ⟨wr.heap.size, 0, none⟩ = some (.string l[k].1) := by rw [hW]; exact cell_new _ _ _ 0
        have f1 : W.cell? ⟨wr.heap.size, 1, none⟩ = some (.int .i64 l[k].2) := by rw [hW]; exact cell_new _ _ _ 1
        have eW : Ext w W := by rw [hW]; exact hd.alloc _
        rw [← hW] at hs2 ⊢
        clear hW
        have fx0 : ∀ x : Lat (Ext W), x.w'.cell? ⟨wr.heap.size, 0, none⟩ = some (.string l[k].1) := fun x => x.h.keepc f0
        have fx1 : ∀ x : Lat (Ext W), x.w'.cell? ⟨wr.heap.size, 1, none⟩ = some (.int .i64 l[k].2) := fun x => x.h.keepc f1
        have hne1 := Lat.some (Φ := Ext W) ((Ext.refl W).drew)
        refine wp_region_lat [1, 2, 5] (Ext W) ((Ext.refl W).drew) (by kernel_rfl) (by kernel_rfl) (by kernel_rfl) ?_
        repeat (refine lex_pure rfl rfl rfl ?_; intro K hK; go_big_quiet_op; go_big_quiet_on)
        refine lex_eff rfl ?_
        go_wp2_with fail
        refine ⟨⟨⟨_, (Ext.refl W).drew.alloc _⟩, rfl⟩, ?_⟩
        refine lex_eff rfl ?_
        go_wp2_with fail
        refine (Hash_n [l[k]] _ _ _ _ rfl (lex_one (x := l[k]) (cell_new _ _ _ 0) (cell_new _ _ _ 1) (by show _ < _; simp) g2 G3.out)).mono ?_
        rw [H1.out]
        rintro e w8 ⟨rfl, d8⟩
        go_wp2_with fail
        refine ⟨⟨⟨_, ((Ext.refl W).drew.alloc _).trans d8⟩, rfl⟩, ?_⟩
        repeat (refine lex_pure rfl rfl rfl ?_; intro K hK; go_big_quiet_op; go_big_quiet_on)
        refine lex_eff rfl ?_
        go_wp2_with fail
        refine (code_q _ _ g2).mono ?_
        rintro e w9 ⟨rfl, d9⟩
        go_wp2_with fail
        refine ⟨⟨⟨_, (((Ext.refl W).drew.alloc _).trans d8).dr d9⟩, rfl⟩, ?_⟩
        repeat (refine lex_pure rfl rfl rfl ?_; intro K hK; go_big_quiet_op; go_big_quiet_on)
        refine lex_nil ?_
        go_wp2_with fail
        go_roundw
        case rel => exact ⟨k + 1, by omega, by go_num, ((eW.drew.alloc _).trans d8).dr d9⟩
        case measure => simp [intOf]; omega
      · go_wp2_with fail
        go_ret
        exact ⟨rfl, hd⟩
  · obtain rfl : i = l.length := by omega
    obtain rfl : c = l.length := by omega
    have HLD2 := Lib.hid (show M.hash (texts (l.drop l.length)) = 0 by simp [M.hash, texts])
    have HJ := Lib.hid (show joinV (M.hash (texts l)) 0 0 = .tuple #[.int .i64 (M.hash (texts l)), .int .i64 0] by have := HJ.out; rwa [HLD2.out, List.take_length, Int.sub_self] at this)
    go_enter Try.func6, Try.ntmps6
    go_wp2_with (first | (go_at_call 20; refine (awake24 _).mono ?_; rintro e w1 ⟨rfl, d1⟩) | (go_at_call 27; refine (Few_q l _ _ _ (HA.out.ext d1)).mono ?_; rw [HF.out]; rintro e w' ⟨rfl, rfl⟩))
    have hne1 := Lat.some (Φ := Ext w1) ((Ext.refl w1).drew)
    refine wp_region_lat [3, 7, 12] (Ext w1) ((Ext.refl w1).drew) (by kernel_rfl) (by kernel_rfl) (by kernel_rfl) ?_
    repeat (refine lex_pure rfl rfl rfl ?_; intro K hK; go_big_quiet_op; go_big_quiet_on)
    refine lex_eff rfl ?_
    go_wp2_with (go_at_call 29; refine (Hash_n _ _ _ _ _ HLT.out (HC0.out _ (d1.drew))).mono ?_; rintro e w2 ⟨rfl, d2⟩)
    refine ⟨⟨⟨_, (Ext.refl w1).drew.trans d2⟩, rfl⟩, ?_⟩
    repeat (refine lex_pure rfl rfl rfl ?_; intro K hK; go_big_quiet_op; go_big_quiet_on)
    refine lex_eff rfl ?_
    go_wp2_with (go_at_call 29; refine (Hash_nil _ _ (by omega) _).mono ?_; rintro e w3 ⟨rfl, d3⟩)
    refine ⟨⟨⟨_, ((Ext.refl w1).drew.trans d2).trans d3⟩, rfl⟩, ?_⟩
    repeat (refine lex_pure rfl rfl rfl ?_; intro K hK; go_big_quiet_op; go_big_quiet_on)
    refine lex_eff rfl ?_
    go_wp2_with (go_at_call 28; refine (Join_is _ _ HJ.out).mono ?_; rintro e w' ⟨rfl, rfl⟩)
    refine ⟨⟨⟨_, ((Ext.refl w1).drew.trans d2).trans d3⟩, rfl⟩, ?_⟩
    repeat (refine lex_pure rfl rfl rfl ?_; intro K hK; go_big_quiet_op; go_big_quiet_on)
    refine lex_nil ?_
    have d5 : Ext w w3 := (d1.drew.trans d2).trans d3
    go_wp2_with fail
    refine (Hash_a l _ _ _ (HA.out.ext d5)).mono ?_
    rintro e w4 ⟨rfl, d4⟩
    go_wp2_with fail
    refine (Hash_nil _ _ (by omega) _).mono ?_
    rintro e w6 ⟨rfl, d6⟩
    have d7 : Ext w w6 := (d5.trans d4).trans d6
    go_wp2_with fail
    go_loopw [51] (fun i wr => ∃ k : Nat, k ≤ l.length ∧ i = .int .i64 k ∧ Ext w wr) (fun i _ => l.length - (intOf i).toNat)
    case atStart => exact ⟨0, Nat.zero_le _, rfl, d7⟩
    case round =>
      obtain ⟨k, hk, rfl, hd⟩ := hrel
      by_cases hlt : k < l.length
      · obtain ⟨g0, g1, g2, g3⟩ := HROW.out k hlt
        rw [← hd.cell (p := ⟨b, _, none⟩) hb] at g0
        rw [← hd.cell (p := ⟨b, _, none⟩) hb] at g1
        have hcr := M.code_range l[k].1.data.toList
        have H1 := Lib.hid (hash_one_text l[k])
        have G3 := Lib.hid g3
        clear g3
        go_wp2_with fail
        have hs2 : wr.heap.size < (wr.alloc (.cells #[.string l[k].1, .int .i64 l[k].2] 41)).heap.size := by simp
        obtain ⟨W, hW⟩ : ∃ W, W = wr.alloc (.cells #[.string l[k].1, .int .i64 l[k].2] 41) := ⟨_, rfl⟩
        have f0 : W.cell? ⟨wr.heap.size, 0, none⟩ = some (.string l[k].1) := by rw [hW]; exact cell_new _ _ _ 0
        have f1 : W.cell? ⟨wr.heap.size, 1, none⟩ = some (.int .i64 l[k].2) := by rw [hW]; exact cell_new _ _ _ 1
        have eW : Ext w W := by rw [hW]; exact hd.alloc _
        rw [← hW] at hs2 ⊢
        clear hW
        have fx0 : ∀ x : Lat (Ext W), x.w'.cell? ⟨wr.heap.size, 0, none⟩ = some (.string l[k].1) := fun x => x.h.keepc f0
        have fx1 : ∀ x : Lat (Ext W), x.w'.cell? ⟨wr.heap.size, 1, none⟩ = some (.int .i64 l[k].2) := fun x => x.h.keepc f1
        have hne1 := Lat.some (Φ := Ext W) ((Ext.refl W).drew)
        refine wp_region_lat [1, 2, 5] (Ext W) ((Ext.refl W).drew) (by kernel_rfl) (by kernel_rfl) (by kernel_rfl) ?_
        repeat (refine lex_pure rfl rfl rfl ?_; intro K hK; go_big_quiet_op; go_big_quiet_on)
        refine lex_eff rfl ?_
        go_wp2_with fail
        refine ⟨⟨⟨_, (Ext.refl W).drew.alloc _⟩, rfl⟩, ?_⟩
        refine lex_eff rfl ?_
        go_wp2_with fail
        refine (Hash_n [l[k]] _ _ _ _ rfl (lex_one (x := l[k]) (cell_new _ _ _ 0) (cell_new _ _ _ 1) (by show _ < _; simp) g2 G3.out)).mono ?_
        rw [H1.out]
        rintro e w8 ⟨rfl, d8⟩
        go_wp2_with fail
        refine ⟨⟨⟨_, ((Ext.refl W).drew.alloc _).trans d8⟩, rfl⟩, ?_⟩
        repeat (refine lex_pure rfl rfl rfl ?_; intro K hK; go_big_quiet_op; go_big_quiet_on)
        refine lex_eff rfl ?_
        go_wp2_with fail
        refine (code_q _ _ g2).mono ?_
        rintro e w9 ⟨rfl, d9⟩
        go_wp2_with fail
        refine ⟨⟨⟨_, (((Ext.refl W).drew.alloc _).trans d8).dr d9⟩, rfl⟩, ?_⟩
        repeat (refine lex_pure rfl rfl rfl ?_; intro K hK; go_big_quiet_op; go_big_quiet_on)
        refine lex_nil ?_
        go_wp2_with fail
        go_roundw
        case rel => exact ⟨k + 1, by omega, by go_num, ((eW.drew.alloc _).trans d8).dr d9⟩
        case measure => simp [intOf]; omega
      · go_wp2_with fail
        go_ret
        exact ⟨rfl, hd⟩

theorem Few_is (l : List (ByteArray × Int)) (A : Option Addr) (c : Nat) (bb : Bool) (w : World) (hA : SliceAt lexR w (Old w) A c l) (h : fewB l = bb) :
    Calls Try.prog 27 #[.slice A l.length c] w fun e w' => e = .returned (.bool bb) ∧ w = w' := h ▸ Few_q l A c w hA

theorem Few_nil (A : Option Addr) (c : Nat) (hc : c ≤ 9223372036854775807) (w : World) :
    Calls Try.prog 27 #[.slice A 0 c] w fun e w' => e = .returned (.bool true) ∧ w = w' := by
  have := Few_q [] A c w (SliceAt.nil _ _ _ _ _ hc)
  rwa [show fewB [] = true by simp [fewB]] at this
set_option maxHeartbeats 400000 in
theorem joins_nil (A : Option Addr) (c : Nat) (a1 : Int) (w : World) (hc : c ≤ 9223372036854775807) (h1 : 0 ≤ a1 ∧ a1 ≤ 255) :
    Calls Try.prog 6 #[.slice A 0 c, .int .u8 a1] w (Al (.bool true) w) := by
  have hj := Lib.hid (joinV_hash [] 0 (Nat.le_refl _) (by simp))
  have hm0 : a1 % 1 = 0 := by omega
  have hz := Lib.hid (show M.hash (texts []) = 0 by simp [M.hash, texts])
  have HJ := Lib.hid (show joinV 0 0 0 = .tuple #[.int .i64 0, .int .i64 0] by have := hj.out; simp only [List.take_nil, List.drop_nil, hz.out] at this; exact this)
  clear hj
  rcases Nat.eq_zero_or_pos c with rfl | hc0
  all_goals
    go_enter Try.func6, Try.ntmps6
    go_wp2_with (first | (go_at_call 20; refine (awake24 _).mono ?_; rintro e w1 ⟨rfl, d1⟩) | (go_at_call 27; refine (Few_nil _ _ (by omega) _).mono ?_; rintro e w' ⟨rfl, rfl⟩))
    have hne1 := Lat.some (Φ := Ext w1) ((Ext.refl w1).drew)
    refine wp_region_lat [3, 7, 12] (Ext w1) ((Ext.refl w1).drew) (by kernel_rfl) (by kernel_rfl) (by kernel_rfl) ?_
    repeat (refine lex_pure rfl rfl rfl ?_; intro K hK; go_big_quiet_op; go_big_quiet_on)
    refine lex_eff rfl ?_
    go_wp2_with (go_at_call 29; refine (Hash_nil _ _ (by omega) _).mono ?_; rintro e w2 ⟨rfl, d2⟩)
    refine ⟨⟨⟨_, (Ext.refl w1).drew.trans d2⟩, rfl⟩, ?_⟩
    repeat (refine lex_pure rfl rfl rfl ?_; intro K hK; go_big_quiet_op; go_big_quiet_on)
    refine lex_eff rfl ?_
    go_wp2_with (go_at_call 29; refine (Hash_nil _ _ (by omega) _).mono ?_; rintro e w3 ⟨rfl, d3⟩)
    refine ⟨⟨⟨_, ((Ext.refl w1).drew.trans d2).trans d3⟩, rfl⟩, ?_⟩
    repeat (refine lex_pure rfl rfl rfl ?_; intro K hK; go_big_quiet_op; go_big_quiet_on)
    refine lex_eff rfl ?_
    go_wp2_with (go_at_call 28; refine (Join_is _ _ HJ.out).mono ?_; rintro e w' ⟨rfl, rfl⟩)
    refine ⟨⟨⟨_, ((Ext.refl w1).drew.trans d2).trans d3⟩, rfl⟩, ?_⟩
    repeat (refine lex_pure rfl rfl rfl ?_; intro K hK; go_big_quiet_op; go_big_quiet_on)
    refine lex_nil ?_
    have d5 : Ext w w3 := (d1.drew.trans d2).trans d3
    go_wp2_with fail
    refine (Hash_nil _ _ (by omega) _).mono ?_
    rintro e w4 ⟨rfl, d4⟩
    go_wp2_with fail
    refine (Hash_nil _ _ (by omega) _).mono ?_
    rintro e w6 ⟨rfl, d6⟩
    have d7 : Ext w w6 := (d5.trans d4).trans d6
    go_wp2_with fail
    refine wp_loop_rounds 1 ?_
    rw [rounds_succ]
    go_wp2_with fail
    go_ret
    exact ⟨rfl, d7⟩

theorem rollingJoins_walk (v0 v1 : Value) (a0 : List (ByteArray × Int)) (a1 : Int) {w : World} (r0 : (sliceR lexR).val w a0 v0) (r1 : (intR .u8).val w a1 v1) :
    Calls Try.prog 6 #[v0, v1] w (Al (.bool true) w) := by
  obtain ⟨A, c, rfl, hA⟩ := val_slice r0
  obtain ⟨rfl, h1⟩ := val_int r1
  have h1 := wf_u8 h1
  by_cases hl : a0 = []
  · subst hl
    exact joins_nil A c a1 w hA.2.1 h1
  · obtain ⟨b, off, rfl, _⟩ := hA.2.2 hl
    by_cases hf : fewB a0 = true
    · have hp : (0 : Int) < (a0.length : Int) + 1 := by omega
      have g0 := Int.emod_nonneg a1 (show (a0.length : Int) + 1 ≠ 0 by omega)
      have g1 := Int.emod_lt_of_pos a1 hp
      exact joins_ne a0 b off c (a1 % ((a0.length : Int) + 1)).toNat a1 w hA hf h1 (by omega) (by omega) hl
    · have hf' : fewB a0 = false := by simpa using hf
      go_enter Try.func6, Try.ntmps6
      go_wp2_with (first | (go_at_call 20; refine (awake24 _).mono ?_; rintro e w1 ⟨rfl, d1⟩) | (go_at_call 27; refine (Few_is a0 _ _ false _ (hA.ext d1) hf').mono ?_; rintro e w' ⟨rfl, rfl⟩))
      go_ret
      exact ⟨rfl, d1⟩

end Go.Proofs.Ytmibpagajenndaa
