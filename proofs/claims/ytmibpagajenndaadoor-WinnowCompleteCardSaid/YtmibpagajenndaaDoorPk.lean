/- Prints, Guarantee and their references. -/
import Derived.Test.YtmibpagajenndaaDoorPj
namespace Go.Proofs.YtmibpagajenndaaDoor
open Go.RowKit

theorem print_info : (Tryd.prog.info? 38).map (fun i => (i.zero, i.size, i.bytes)) = some (some (.agg #[.int .i64 0, .int .i64 0]), 2, 16) := by kernel_rfl
/-- A slice of the call's own holds these fingerprints. -/
def OwnPrs (w : World) (base : Nat) (v : Value) (l : List (Int × Int)) : Prop := OwnAt w base 38 2 v l.length (pcells l)
theorem own_prs_nil (w : World) (b : Nat) : OwnPrs w b (.slice none 0 0) [] := OwnAt.nil _ _ _ _
theorem cells_new_print (w : World) (x y : Int) : ∀ j u, (pcells [(x, y)])[j]? = some u → (w.alloc (.cells #[.int .i64 x, .int .i64 y] 38)).cell? ((⟨w.heap.size, 0, none⟩ : Addr).add j) = some u := by
  intro j u hj
  rw [Addr.add_lit, Nat.zero_add, cell_new, ← hj]
  simp [pcells]
theorem own_prs_empty {w0 w : World} (h : Ext w0 w) : OwnPrs (w.alloc (.cells #[] 38)) w0.heap.size (.slice (some ⟨w.heap.size, 0, none⟩) 0 0) [] :=
  ⟨by simp [pcells], .inr ⟨w.heap.size, 0, 0, #[], rfl, h.size, heap_alloc_new _ _, Nat.le_refl _, by omega, by simp, fun j hj => by simp at hj⟩⟩
theorem own_prs_snoc {w : World} {base : Nat} {v : Value} {l : List (Int × Int)} {x y : Int} {n : Nat} (hn : n = l.length) (h : OwnAt w base 38 2 v (n + 1) (pcells l ++ pcells [(x, y)])) : OwnPrs w base v (l ++ [(x, y)]) := by
  subst hn
  unfold OwnPrs
  rw [List.length_append, pcells_append]
  exact h
/-- It returns fingerprints of the call's own, and e. -/
def RetPrs (w : World) (L : List (Int × Int)) (er : Int) (e : Ending) (w' : World) : Prop := ∃ v, e = .returned (.tuple #[v, .int .i64 er]) ∧ OwnPrs w' w.heap.size v L ∧ Ext w w'
/-- The fingerprints at the first places. -/
def prl (g S : List Int) (n : Nat) : List (Int × Int) := (S.take n).map fun i => (gt g i.toNat, i)
theorem prl_zero (g S : List Int) : prl g S 0 = [] := by simp [prl]
theorem prl_succ (g S : List Int) (n : Nat) (h : n < S.length) : prl g S (n + 1) = prl g S n ++ [(gt g (gt S n).toNat, gt S n)] := by
  unfold prl
  rw [List.take_succ_eq_append_getElem h, List.map_append, gt_get S n h]
  rfl
theorem prl_len (g S : List Int) (n : Nat) (h : n ≤ S.length) : (prl g S n).length = n := by unfold prl; simp; omega
theorem sel_in (g : List Int) (q : Int) (j : Nat) (h : j < (selL g q).length) : 0 ≤ gt (selL g q) j ∧ gt (selL g q) j < g.length := by
  unfold selL at h ⊢
  by_cases hq : okW q = true
  · rw [if_pos hq] at h ⊢
    have hq' : 1 ≤ q ∧ q ≤ 1024 := by simpa [okW] using hq
    by_cases hg : q.toNat ≤ g.length
    · obtain ⟨M, hM⟩ : ∃ M, g.length + 1 - q.toNat = M + 1 := ⟨g.length - q.toNat, by omega⟩
      rw [hM] at h ⊢
      have := (selFacts g q.toNat M (by omega)).range j h
      omega
    · rw [show g.length + 1 - q.toNat = 0 by omega, selI_zero] at h
      simp at h
  · rw [if_neg hq] at h
    simp at h
theorem sel_le (g : List Int) (q : Int) : (selL g q).length ≤ g.length := by
  unfold selL
  split
  · rename_i hq
    have hq' : 1 ≤ q ∧ q ≤ 1024 := by simpa [okW] using hq
    have := selI_len g q.toNat (g.length + 1 - q.toNat) (by omega)
    omega
  · simp
theorem grams_le (l : List (ByteArray × Int)) (k : Int) : (gramsL l k).length ≤ l.length := by
  unfold gramsL
  split
  · rw [grams_length]; omega
  · simp
/-- What Prints gives. -/
def fpL (l : List (ByteArray × Int)) (k q : Int) : List (Int × Int) := prl (gramsL l k) (selL (gramsL l k) q) (selL (gramsL l k) q).length
def printsL (t okk okq : Bool) (l : List (ByteArray × Int)) (k q : Int) : List (Int × Int) := if t && okk && okq then fpL l k q else []
def printsE (t okk okq : Bool) : Int := if t then (if okk && okq then 0 else 3) else 1
theorem size_at (n : Int) (w : World) : Calls Tryd.prog 25 #[.int .i64 n] w fun e w' => e = .returned (.bool (okW n)) ∧ w = w' := size_any n w
theorem right_at (n : Int) (w : World) : Calls Tryd.prog 28 #[.int .i64 n] w fun e w' => e = .returned (.bool (okW n)) ∧ w = w' := right_any n w
theorem ints_gt {w : World} {A : Option Addr} {n : Nat} {l : List Int} (h : IntsAt w A n l) : (∀ j, j < n → ∃ b off, A = some ⟨b, off, none⟩ ∧ ∀ w', Ext w w' → w'.cell? ⟨b, off + j, none⟩ = some (.int .i64 (gt l j))) := by
  intro j hj
  obtain ⟨b, off, hA, hc⟩ := h.gcell (by omega)
  exact ⟨b, off, hA, fun w' he => he.keepc (hc j hj)⟩

set_option maxRecDepth 8000 in
set_option maxHeartbeats 1000000 in
theorem Prints_main (p : ByteArray) (l : List (ByteArray × Int)) (A : Option Addr) (c n : Nat) (k q m : Int) (w : World) (hn : n = l.length) (hp : p.size ≤ 1000000) (hA : SliceAt lexR w (Old w) A c l) (hl : n ≤ 8192) (hw : ∀ x ∈ l, x.1.size ≤ 9000000) (hm : w.cell? ⟨0, 0, none⟩ = some (.int .i64 m))
    (ht : textB p l = true) (hk : okW k = true) (hq : okW q = true) :
    Calls Tryd.prog 11 #[.agg #[.string p, .slice A n c], .int .i64 k, .int .i64 q] w (RetPrs w (fpL l k q) 0) := by
  obtain ⟨i0, hi, hz0, hz1, hz2⟩ := info_parts print_info
  have HV := Lib.hid (fun w' (h : Ext w w') => ht ▸ Valid_any p l A c n m w' hn hp (hA.ext h) hl hw (h.keepc hm))
  have HK := Lib.hid (fun w' => hk ▸ size_at k w')
  have HQ := Lib.hid (fun w' => hq ▸ size_at q w')
  have hk2 : 1 ≤ k ∧ k ≤ 1024 := by simpa [okW] using hk
  have ge0 : gramsE k = 0 := if_pos (by omega)
  have se0 : selE q = 0 := if_pos hq
  have hgl := grams_le l k
  have hsl := sel_le (gramsL l k) q
  have hin := sel_in (gramsL l k) q
  have HG := Lib.hid (fun w' (h : Ext w w') => hn ▸ ge0 ▸ Grams_any l A c k w' (hA.ext h) (by omega))
  have hF : Hid (fpL l k q = prl (gramsL l k) (selL (gramsL l k) q) (selL (gramsL l k) q).length) := rfl
  have HS := Lib.hid (fun B d w' (h : IntsAt w' B (gramsL l k).length (gramsL l k)) => se0 ▸ Select_any (gramsL l k) B d (gramsL l k).length q w' h (by omega))
  generalize selL (gramsL l k) q = S at hF HS hsl hin
  generalize gramsL l k = G at hF HS hsl hin HG hgl
  generalize fpL l k q = F at hF ⊢
  rw [← hn] at hgl
  have HIN := Lib.hid hin
  obtain ⟨ns, hns⟩ : ∃ ns, ns = S.length := ⟨_, rfl⟩
  obtain ⟨ng, hng⟩ : ∃ ng, ng = G.length := ⟨_, rfl⟩
  rw [← hng] at HS hgl hsl
  rw [← hns] at hF hsl
  have HNS := Lib.hid hns
  have HNG := Lib.hid hng
  clear ht hA hw hm hk hq ge0 se0 hin hn hns hng
  go_enter Tryd.func11, Tryd.ntmps11
  go_wp2_with fail
  refine (HV.out _ ((Ext.refl w).alloc _)).mono ?_
  rintro e w1 ⟨rfl, d1⟩
  have b1 : w1.cell? ⟨w.heap.size, 1, none⟩ = some (.slice A n c) := d1.keepc (cell_new w #[.string p, .slice A n c] 24 1)
  have e1 : Ext w w1 := ((Ext.refl w).alloc _).trans d1
  clear d1
  go_wp2_with fail
  refine (HK.out _).mono ?_
  rintro e w' ⟨rfl, rfl⟩
  go_wp2_with fail
  refine (HQ.out _).mono ?_
  rintro e w' ⟨rfl, rfl⟩
  go_wp2_with fail
  refine (HG.out _ e1).mono ?_
  rintro e w2 ⟨v2, rfl, o2, d2⟩
  obtain ⟨A2, c2, rfl, i2⟩ := IntsAt.of_own o2
  rw [← HNG.out] at i2 ⊢
  have e2 := e1.trans d2
  clear o2 d2 b1
  go_wp2_with fail
  refine (HS.out A2 c2 w2 i2).mono ?_
  rintro e w3 ⟨v3, rfl, o3, d3⟩
  obtain ⟨A3, c3, rfl, i3⟩ := IntsAt.of_own o3
  rw [← HNS.out] at i3 ⊢
  have i2' := i2.ext d3
  have e3 := e2.trans d3
  have G2 := Lib.hid (ints_gt i2')
  have G3 := Lib.hid (ints_gt i3)
  clear o3 d3 i2 i2' i3
  go_wp2_with fail
  go_loopw [11, 48] (fun v i wr => ∃ j : Nat, j ≤ ns ∧ i = .int .i64 j ∧ OwnPrs wr w3.heap.size v (prl G S j) ∧ Ext w3 wr) (fun _ i _ => ns - (intOf i).toNat)
  case atStart => exact ⟨0, Nat.zero_le _, rfl, by rw [prl_zero]; exact own_prs_nil _ _, Ext.refl _⟩
  case round =>
    obtain ⟨j, hj, rfl, hown, hd⟩ := hrel
    by_cases hlt : j < ns
    · obtain ⟨bs, os, rfl, hcs⟩ := G3.out j hlt
      obtain ⟨hi0, hi1⟩ := HIN.out j (by rw [← HNS.out]; exact hlt)
      obtain ⟨bg, og, rfl, hcg⟩ := G2.out (gt S j).toNat (by rw [HNG.out]; omega)
      have cs := hcs wr hd
      have cg := hcg wr hd
      have hsucc := Lib.hid (prl_succ G S j (by rw [← HNS.out]; exact hlt))
      have hpl := prl_len G S j (by rw [← HNS.out]; omega)
      have HPL := Lib.hid hpl
      rw [← HNG.out] at hi1
      unfold OwnPrs at hown
      rw [hpl] at hown
      clear hcs hcg hpl
      generalize gt S j = at' at hi0 hi1 cs cg hsucc
      generalize gt G at'.toNat = gv at cg hsucc
      have HBS : Hid (w3.heap.size ≤ (wr.alloc (.cells #[.int .i64 gv, .int .i64 at'] 38)).heap.size) := Nat.le_trans hd.size ((Ext.refl wr).alloc _).size
      go_wp2_with (at_builtin; refine wpList_append_ownAt _ rfl (.tmp 52) (.tmp 59) 30 rfl w3.heap.size 38 i0 (.agg #[.int .i64 0, .int .i64 0]) 2 16 Tryd.underlying30 hi hz0 hz1 hz2 rfl (by decide) _ _ _ rfl (hown.alloc _) ⟨wr.heap.size, 0, none⟩ 1 1 (pcells [(gv, at')]) rfl rfl (cells_new_print wr _ _) (pcells_one _) (by unfold maxLen; omega) (by omega) HBS.out (by decide) ?_; intro v4 w4 hown4 hg4 _ _)
      go_roundw
      case rel => exact ⟨j + 1, by omega, by go_num, by rw [hsucc.out]; exact own_prs_snoc HPL.out.symm hown4, (hd.alloc _).grown hown hg4⟩
      case measure => simp [intOf]; omega
    · have hjn : j = ns := by omega
      go_wp2_with fail
      go_ret2
      exact ⟨_, rfl, by rw [hF.out, ← hjn]; exact OwnAt.mono hown e3.size, e3.trans hd⟩

set_option maxRecDepth 8000 in
set_option maxHeartbeats 1000000 in
theorem refPrints_main (p : ByteArray) (l : List (ByteArray × Int)) (A : Option Addr) (c n : Nat) (k q : Int) (w : World) (hn : n = l.length) (hp : p.size ≤ 1000000) (hA : SliceAt lexR w (Old w) A c l) (hl : n ≤ 8192) (hw : ∀ x ∈ l, x.1.size ≤ 9000000)
    (ht : textB p l = true) (hk : okW k = true) (hq : okW q = true) :
    Calls Tryd.prog 12 #[.agg #[.string p, .slice A n c], .int .i64 k, .int .i64 q] w (RetPrs w (fpL l k q) 0) := by
  obtain ⟨i0, hi, hz0, hz1, hz2⟩ := info_parts print_info
  have HV := Lib.hid (fun w' (h : Ext w w') => ht ▸ refValid_any p l A c n w' hn hp (hA.ext h) hl hw)
  have HK := Lib.hid (fun w' => hk ▸ right_at k w')
  have HQ := Lib.hid (fun w' => hq ▸ right_at q w')
  have hk2 : 1 ≤ k ∧ k ≤ 1024 := by simpa [okW] using hk
  have ge0 : gramsE k = 0 := if_pos (by omega)
  have se0 : selE q = 0 := if_pos hq
  have hgl := grams_le l k
  have hsl := sel_le (gramsL l k) q
  have hin := sel_in (gramsL l k) q
  have HG := Lib.hid (fun w' (h : Ext w w') => hn ▸ ge0 ▸ refGrams_any l A c k w' (hA.ext h) (by omega))
  have hF : Hid (fpL l k q = prl (gramsL l k) (selL (gramsL l k) q) (selL (gramsL l k) q).length) := rfl
  have HS := Lib.hid (fun B d w' (h : IntsAt w' B (gramsL l k).length (gramsL l k)) => se0 ▸ refSelect_any (gramsL l k) B d (gramsL l k).length q w' h (by omega))
  generalize selL (gramsL l k) q = S at hF HS hsl hin
  generalize gramsL l k = G at hF HS hsl hin HG hgl
  generalize fpL l k q = F at hF ⊢
  rw [← hn] at hgl
  have HIN := Lib.hid hin
  obtain ⟨ns, hns⟩ : ∃ ns, ns = S.length := ⟨_, rfl⟩
  obtain ⟨ng, hng⟩ : ∃ ng, ng = G.length := ⟨_, rfl⟩
  rw [← hng] at HS hgl hsl
  rw [← hns] at hF hsl
  have HNS := Lib.hid hns
  have HNG := Lib.hid hng
  clear ht hA hw hk hq ge0 se0 hin hn hns hng
  go_enter Tryd.func12, Tryd.ntmps12
  go_wp2_with fail
  refine (HV.out _ ((Ext.refl w).alloc _)).mono ?_
  rintro e w1 ⟨rfl, d1⟩
  have b1 : w1.cell? ⟨w.heap.size, 1, none⟩ = some (.slice A n c) := d1.keepc (cell_new w #[.string p, .slice A n c] 24 1)
  have e1 : Ext w w1 := ((Ext.refl w).alloc _).trans d1
  clear d1
  go_wp2_with fail
  refine (HK.out _).mono ?_
  rintro e w' ⟨rfl, rfl⟩
  go_wp2_with fail
  refine (HQ.out _).mono ?_
  rintro e w' ⟨rfl, rfl⟩
  go_wp2_with fail
  refine (HG.out _ e1).mono ?_
  rintro e w2 ⟨v2, rfl, o2, d2⟩
  obtain ⟨A2, c2, rfl, i2⟩ := IntsAt.of_own o2
  rw [← HNG.out] at i2 ⊢
  have e2 := e1.trans d2
  clear o2 d2 b1
  go_wp2_with fail
  refine (HS.out A2 c2 w2 i2).mono ?_
  rintro e w3 ⟨v3, rfl, o3, d3⟩
  obtain ⟨A3, c3, rfl, i3⟩ := IntsAt.of_own o3
  rw [← HNS.out] at i3 ⊢
  have i2' := i2.ext d3
  have e3 := e2.trans d3
  have G2 := Lib.hid (ints_gt i2')
  have G3 := Lib.hid (ints_gt i3)
  clear o3 d3 i2 i2' i3
  go_wp2_with fail
  have hemp := own_prs_empty (Ext.refl w3)
  have HEMP := Lib.hid hemp
  clear hemp
  go_loopw [12, 13] (fun v i wr => ∃ j : Nat, j ≤ ns ∧ i = .int .i64 j ∧ OwnPrs wr w3.heap.size v (prl G S j) ∧ Ext w3 wr) (fun _ i _ => ns - (intOf i).toNat)
  case atStart => exact ⟨0, Nat.zero_le _, rfl, by rw [prl_zero]; exact HEMP.out, (Ext.refl w3).alloc _⟩
  case round =>
    obtain ⟨j, hj, rfl, hown, hd⟩ := hrel
    by_cases hlt : j < ns
    · obtain ⟨bs, os, rfl, hcs⟩ := G3.out j hlt
      obtain ⟨hi0, hi1⟩ := HIN.out j (by rw [← HNS.out]; exact hlt)
      obtain ⟨bg, og, rfl, hcg⟩ := G2.out (gt S j).toNat (by rw [HNG.out]; omega)
      have hsucc := Lib.hid (prl_succ G S j (by rw [← HNS.out]; exact hlt))
      have hpl := prl_len G S j (by rw [← HNS.out]; omega)
      have HPL := Lib.hid hpl
      rw [← HNG.out] at hi1
      unfold OwnPrs at hown
      rw [hpl] at hown
      have HCS := Lib.hid hcs
      have HCG := Lib.hid hcg
      clear hcs hcg hpl
      generalize gt S j = at' at hi0 hi1 HCS HCG hsucc
      generalize gt G at'.toNat = gv at HCG hsucc
      have HBS : Hid (w3.heap.size ≤ (wr.drew.alloc (.cells #[.int .i64 gv, .int .i64 at'] 38)).heap.size) := Nat.le_trans hd.size ((Ext.refl wr).drew.alloc _).size
      go_wp2_with fail
      obtain ⟨Φ, hΦ⟩ : ∃ Φ : World → Prop, ∀ x, Φ x ↔ Ext w3 x := ⟨_, fun _ => Iff.rfl⟩
      have h0 : Φ wr.drew := (hΦ _).2 hd.drew
      have fx0 : ∀ x : Lat Φ, x.w'.cell? ⟨bs, os + j, none⟩ = some (.int .i64 at') := fun x => HCS.out _ ((hΦ _).1 x.h)
      have fx1 : ∀ x : Lat Φ, x.w'.cell? ⟨bg, og + at'.toNat, none⟩ = some (.int .i64 gv) := fun x => HCG.out _ ((hΦ _).1 x.h)
      have HΦ := Lib.hid hΦ
      have hne := Lat.some h0
      clear hΦ
      refine wp_region_lat [13, 14] Φ h0 (by kernel_rfl) (by kernel_rfl) (by kernel_rfl) ?_
      repeat (refine lex_pure rfl rfl rfl ?_; intro K hK; go_big_quiet_op; go_big_quiet_on)
      refine lex_eff rfl ?_
      go_wp2_with fail
      refine ⟨⟨⟨_, (HΦ.out _).2 (hd.drew.alloc _)⟩, rfl⟩, ?_⟩
      refine lex_eff rfl ?_
      refine wpList_append_ownAt _ rfl (.tmp 45) (.tmp 58) 30 rfl w3.heap.size 38 i0 (.agg #[.int .i64 0, .int .i64 0]) 2 16 Tryd.underlying30 hi hz0 hz1 hz2 rfl (by decide) _ _ _ rfl ((hown.dr ⟨1, rfl⟩).alloc _) ⟨wr.heap.size, 0, none⟩ 1 1 (pcells [(gv, at')]) rfl rfl (cells_new_print wr.drew _ _) (pcells_one _) (by unfold maxLen; omega) (by omega) HBS.out (by decide) ?_
      intro v4 w4 hown4 hg4 _ _
      have e4 : Ext w3 w4 := (hd.drew.alloc _).grown hown hg4
      go_wp2_with fail
      refine ⟨⟨⟨_, (HΦ.out _).2 e4⟩, rfl⟩, ?_⟩
      repeat (refine lex_pure rfl rfl rfl ?_; intro K hK; go_big_quiet_op; go_big_quiet_on)
      refine lex_nil ?_
      go_wp2_with fail
      go_roundw
      case rel => exact ⟨j + 1, by omega, by go_num, by rw [hsucc.out]; exact own_prs_snoc HPL.out.symm hown4, e4⟩
      case measure => simp [intOf]; omega
    · have hjn : j = ns := by omega
      go_wp2_with fail
      go_ret2
      exact ⟨_, rfl, by rw [hF.out, ← hjn]; exact OwnAt.mono hown e3.size, e3.trans hd⟩

end Go.Proofs.YtmibpagajenndaaDoor
