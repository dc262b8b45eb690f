/- The texts Xb of the seat, joined. -/
import Derived.Test.YtclhbcicbnoohaaGreatDoorG16
/- awake of chapter 3: it returns true. -/
namespace Go.Proofs.YtclhbcicbnoohaaGreatDoor
open Go.RowKit

theorem ex_findV : findV exU ⟨#[97, 47, 120]⟩ = .tuple #[.string ⟨#[50, 10, 51]⟩, .bool true] := by
  unfold findV
  rw [show T.findT exU (⟨#[97, 47, 120]⟩ : ByteArray).data.toList = some exY from ex_find]
  rfl
theorem ex_size {t : T.Tr} (h : T.checkE okB t = 0) : ∀ f ∈ t, f.1.size ≤ 1000000 := fun f hf => by have := okB_size ((checkE_ok h).path f hf); omega
theorem idV_ok {t : T.Tr} (h : T.checkE okB t = 0) : idV t = .tuple #[.string (T.idT t), .int .i64 0] := by
  unfold idV T.idE
  rw [if_neg (by rw [h]; simp)]

set_option maxRecDepth 100000 in
set_option maxHeartbeats 8000000 in
theorem awake_any (w : World) (hg : Gl w) : Calls Tryz.prog 11 #[] w (Al (.bool true) w) := by
  have HG := Lib.hid hg
  clear hg
  obtain ⟨c, hcd, hc3, _, _, _⟩ := ex_differ
  obtain ⟨cp, ck, co, cn⟩ := c
  obtain rfl : ck = 3 := hc3
  obtain ⟨sX, hsX⟩ : ∃ s, s = T.idT exT := ⟨_, rfl⟩
  obtain ⟨sN, hsN⟩ : ∃ s, s = T.idT [] := ⟨_, rfl⟩
  have hne : (!(sN.toList == sX.toList)) = true := by
    have := ids_differ
    rw [hsX, hsN]
    simp only [Bool.not_eq_true', beq_eq_false_iff_ne]
    exact fun e => this e.symm
  have hnf : (sN.toList == sX.toList) = false := by simpa using hne
  have HCD := Lib.hid hcd
  have HSX := Lib.hid hsX
  have HSN := Lib.hid hsN
  clear hcd hsX hsN
  go_enter Tryz.func11, Tryz.ntmps11
  go_wp2_with fail
  refine (example_any _).mono ?_
  rintro e w1 ⟨d1, A, rfl, hS⟩
  have HX1 := Lib.hid d1
  have HS := Lib.hid hS
  have HID := Lib.hid (fun W (h : Ext w1 W) => ID_any exT A 3 3 W rfl (HS.out.ext h) (ex_size ex_ok) (HG.out.ext (HX1.out.trans h)))
  have HRI := Lib.hid (fun W (h : Ext w1 W) => rID_any exT A 3 3 W rfl (HS.out.ext h) (fun f hf => by have := ex_size ex_ok f hf; omega))
  have HIN := Lib.hid (fun W (h : Ext w1 W) => ID_any [] none 0 0 W rfl (SliceAt.nil _ _ _ _ _ (by decide)) (ex_size ex_nil) (HG.out.ext (HX1.out.trans h)))
  rw [idV_ok ex_ok, ← HSX.out] at HID HRI
  rw [idV_ok ex_nil, ← HSN.out] at HIN
  have HRP := Lib.hid (fun W (h : Ext w1 W) => Replace_any exT A 3 3 ⟨#[97, 47, 120]⟩ ⟨#[51]⟩ 1 W rfl (HS.out.ext h) (ex_size ex_ok) (HG.out.ext (HX1.out.trans h)) (by decide) (by decide) (by decide))
  rw [ex_repl] at HRP
  have HCK := Lib.hid (fun W (h : Ext w1 W) => Check_any exT A 3 3 W rfl (HS.out.ext h) (ex_size ex_ok) (HG.out.ext (HX1.out.trans h)))
  rw [ex_ok] at HCK
  have HLN := Lib.hid (fun W (h : Ext w1 W) => Lines_any ⟨#[120, 10]⟩ W (by decide) (HG.out.ext (HX1.out.trans h)))
  rw [ex_lines] at HLN
  have HP1 := Lib.hid (fun W (h : Ext w1 W) => path_at ⟨#[97, 47, 47, 98]⟩ W (by decide) (HG.out.ext (HX1.out.trans h)))
  rw [ex_bad, show pathErr false = 2 from rfl] at HP1
  have HP2 := Lib.hid (fun W (h : Ext w1 W) => path_at ⟨#[97, 47, 98, 46, 115, 114, 99]⟩ W (by decide) (HG.out.ext (HX1.out.trans h)))
  rw [ex_path, show pathErr true = 0 from rfl] at HP2
  clear d1 hS HSX HSN
  go_wp2_with fail
  refine (HLN.out _ (Ext.refl _)).mono ?_
  intro e w2 hr
  obtain ⟨A2, n2, c2, rfl, hn2, hL2, d2⟩ := retL_any hr (fun s hs => by simp only [List.mem_cons, List.not_mem_nil, or_false] at hs; rcases hs with rfl | rfl <;> decide)
  obtain rfl : n2 = 2 := hn2
  have H2 := Lib.hid d2
  have HL2 := Lib.hid hL2
  clear hr d2 hL2
  go_wp2_with fail
  refine (HRP.out _ H2.out).mono ?_
  intro e w3 hr
  obtain ⟨A3, n3, c3, rfl, hn3, hS3, d3⟩ := retTr_any hr (ok_szF (checkE_ok ex_ok2))
  obtain rfl : n3 = 3 := hn3
  have H3 := Lib.hid (H2.out.trans d3)
  have HE3 := Lib.hid d3
  have HS3 := Lib.hid hS3
  have HFD := Lib.hid (Find_any exU A3 c3 3 ⟨#[97, 47, 120]⟩ w3 rfl hS3)
  rw [ex_findV] at HFD
  have HDF := Lib.hid (fun W (h : Ext w3 W) => Differ_any exT exU A A3 3 c3 3 3 W rfl rfl (HS.out.ext (H3.out.trans h)) (HS3.out.ext h) (ex_size ex_ok) (ex_size ex_ok2) (HG.out.ext (HX1.out.trans (H3.out.trans h))))
  rw [HCD.out] at HDF
  clear hr d3 hS3
  go_wp2_with fail
  refine HFD.out.mono ?_
  rintro e w4 ⟨rfl, d4⟩
  have H4 := Lib.hid d4
  clear d4
  go_wp2_with fail
  refine (HDF.out _ H4.out).mono ?_
  intro e w5 hr
  have hz5 : SzC [(cp, 3, co, cn)] := by have := differ_szC exT exU; rw [HCD.out] at this; exact this
  obtain ⟨A5, n5, c5, rfl, hn5, hS5, d5⟩ := retCh_any hr hz5
  obtain rfl : n5 = 1 := hn5
  obtain ⟨b5, o5, rfl, hb5, x0, x1, x2, x3⟩ := ch_get hS5 (k := 0) Nat.zero_lt_one
  have KX := Lib.hid (show w5.cell? ⟨b5, o5 + 1, none⟩ = some (.int .i64 3) by rw [Nat.zero_mul, Nat.zero_add] at x1; exact x1)
  have H5 := Lib.hid ((H3.out.trans H4.out).trans d5)
  have HE5 := Lib.hid (HE3.out.trans (H4.out.trans d5))
  clear hr d5 hS5 hz5 x0 x1 x2 x3 hb5 H4 HE3
  go_wp2_with fail
  refine (HIN.out _ H5.out).mono ?_
  rintro e w6 ⟨rfl, d6⟩
  have H6 := Lib.hid (H5.out.trans d6)
  have K6 := Lib.hid d6
  clear d6
  go_wp2_with fail
  refine (HID.out _ H6.out).mono ?_
  rintro e w7 ⟨rfl, d7⟩
  have H7 := Lib.hid (H6.out.trans d7)
  have K7 := Lib.hid (K6.out.trans d7)
  clear d7 K6
  go_wp2_with fail
  refine (HRI.out _ H7.out).mono ?_
  rintro e w8 ⟨rfl, d8⟩
  have H8 := Lib.hid (H7.out.trans d8)
  have K8 := Lib.hid (K7.out.trans d8)
  clear d8 K7
  have HE28 := Lib.hid (HE5.out.trans K8.out)
  obtain ⟨W8, hW8⟩ : ∃ W, W = w8.alloc (.cells #[.string ⟨#[120]⟩, .string ⟨#[]⟩] 9) := ⟨_, rfl⟩
  have E8 : Ext w8 W8 := by rw [hW8]; exact (Ext.refl _).alloc _
  have HEQ := Lib.hid (EqS_same [⟨#[120]⟩, ⟨#[]⟩] A2 (some ⟨w8.heap.size, 0, none⟩) c2 2 2 2 W8 rfl rfl (HL2.out.ext (HE28.out.trans E8)) (strs_new (w := w8) (l := [⟨#[120]⟩, ⟨#[]⟩]) rfl (fun s hs => by simp only [List.mem_cons, List.not_mem_nil, or_false] at hs; rcases hs with rfl | rfl <;> decide) (by decide) (by rw [hW8]; exact Ext.refl _)))
  have HX8 := Lib.hid E8
  have HW8 := Lib.hid hW8
  clear hW8 E8
  have x1 := HX8.out.keepc (K8.out.keepc KX.out)
  go_wp2_with fail
  rw [← HW8.out]
  refine HEQ.out.mono ?_
  rintro e w9 ⟨rfl, d9⟩
  have H9 := Lib.hid ((H8.out.trans HX8.out).trans d9)
  have x1 := d9.keepc x1
  clear d9
  go_wp2_with fail
  refine (HP1.out _ H9.out).mono ?_
  rintro e w10 ⟨rfl, d10⟩
  have H10 := Lib.hid (H9.out.trans d10)
  clear d10
  go_wp2_with fail
  refine (HP2.out _ H10.out).mono ?_
  rintro e w11 ⟨rfl, d11⟩
  have H11 := Lib.hid (H10.out.trans d11)
  clear d11
  go_wp2_with fail
  refine (HCK.out _ H11.out).mono ?_
  rintro e w12 ⟨rfl, d12⟩
  have H12 := Lib.hid (H11.out.trans d12)
  clear d12
  go_wp2_with fail
  go_ret
  exact ⟨rfl, HX1.out.trans H12.out⟩
end Go.Proofs.YtclhbcicbnoohaaGreatDoor
