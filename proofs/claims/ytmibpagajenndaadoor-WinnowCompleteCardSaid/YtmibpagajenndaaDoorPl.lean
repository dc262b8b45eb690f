/- WinnowPrints. -/
import Derived.Test.YtmibpagajenndaaDoorPk
namespace Go.Proofs.YtmibpagajenndaaDoor
open Go.RowKit

theorem prints_bad {t okk okq : Bool} (l : List (ByteArray × Int)) (k q : Int) (h : t = false ∨ okk = false ∨ okq = false) : printsL t okk okq l k q = [] := by
  unfold printsL
  rcases h with rfl | rfl | rfl <;> simp

set_option maxRecDepth 8000 in
set_option maxHeartbeats 1000000 in
theorem Prints_any (p : ByteArray) (l : List (ByteArray × Int)) (A : Option Addr) (c n : Nat) (k q m : Int) (w : World) (hn : n = l.length) (hp : p.size ≤ 1000000) (hA : SliceAt lexR w (Old w) A c l) (hl : n ≤ 8192) (hw : ∀ x ∈ l, x.1.size ≤ 9000000) (hm : w.cell? ⟨0, 0, none⟩ = some (.int .i64 m)) :
    Calls Tryd.prog 11 #[.agg #[.string p, .slice A n c], .int .i64 k, .int .i64 q] w (RetPrs w (printsL (textB p l) (okW k) (okW q) l k q) (printsE (textB p l) (okW k) (okW q))) := by
  cases ht : textB p l with
  | true =>
    cases hk : okW k with
    | true =>
      cases hq : okW q with
      | true => exact Prints_main p l A c n k q m w hn hp hA hl hw hm ht hk hq
      | false =>
        have HV := Lib.hid (fun w' (h : Ext w w') => ht ▸ Valid_any p l A c n m w' hn hp (hA.ext h) hl hw (h.keepc hm))
        have HK := Lib.hid (fun w' => hk ▸ size_at k w')
        have HQ := Lib.hid (fun w' => hq ▸ size_at q w')
        rw [prints_bad l k q (.inr (.inr rfl))]
        clear ht hk hq hA hw hm hn
        go_enter Tryd.func11, Tryd.ntmps11
        go_wp2_with fail
        refine (HV.out _ ((Ext.refl w).alloc _)).mono ?_
        rintro e w1 ⟨rfl, d1⟩
        go_wp2_with fail
        refine (HK.out _).mono ?_
        rintro e w' ⟨rfl, rfl⟩
        go_wp2_with fail
        refine (HQ.out _).mono ?_
        rintro e w' ⟨rfl, rfl⟩
        go_wp2_with fail
        go_ret2
        exact ⟨_, rfl, own_prs_nil _ _, ((Ext.refl w).alloc _).trans d1⟩
    | false =>
      have HV := Lib.hid (fun w' (h : Ext w w') => ht ▸ Valid_any p l A c n m w' hn hp (hA.ext h) hl hw (h.keepc hm))
      have HK := Lib.hid (fun w' => hk ▸ size_at k w')
      rw [prints_bad l k q (.inr (.inl rfl))]
      clear ht hk hA hw hm hn
      go_enter Tryd.func11, Tryd.ntmps11
      go_wp2_with fail
      refine (HV.out _ ((Ext.refl w).alloc _)).mono ?_
      rintro e w1 ⟨rfl, d1⟩
      go_wp2_with fail
      refine (HK.out _).mono ?_
      rintro e w' ⟨rfl, rfl⟩
      go_wp2_with fail
      go_ret2
      exact ⟨_, rfl, own_prs_nil _ _, ((Ext.refl w).alloc _).trans d1⟩
  | false =>
    have HV := Lib.hid (fun w' (h : Ext w w') => ht ▸ Valid_any p l A c n m w' hn hp (hA.ext h) hl hw (h.keepc hm))
    rw [prints_bad l k q (.inl rfl)]
    clear ht hA hw hm hn
    go_enter Tryd.func11, Tryd.ntmps11
    go_wp2_with fail
    refine (HV.out _ ((Ext.refl w).alloc _)).mono ?_
    rintro e w1 ⟨rfl, d1⟩
    go_wp2_with fail
    go_ret2
    exact ⟨_, rfl, own_prs_nil _ _, ((Ext.refl w).alloc _).trans d1⟩

set_option maxRecDepth 8000 in
set_option maxHeartbeats 1000000 in
theorem refPrints_any (p : ByteArray) (l : List (ByteArray × Int)) (A : Option Addr) (c n : Nat) (k q : Int) (w : World) (hn : n = l.length) (hp : p.size ≤ 1000000) (hA : SliceAt lexR w (Old w) A c l) (hl : n ≤ 8192) (hw : ∀ x ∈ l, x.1.size ≤ 9000000) :
    Calls Tryd.prog 12 #[.agg #[.string p, .slice A n c], .int .i64 k, .int .i64 q] w (RetPrs w (printsL (textB p l) (okW k) (okW q) l k q) (printsE (textB p l) (okW k) (okW q))) := by
  cases ht : textB p l with
  | true =>
    cases hk : okW k with
    | true =>
      cases hq : okW q with
      | true => exact refPrints_main p l A c n k q w hn hp hA hl hw ht hk hq
      | false =>
        have HV := Lib.hid (fun w' (h : Ext w w') => ht ▸ refValid_any p l A c n w' hn hp (hA.ext h) hl hw)
        have HK := Lib.hid (fun w' => hk ▸ right_at k w')
        have HQ := Lib.hid (fun w' => hq ▸ right_at q w')
        rw [prints_bad l k q (.inr (.inr rfl))]
        clear ht hk hq hA hw hn
        go_enter Tryd.func12, Tryd.ntmps12
        go_wp2_with fail
        refine (HV.out _ ((Ext.refl w).alloc _)).mono ?_
        rintro e w1 ⟨rfl, d1⟩
        go_wp2_with fail
        refine (HK.out _).mono ?_
        rintro e w' ⟨rfl, rfl⟩
        go_wp2_with fail
        refine (HQ.out _).mono ?_
        rintro e w' ⟨rfl, rfl⟩
        go_wp2_with fail
        go_ret2
        exact ⟨_, rfl, own_prs_nil _ _, ((Ext.refl w).alloc _).trans d1⟩
    | false =>
      have HV := Lib.hid (fun w' (h : Ext w w') => ht ▸ refValid_any p l A c n w' hn hp (hA.ext h) hl hw)
      have HK := Lib.hid (fun w' => hk ▸ right_at k w')
      rw [prints_bad l k q (.inr (.inl rfl))]
      clear ht hk hA hw hn
      go_enter Tryd.func12, Tryd.ntmps12
      go_wp2_with fail
      refine (HV.out _ ((Ext.refl w).alloc _)).mono ?_
      rintro e w1 ⟨rfl, d1⟩
      go_wp2_with fail
      refine (HK.out _).mono ?_
      rintro e w' ⟨rfl, rfl⟩
      go_wp2_with fail
      go_ret2
      exact ⟨_, rfl, own_prs_nil _ _, ((Ext.refl w).alloc _).trans d1⟩
  | false =>
    have HV := Lib.hid (fun w' (h : Ext w w') => ht ▸ refValid_any p l A c n w' hn hp (hA.ext h) hl hw)
    rw [prints_bad l k q (.inl rfl)]
    clear ht hA hw hn
    go_enter Tryd.func12, Tryd.ntmps12
    go_wp2_with fail
    refine (HV.out _ ((Ext.refl w).alloc _)).mono ?_
    rintro e w1 ⟨rfl, d1⟩
    go_wp2_with fail
    go_ret2
    exact ⟨_, rfl, own_prs_nil _ _, ((Ext.refl w).alloc _).trans d1⟩

def guarV (k q : Int) : Int := if okW k && okW q then k + q - 1 else 0
def guarE (k q : Int) : Int := if okW k && okW q then 0 else 3
set_option maxHeartbeats 400000 in
theorem Guarantee_any (k q : Int) (w : World) : Calls Tryd.prog 13 #[.int .i64 k, .int .i64 q] w fun e w' => e = .returned (.tuple #[.int .i64 (guarV k q), .int .i64 (guarE k q)]) ∧ w = w' := by
  unfold guarV guarE
  cases hk : okW k with
  | true =>
    have HK := Lib.hid (fun w' => hk ▸ size_at k w')
    have hk2 : 1 ≤ k ∧ k ≤ 1024 := by simpa [okW] using hk
    cases hq : okW q with
    | true =>
      have HQ := Lib.hid (fun w' => hq ▸ size_at q w')
      have hq2 : 1 ≤ q ∧ q ≤ 1024 := by simpa [okW] using hq
      clear hk hq
      go_enter Tryd.func13, Tryd.ntmps13
      go_wp2_with fail
      refine (HK.out _).mono ?_
      rintro e w' ⟨rfl, rfl⟩
      go_wp2_with fail
      refine (HQ.out _).mono ?_
      rintro e w' ⟨rfl, rfl⟩
      go_wp2_with fail
      go_ret2
      exact ⟨rfl, rfl⟩
    | false =>
      have HQ := Lib.hid (fun w' => hq ▸ size_at q w')
      clear hk hq
      go_enter Tryd.func13, Tryd.ntmps13
      go_wp2_with fail
      refine (HK.out _).mono ?_
      rintro e w' ⟨rfl, rfl⟩
      go_wp2_with fail
      refine (HQ.out _).mono ?_
      rintro e w' ⟨rfl, rfl⟩
      go_wp2_with fail
      go_ret2
      exact ⟨rfl, rfl⟩
  | false =>
    have HK := Lib.hid (fun w' => hk ▸ size_at k w')
    clear hk
    go_enter Tryd.func13, Tryd.ntmps13
    go_wp2_with fail
    refine (HK.out _).mono ?_
    rintro e w' ⟨rfl, rfl⟩
    go_wp2_with fail
    go_ret2
    exact ⟨rfl, rfl⟩

set_option maxHeartbeats 400000 in
theorem refGuarantee_any (k q : Int) (w : World) : Calls Tryd.prog 14 #[.int .i64 k, .int .i64 q] w fun e w' => e = .returned (.tuple #[.int .i64 (guarV k q), .int .i64 (guarE k q)]) ∧ w = w' := by
  unfold guarV guarE
  cases hk : okW k with
  | true =>
    have HK := Lib.hid (fun w' => hk ▸ right_at k w')
    have hk2 : 1 ≤ k ∧ k ≤ 1024 := by simpa [okW] using hk
    cases hq : okW q with
    | true =>
      have HQ := Lib.hid (fun w' => hq ▸ right_at q w')
      have hq2 : 1 ≤ q ∧ q ≤ 1024 := by simpa [okW] using hq
      clear hk hq
      go_enter Tryd.func14, Tryd.ntmps14
      go_wp2_with fail
      refine (HK.out _).mono ?_
      rintro e w' ⟨rfl, rfl⟩
      go_wp2_with fail
      refine (HQ.out _).mono ?_
      rintro e w' ⟨rfl, rfl⟩
      go_wp2_with fail
      go_ret2
      exact ⟨rfl, rfl⟩
    | false =>
      have HQ := Lib.hid (fun w' => hq ▸ right_at q w')
      clear hk hq
      go_enter Tryd.func14, Tryd.ntmps14
      go_wp2_with fail
      refine (HK.out _).mono ?_
      rintro e w' ⟨rfl, rfl⟩
      go_wp2_with fail
      refine (HQ.out _).mono ?_
      rintro e w' ⟨rfl, rfl⟩
      go_wp2_with fail
      go_ret2
      exact ⟨rfl, rfl⟩
  | false =>
    have HK := Lib.hid (fun w' => hk ▸ right_at k w')
    clear hk
    go_enter Tryd.func14, Tryd.ntmps14
    go_wp2_with fail
    refine (HK.out _).mono ?_
    rintro e w' ⟨rfl, rfl⟩
    go_wp2_with fail
    go_ret2
    exact ⟨rfl, rfl⟩

theorem PrAt.of_prs {w : World} {base : Nat} {v : Value} {l : List (Int × Int)} (h : OwnPrs w base v l) : ∃ A c, v = .slice A l.length c ∧ PrAt w A l.length l := by
  obtain ⟨h1, h2 | ⟨g, off, cap, cur, rfl, hb, hh', hnc, hc, hs, hx⟩⟩ := id h
  · obtain ⟨rfl, h0⟩ := h2
    rw [h0]
    exact ⟨none, 0, rfl, by rw [h0], by omega, fun h => absurd h (Nat.lt_irrefl 0)⟩
  · refine ⟨_, _, rfl, rfl, by omega, fun hn => ⟨g, off, rfl, fun j hj => ?_⟩⟩
    obtain ⟨g', o', c', e, _, _, _, _, hcc⟩ := OwnAt.cells h hn
    cases e
    have := pcells_get l j hj
    rw [hh_get _ _ hj, pp_get _ _ hj] at this
    exact ⟨hcc _ _ this.1, hcc _ _ this.2⟩
theorem neq_print (x y : Int) (w : World) : (binOp .neq 38 (.agg #[.int .i64 x, .int .i64 y]) (.agg #[.int .i64 x, .int .i64 y])).run Tryd.prog w = .ok (.bool false) w := by
  obtain ⟨i0, hi, hz0, hz1, hz2⟩ := info_parts print_info
  have hc : Tryd.prog.cellsOf 3 = 1 := by kernel_rfl
  have u3 := Tryd.underlying3
  have a3 := Tryd.isAgg3
  have z3 := Tryd.sizeOf3
  have hf : (Tryd.prog.fieldsOf 38).toList = [{ name := "Hash", type := 3, offset := 0, embedded := false, tag := "", pkgPath := "", byteOffset := 0 }, { name := "At", type := 3, offset := 1, embedded := false, tag := "", pkgPath := "", byteOffset := 8 }] := by kernel_rfl
  rw [run_neq_struct, show (10000 : Nat) = 9999 + 1 from rfl, run_equalIn_struct w 9999 38 _ _ Tryd.underlying38 (by kernel_rfl), hf]
  rw [show (9999 : Nat) = 9998 + 1 from rfl]
  go_simp
theorem guard_print (op : BinOp) (a b : Operand) (xs ys : Array Value) (w : World) : (eqGuard op 38 a b (.agg xs) (.agg ys)).run Tryd.prog w = .ok () w := run_eqGuard_agg w op 38 a b xs ys (by kernel_rfl)

set_option maxHeartbeats 400000 in
theorem EqualPrs_q (l : List (Int × Int)) (A B : Option Addr) (c d n : Nat) (w : World) (hA : PrAt w A n l) (hB : PrAt w B n l) : Calls Tryd.prog 15 #[.slice A n c, .slice B n d] w (Qu (.bool true) w) := by
  have hn := hA.2.1
  by_cases h0 : n = 0
  · subst h0
    clear hA hB
    go_enter Tryd.func15, Tryd.ntmps15
    go_wp2_with fail
    refine wp_loop_rounds 1 ?_
    rw [rounds_succ]
    go_wp2_with fail
    go_ret
    exact ⟨rfl, Dr.refl _⟩
  · obtain ⟨ba, oa, rfl, hca⟩ := hA.2.2 (by omega)
    obtain ⟨bb, ob, rfl, hcb⟩ := hB.2.2 (by omega)
    have HCA := Lib.hid hca
    have HCB := Lib.hid hcb
    clear hA hB hca hcb
    go_enter Tryd.func15, Tryd.ntmps15
    go_wp2_with fail
    go_loopw [13] (fun i wr => ∃ k : Nat, k ≤ n ∧ i = .int .i64 k ∧ Dr w wr) (fun i _ => n - (intOf i).toNat)
    case atStart => exact ⟨0, by omega, rfl, Dr.refl _⟩
    case round =>
      obtain ⟨k, hk, rfl, hd⟩ := hrel
      by_cases hlt : k < n
      · have c0 := hd.keepc (HCA.out k hlt).1
        have c1 := hd.keepc (HCA.out k hlt).2
        have c2 := hd.keepc (HCB.out k hlt).1
        have c3 := hd.keepc (HCB.out k hlt).2
        generalize hh l k = x at *
        generalize pp l k = y at *
        have hnp := neq_print x y
        have hgp := fun a b w => guard_print .neq a b #[.int .i64 x, .int .i64 y] #[.int .i64 x, .int .i64 y] w
        go_wp2_with fail
        go_quiet (fail)
        go_wp2_with fail
        go_roundw
        case rel => exact ⟨k + 1, by omega, by go_num, hd.drewN _⟩
        case measure => simp [intOf]; omega
      · go_wp2_with fail
        go_ret
        exact ⟨rfl, hd⟩

end Go.Proofs.YtmibpagajenndaaDoor
