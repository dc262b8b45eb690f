/- The reference's Shared. -/
import Derived.Test.YtmibpagajenndaaV
import Derived.Laws.StructEq
import Derived.ChangeKeysEq
namespace Go.Proofs.Ytmibpagajenndaa
open Go.RowKit

def RetPairs (w : World) (L : List (Int × Int)) (er : Int) (e : Ending) (w' : World) : Prop := ∃ v, e = .returned (.tuple #[v, .int .i64 er]) ∧ OwnPairs w' w.heap.size v L ∧ Ext w w'
theorem ordered_is (l : List (Int × Int)) (A : Option Addr) (c n : Nat) (B : Bool) (w : World) (hA : PrAt w A n l) (hl : n ≤ 60) (h : ordB l = B) : Calls Try.prog 56 #[.slice A n c] w (Qu (.bool B) w) := h ▸ ordered_q l A c n w hA hl
theorem refOrdered_is (l : List (Int × Int)) (A : Option Addr) (c n : Nat) (B : Bool) (w : World) (hA : PrAt w A n l) (hl : n ≤ 60) (h : ordB l = B) : Calls Try.prog 58 #[.slice A n c] w (Qu (.bool B) w) := h ▸ refOrdered_q l A c n w hA hl
theorem own_pairs_nil (w : World) (b : Nat) : OwnPairs w b (.slice none 0 0) [] := OwnAt.nil _ _ _ _

/-- A step of the inner loop. -/
theorem prs_hit (a b : List (Int × Int)) (m k j : Nat) (h : hh a k = hh b j) : prs a b m k ++ with1 (pp a k) (col b (hh a k) (j + 1)) = prs a b m k ++ with1 (pp a k) (col b (hh a k) j) ++ [(pp a k, pp b j)] := by
  rw [col, if_pos h.symm, with1_append, ← List.append_assoc]; rfl
theorem prs_miss (a b : List (Int × Int)) (m k j : Nat) (h : ¬ hh a k = hh b j) : prs a b m k ++ with1 (pp a k) (col b (hh a k) (j + 1)) = prs a b m k ++ with1 (pp a k) (col b (hh a k) j) := by
  rw [col, if_neg (Ne.symm h), List.append_nil]
def partN (a b : List (Int × Int)) (m k j : Nat) : Nat := (prs a b m k ++ with1 (pp a k) (col b (hh a k) j)).length
theorem partN_le (a b : List (Int × Int)) (m k j : Nat) (hm : m ≤ 60) (hk : k ≤ 60) (hj : j ≤ 60) : partN a b m k j ≤ 3660 := by
  have h1 := prs_len a b m k
  have h2 := col_len b (hh a k) j
  have h3 : k * m ≤ 60 * 60 := Nat.mul_le_mul hk hm
  unfold partN
  rw [List.length_append, with1_len]
  omega
def prsN (a b : List (Int × Int)) (m k : Nat) : Nat := (prs a b m k).length

set_option maxHeartbeats 1000000 in
theorem refShared_ord (a b : List (Int × Int)) (A B : Option Addr) (c d n m : Nat) (w : World) (hA : PrAt w A n a) (hB : PrAt w B m b) (hn : n ≤ 60) (hm : m ≤ 60) (oa : ordB a = true) (ob : ordB b = true) :
    Calls Try.prog 32 #[.slice A n c, .slice B m d] w (RetPairs w (if (prs a b m n).length ≤ 1024 then prs a b m n else []) (if (prs a b m n).length ≤ 1024 then 0 else 10)) := by
  obtain ⟨i0, hi, hz0, hz1, hz2⟩ := info_parts pair_info
  have HA := Lib.hid hA
  have HB := Lib.hid hB
  have HOA := Lib.hid oa
  have HOB := Lib.hid ob
  obtain ⟨Z, hZ⟩ : ∃ Z, Z = RetPairs w (if (prs a b m n).length ≤ 1024 then prs a b m n else []) (if (prs a b m n).length ≤ 1024 then 0 else 10) := ⟨_, rfl⟩
  rw [← hZ]
  have HZ := Lib.hid hZ
  clear hA hB oa ob hZ
  go_enter Try.func32, Try.ntmps32
  go_wp2_with fail
  refine (refOrdered_is a _ _ _ true _ HA.out hn HOA.out).mono ?_
  rintro e w1 ⟨rfl, d1⟩
  go_wp2_with fail
  refine (refOrdered_is b _ _ _ true _ (HB.out.ext d1.ext) hm HOB.out).mono ?_
  rintro e w2 ⟨rfl, d2⟩
  go_wp2_with fail
  have d12 := d1.trans d2
  clear d1 d2
  go_loopw [6, 7] (fun v i wr => ∃ k : Nat, k ≤ n ∧ i = .int .i64 k ∧ OwnPairs wr w.heap.size v (prs a b m k) ∧ Ext w wr) (fun _ i _ => n - (intOf i).toNat)
  case atStart => exact ⟨0, Nat.zero_le _, rfl, (own_pairs_empty _ _ (by simp)).mono (by have := d12.size; omega), (d12.ext).alloc _⟩
  case round =>
    obtain ⟨k, hk, rfl, hown, hd⟩ := hrel
    by_cases hlt : k < n
    · go_wp2_with fail
      go_loopw [6, 8] (fun v i wr => ∃ j : Nat, j ≤ m ∧ i = .int .i64 j ∧ OwnPairs wr w.heap.size v (prs a b m k ++ with1 (pp a k) (col b (hh a k) j)) ∧ Ext w wr) (fun _ i _ => m - (intOf i).toNat)
      case atStart => exact ⟨0, Nat.zero_le _, rfl, by rw [col]; simp [with1]; exact hown, hd⟩
      case round =>
        obtain ⟨j, hj, rfl, hown2, hd2⟩ := hrel
        by_cases hlt2 : j < m
        · obtain ⟨ba, oa', rfl, hca⟩ := HA.out.2.2 (by omega)
          obtain ⟨bb, ob', rfl, hcb⟩ := HB.out.2.2 (by omega)
          have ca := hca k hlt
          have cb := hcb j hlt2
          have c0 := hd2.keepc ca.1
          have c1 := hd2.keepc cb.1
          have fx0 : ∀ x : Lat (Ext w), x.w'.cell? ⟨ba, oa' + k * 2 + 1, none⟩ = some (.int .i64 (pp a k)) := fun x => x.h.keepc ca.2
          have fx1 : ∀ x : Lat (Ext w), x.w'.cell? ⟨bb, ob' + j * 2 + 1, none⟩ = some (.int .i64 (pp b j)) := fun x => x.h.keepc cb.2
          have hlen := partN_le a b m k j hm (by omega) (by omega)
          clear hca hcb ca cb
          by_cases heq : hh a k = hh b j
          · have hst := Lib.hid (prs_hit a b m k j heq)
            have hb : (hh a k == hh b j) = true := by simp [heq]
            clear heq
            go_wp2_with fail
            go_quiet (fail)
            go_wp2_with fail
            have hne := Lat.some hd2
            refine wp_region_lat [12, 13] (Ext w) (hd2.drewN _).drew (by kernel_rfl) (by kernel_rfl) (by kernel_rfl) ?_
            repeat (refine lex_pure rfl rfl rfl ?_; intro K hK; go_big_quiet_op; go_big_quiet_on)
            refine lex_eff rfl ?_
            go_wp2_with fail
            refine ⟨⟨⟨_, (hd2.drewN _).drew.alloc _⟩, rfl⟩, ?_⟩
            refine lex_eff rfl ?_
            have hown3 : OwnAt wr w.heap.size 50 2 u6 (partN a b m k j) (pcells (prs a b m k ++ with1 (pp a k) (col b (hh a k) j))) := hown2
            refine wpList_append_ownAt _ rfl (.tmp 41) (.tmp 53) 46 rfl w.heap.size 50 i0 (.agg #[.int .i64 0, .int .i64 0]) 2 16 Try.underlying46 hi hz0 hz1 hz2 rfl (by decide) _ _ _ rfl (((hown3.dr ⟨_, rfl⟩).dr ⟨1, rfl⟩).alloc _) ⟨_, 0, none⟩ 1 1 (pcells [(pp a k, pp b j)]) rfl rfl (cells_new_pair _ _ _) (pcells_one _) (by unfold maxLen; omega) (by omega) (((hd2.drewN _).drew.alloc _).size) (by decide) ?_
            intro v4 w4 hown4 hg4 hold4 _
            go_wp2_with fail
            have e4 : Ext w w4 := ((hd2.drewN _).drew.alloc _).grown hold4 hg4
            refine ⟨⟨⟨_, e4⟩, rfl⟩, ?_⟩
            repeat (refine lex_pure rfl rfl rfl ?_; intro K hK; go_big_quiet_op; go_big_quiet_on)
            refine lex_nil ?_
            go_wp2_with fail
            go_roundw
            case rel => exact ⟨j + 1, by omega, by go_num, by rw [hst.out]; exact own_pairs_snoc rfl hown4, e4⟩
            case measure => simp [intOf]; omega
          · have hst := Lib.hid (prs_miss a b m k j heq)
            have hb : (hh a k == hh b j) = false := by simp [heq]
            clear heq
            go_wp2_with fail
            go_quiet (fail)
            go_wp2_with fail
            go_roundw
            case rel => exact ⟨j + 1, by omega, by go_num, by rw [hst.out]; exact hown2.dr ⟨_, rfl⟩, hd2.drewN _⟩
            case measure => simp [intOf]; omega
        · have hjm : j = m := by omega
          go_wp2_with fail
          go_roundw
          case rel => exact ⟨k + 1, by omega, by go_num, by rw [hjm] at hown2; exact hown2, hd2⟩
          case measure => simp [intOf]; omega
    · obtain rfl : k = n := by omega
      have hle := prs_len a b m k
      have hle2 : k * m ≤ 60 * 60 := Nat.mul_le_mul hn hm
      obtain ⟨N, hN⟩ : ∃ N, N = (prs a b m k).length := ⟨_, rfl⟩
      have hown3 : OwnAt wr w.heap.size 50 2 u6 N (pcells (prs a b m k)) := by rw [hN]; exact hown
      have hzz : N ≤ 1024 → Z = RetPairs w (prs a b m k) 0 := fun h => by rw [HZ.out, if_pos (by omega), if_pos (by omega)]
      have hzn : 1024 < N → Z = RetPairs w [] 10 := fun h => by rw [HZ.out, if_neg (by omega), if_neg (by omega)]
      obtain ⟨A6, c6, e6⟩ := own_form hown3
      subst e6
      have HNN := Lib.hid hN
      have HZZ := Lib.hid hzz
      have HZN := Lib.hid hzn
      have hN3 : N ≤ 3600 := by omega
      clear hle hle2 hN hzz hzn
      by_cases hbig : N ≤ 1024
      · go_wp2_with fail
        rw [HZZ.out hbig]
        exact ⟨_, rfl, hown, hd⟩
      · have hbig' : 1024 < N := by omega
        go_wp2_with fail
        rw [HZN.out hbig']
        exact ⟨_, rfl, own_pairs_nil _ _, hd⟩

def shL (a b : List (Int × Int)) : List (Int × Int) := if ordB a = true ∧ ordB b = true then (if (prs a b b.length a.length).length ≤ 1024 then prs a b b.length a.length else []) else []
def shE (a b : List (Int × Int)) : Int := if ordB a = true ∧ ordB b = true then (if (prs a b b.length a.length).length ≤ 1024 then 0 else 10) else 5
theorem sh_yes {a b : List (Int × Int)} (oa : ordB a = true) (ob : ordB b = true) : shL a b = (if (prs a b b.length a.length).length ≤ 1024 then prs a b b.length a.length else []) ∧ shE a b = (if (prs a b b.length a.length).length ≤ 1024 then 0 else 10) := by
  have h : ordB a = true ∧ ordB b = true := ⟨oa, ob⟩
  exact ⟨if_pos h, if_pos h⟩
theorem sh_no {a b : List (Int × Int)} (h : ordB a = false ∨ ordB b = false) : shL a b = [] ∧ shE a b = 5 := by
  have : ¬ (ordB a = true ∧ ordB b = true) := by rintro ⟨h1, h2⟩; rcases h with h | h <;> simp_all
  exact ⟨if_neg this, if_neg this⟩
attribute [irreducible] shL shE

set_option maxHeartbeats 400000 in
theorem refShared_any (a b : List (Int × Int)) (A B : Option Addr) (c d n m : Nat) (w : World) (hA : PrAt w A n a) (hB : PrAt w B m b) (hn : n ≤ 60) (hm : m ≤ 60) :
    Calls Try.prog 32 #[.slice A n c, .slice B m d] w (RetPairs w (shL a b) (shE a b)) := by
  cases oa : ordB a with
  | true =>
    cases ob : ordB b with
    | true =>
      have h := refShared_ord a b A B c d n m w hA hB hn hm oa ob
      obtain ⟨e1, e2⟩ := sh_yes oa ob
      rw [e1, e2, ← hA.1, ← hB.1]
      exact h
    | false =>
      obtain ⟨e1, e2⟩ := sh_no (a := a) (b := b) (.inr ob)
      rw [e1, e2]
      have HA := Lib.hid hA
      have HB := Lib.hid hB
      have HOA := Lib.hid oa
      have HOB := Lib.hid ob
      clear hA hB oa ob e1 e2
      go_enter Try.func32, Try.ntmps32
      go_wp2_with fail
      refine (refOrdered_is a _ _ _ true _ HA.out hn HOA.out).mono ?_
      rintro e w1 ⟨rfl, d1⟩
      go_wp2_with fail
      refine (refOrdered_is b _ _ _ false _ (HB.out.ext d1.ext) hm HOB.out).mono ?_
      rintro e w2 ⟨rfl, d2⟩
      go_wp2_with fail
      go_ret2
      exact ⟨_, rfl, own_pairs_nil _ _, (d1.trans d2).ext⟩
  | false =>
    obtain ⟨e1, e2⟩ := sh_no (a := a) (b := b) (.inl oa)
    rw [e1, e2]
    have HA := Lib.hid hA
    have HOA := Lib.hid oa
    clear hA hB oa e1 e2
    go_enter Try.func32, Try.ntmps32
    go_wp2_with fail
    refine (refOrdered_is a _ _ _ false _ HA.out hn HOA.out).mono ?_
    rintro e w1 ⟨rfl, d1⟩
    go_wp2_with fail
    go_ret2
    exact ⟨_, rfl, own_pairs_nil _ _, d1.ext⟩

theorem PrAt.of_own {w : World} {base : Nat} {v : Value} {l : List (Int × Int)} (h : OwnPairs w base v l) : ∃ A c, v = .slice A l.length c ∧ PrAt w A l.length l := by
  obtain ⟨h1, h2 | ⟨g, off, cap, cur, rfl, hb, hh', hnc, hc, hs, hx⟩⟩ := id h
  · obtain ⟨rfl, h0⟩ := h2
    rw [h0]
    exact ⟨none, 0, rfl, by rw [h0], by omega, fun h => absurd h (Nat.lt_irrefl 0)⟩
  · refine ⟨_, _, rfl, rfl, by omega, fun hn => ⟨g, off, rfl, fun j hj => ?_⟩⟩
    obtain ⟨g', o', c', e, _, _, _, _, hcc⟩ := OwnAt.cells h hn
    cases e
    have := pcells_get l j hj
    rw [hh_get _ _ hj, pp_get _ _ hj] at this
    exact ⟨hcc _ _ this.1, hcc _ _ this.2⟩

theorem neq_pair (x y : Int) (w : World) : (binOp .neq 50 (.agg #[.int .i64 x, .int .i64 y]) (.agg #[.int .i64 x, .int .i64 y])).run Try.prog w = .ok (.bool false) w := by
  obtain ⟨i0, hi, hz0, hz1, hz2⟩ := info_parts int_info
  rw [run_neq_struct, show (10000 : Nat) = 9999 + 1 from rfl, run_equalIn_array w 9999 _ _ Try.underlying50 hi]
  go_simp
  have hc : Try.prog.cellsOf 3 = 1 := by kernel_rfl
  have u3 := Try.underlying3
  have a3 := Try.isAgg3
  have z3 := Try.sizeOf3
  rw [hc]
  simp only [Op.eqItems]
  go_simp
theorem guard_pair (op : BinOp) (a b : Operand) (xs ys : Array Value) (w : World) : (eqGuard op 50 a b (.agg xs) (.agg ys)).run Try.prog w = .ok () w := run_eqGuard_agg w op 50 a b xs ys (by kernel_rfl)

set_option maxHeartbeats 400000 in
theorem EqualPairs_q (l : List (Int × Int)) (A B : Option Addr) (c d n : Nat) (w : World) (hA : PrAt w A n l) (hB : PrAt w B n l) : Calls Try.prog 33 #[.slice A n c, .slice B n d] w (Qu (.bool true) w) := by
  have hn := hA.2.1
  by_cases h0 : n = 0
  · subst h0
    clear hA hB
    go_enter Try.func33, Try.ntmps33
    go_wp2_with fail
    refine wp_loop_rounds 1 ?_
    rw [rounds_succ]
    go_wp2_with fail
    go_ret
    exact ⟨rfl, Dr.refl _⟩
  · obtain ⟨ba, oa, rfl, hca⟩ := hA.2.2 (by omega)
    obtain ⟨bb, ob, rfl, hcb⟩ := hB.2.2 (by omega)
    have HCA := Lib.hid hca
    have HCB := Lib.hid hcb
    clear hA hB hca hcb
    go_enter Try.func33, Try.ntmps33
    go_wp2_with fail
    go_loopw [13] (fun i wr => ∃ k : Nat, k ≤ n ∧ i = .int .i64 k ∧ Dr w wr) (fun i _ => n - (intOf i).toNat)
    case atStart => exact ⟨0, by omega, rfl, Dr.refl _⟩
    case round =>
      obtain ⟨k, hk, rfl, hd⟩ := hrel
      by_cases hlt : k < n
      · have c0 := hd.keepc (HCA.out k hlt).1
        have c1 := hd.keepc (HCA.out k hlt).2
        have c2 := hd.keepc (HCB.out k hlt).1
        have c3 := hd.keepc (HCB.out k hlt).2
        generalize hh l k = x at *
        generalize pp l k = y at *
        have hnp := neq_pair x y
        have hgp := fun a b w => guard_pair .neq a b #[.int .i64 x, .int .i64 y] #[.int .i64 x, .int .i64 y] w
        go_wp2_with fail
        go_quiet (fail)
        go_wp2_with fail
        go_roundw
        case rel => exact ⟨k + 1, by omega, by go_num, hd.drewN _⟩
        case measure => simp [intOf]; omega
      · go_wp2_with fail
        go_ret
        exact ⟨rfl, hd⟩

end Go.Proofs.Ytmibpagajenndaa
