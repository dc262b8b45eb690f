/- slices.Concat and slices.ContainsFunc of numbers; the walk of WinnowLocal. -/
import Derived.Test.YtmibpagajenndaaT
import Derived.Deep.Upon
import Derived.Shelf.Spec.SlicesGrow
import Derived.Shelf.Abstract
namespace Go.Proofs.Ytmibpagajenndaa
open Go.RowKit

def growRen : Go.Shelf.Ren := ⟨fun | 4 => 63 | n => n, fun | 25 => 3 | n => n, fun n => n⟩
theorem laysGrow : Go.Proofs.Lays8.n4 Try.prog growRen := {
  mixed := by kernel_rfl
  f4 := ⟨"slices.Grow[[]int,int]", by decide, Try.func63.trans (congrArg some (by kernel_rfl))⟩
  t0 := Try.underlying0
  a0 := Try.isAgg0
  z0 := Try.sizeOf0
  v0 := Try.zeroValue0
  t3 := Try.underlying3
  a3 := Try.isAgg3
  z3 := Try.sizeOf3
  v3 := Try.zeroValue3
  t4 := Try.underlying4
  a4 := Try.isAgg4
  z4 := Try.sizeOf4
  v4 := Try.zeroValue4
  t9 := Try.underlying9
  a9 := Try.isAgg9
  z9 := Try.sizeOf9
  v9 := Try.zeroValue9
  t20 := Try.underlying20
  a20 := Try.isAgg20
  z20 := Try.sizeOf20
  v20 := Try.zeroValue20
  t22 := Try.underlying22
  a22 := Try.isAgg22
  z22 := Try.sizeOf22
  v22 := Try.zeroValue22 }

theorem zeroCells_int (n : Nat) : (Builtin.zeroCells (Value.int .i64 0).cells n).size = n := by
  unfold Builtin.zeroCells
  simp [Value.cells]

theorem Grow_nil (n : Nat) (w : World) (hn : n ≤ 1000) :
    Calls Try.prog 63 #[.slice none 0 0, .int .i64 (n : Int)] w fun e w' => ∃ v, e = .returned v ∧ OwnInts w' w.heap.size v [] ∧ Ext w w' := by
  obtain ⟨i0, hi, hz0, hz1, hz2⟩ := info_parts int_info
  by_cases h : n = 0
  · subst h
    refine (Any8.slices_Grow_room laysGrow none 0 0 0 w (by omega) (by omega) (by omega) (by omega)).mono ?_
    rintro e w' ⟨rfl, rfl⟩
    exact ⟨_, rfl, own_nil _ _, Ext.refl _⟩
  · refine (Any8.slices_Grow_grow laysGrow i0 (.int .i64 0) hi hz0 (by omega) none 0 0 n [] w (by omega) (by omega) (by rw [hz2]; omega) (by omega) (by simp) (by simp) (by simp)).mono ?_
    rintro e w' ⟨rfl, rfl⟩
    refine ⟨_, rfl, ⟨by simp [ints], .inr ⟨w.heap.size, 0, _, _, rfl, Nat.le_refl _, heap_alloc_new _ _, Nat.zero_le _, ?_, ?_, fun j hj => by simp at hj⟩⟩, (Ext.refl w).drew.alloc _⟩
    · have := grownCap_le_maxLen w (0 + n) 0 (growRen.t 25) (by unfold maxLen; omega)
      unfold maxLen at this
      omega
    · have := grownCap_ge w (0 + n) 0 (growRen.t 25)
      rw [Array.size_append, Array.size_append, zeroCells_int, zeroCells_int]
      simp
      omega

/-- The parts one behind the other. -/
def cat (p : Nat → List Int) : Nat → List Int
  | 0 => []
  | k + 1 => cat p k ++ p k
def catN (p : Nat → List Int) (k : Nat) : Nat := (cat p k).length
theorem catN_zero (p : Nat → List Int) : catN p 0 = 0 := rfl
theorem catN_succ (p : Nat → List Int) (k : Nat) : catN p (k + 1) = catN p k + (p k).length := by unfold catN; rw [cat, List.length_append]
theorem catN_le {p : Nat → List Int} (h : ∀ k, (p k).length ≤ 60) : ∀ k, catN p k ≤ 60 * k
  | 0 => by simp [catN_zero]
  | k + 1 => by
    have := catN_le h k
    have := h k
    rw [catN_succ]
    omega

set_option maxHeartbeats 400000 in
theorem wpList_append_ints {ops : Array Oper} {rest : List Oper} {o : Oper} {a : Act} {w : World} {Q : Exit → Act → World → Prop} (hw : Region.wanted o (yielded ops a.tmps) = true) (s x : Operand)
    (ho : o.op = .call { callee := .builtin .append, args := #[s, x], argTypes := #[22, 22] })
    (base : Nat) (v : Value) (l y : List Int) (hs : a.eval s = v) (hown : OwnInts w base v l) (A : Option Addr) (m c : Nat) (hx : a.eval x = .slice A m c) (hy : IntsAt w A m y)
    (h63 : l.length + y.length ≤ 1000) (hbase : base ≤ w.heap.size)
    (h : ∀ v' w', OwnInts w' base v' (l ++ y) → Below base w w' → wpList Try.prog ops Q rest (a.put o.dst v') w') : wpList Try.prog ops Q (o :: rest) a w := by
  obtain ⟨i0, hi, hz0, hz1, hz2⟩ := info_parts int_info
  unfold wpList
  rw [if_pos hw]
  refine .inl ?_
  by_cases hm : y = []
  · subst hm
    have hm0 : m = 0 := hy.1
    subst hm0
    have hsrc : Src Try.prog i0.size 22 (.slice A 0 c) 0 [] w := by
      cases A with
      | none => exact Src.ofNil w Try.underlying22 c
      | some ad => exact Src.ofSlice w Try.underlying22 ad 0 c [] (by simp) (fun j u hj => by simp at hj) (fun u hu => by simp at hu)
    have hrun : ∃ (b : Option Addr) (n cp : Nat), v = .slice b n cp ∧ n ≤ cp := by
      obtain ⟨_, ⟨rfl, _⟩ | ⟨g, off, cap, cur, rfl, _, _, hn, _⟩⟩ := hown
      · exact ⟨_, _, _, rfl, Nat.le_refl _⟩
      · exact ⟨_, _, _, rfl, hn⟩
    obtain ⟨b, n, cp, rfl, hle⟩ := hrun
    have hr := run_append_nothing (P := Try.prog) w 22 22 o.type 3 i0 Try.underlying22 hi b n cp hle _ hsrc
    unfold Oper.wp execOp
    simp only [ho, resolve, invoke, builtin, Sem.run_bind, Sem.run_pure, Result.andThen_ok, List.map_toArray, List.map_cons, List.map_nil, hs, hx, hr]
    exact h _ _ (by rw [List.append_nil]; exact hown) (Below.refl _ _)
  · have hpos : 0 < y.length := List.length_pos_iff.2 hm
    obtain ⟨hm1, _, hc⟩ := hy
    subst hm1
    obtain ⟨b, off, rfl, hcc⟩ := hc hm
    refine wp_append_ownAt w s x 22 ho base 3 i0 (.int .i64 0) 1 8 Try.underlying22 hi hz0 hz1 hz2 rfl (by decide) v l.length (ints l) hs hown ⟨b, off, none⟩ y.length c (ints y) hx (by simp [ints]) ?_ (ints_one y) (by unfold maxLen; omega) (by omega) hbase hpos ?_
    · intro j u hj
      rw [Addr.add_lit]
      have hjl : j < y.length := by
        rcases Nat.lt_or_ge j (ints y).length with h | h
        · simpa [ints] using h
        · rw [List.getElem?_eq_none h] at hj; cases hj
      rw [hcc j hjl, ← hj]
      simp [ints, hjl]
    · intro v' w' h2 h3 _ _
      refine h v' w' ?_ ?_
      · unfold OwnInts
        rw [ints_append, List.length_append]
        exact h2
      · refine Below.grown (Below.refl _ _) h3 hbase fun k hk => ?_
        obtain ⟨_, ⟨rfl, _⟩ | ⟨g, off', cap, cur, rfl, hb, _⟩⟩ := hown
        · simp [Value.ownBlock] at hk
        · simp [Value.ownBlock] at hk; omega

set_option maxHeartbeats 1000000 in
theorem Concat_walk (p : Nat → List Int) (A : Nat → Option Addr) (c : Nat → Nat) (N b cp : Nat) (w : World) (hN : N ≤ 3) (hp : ∀ k, (p k).length ≤ 60)
    (hc : ∀ k, k < N → w.cell? ⟨b, k, none⟩ = some (.slice (A k) (p k).length (c k))) (hA : ∀ k, k < N → IntsAt w (A k) (p k).length (p k)) :
    Calls Try.prog 40 #[.slice (some ⟨b, 0, none⟩) N cp] w fun e w' => ∃ v, e = .returned v ∧ OwnInts w' w.heap.size v (cat p N) ∧ Ext w w' := by
  have HC := Lib.hid hc
  have HA := Lib.hid hA
  have HP := Lib.hid hp
  clear hc hA hp
  go_enter Try.func40, Try.ntmps40
  go_wp2
  go_loopw [3, 11] (fun s i wr => ∃ k : Nat, k ≤ N ∧ i = .int .i64 k ∧ s = .int .i64 (catN p k) ∧ Dr w wr) (fun _ i _ => N - (intOf i).toNat)
  case atStart => exact ⟨0, Nat.zero_le _, rfl, rfl, Dr.refl _⟩
  case round =>
    obtain ⟨k, hk, rfl, rfl, hd⟩ := hrel
    by_cases hlt : k < N
    · have c0 := hd.keepc (HC.out k hlt)
      have hle := catN_le HP.out k
      have hpk := HP.out k
      have hs := catN_succ p k
      obtain ⟨m, hm⟩ : ∃ m, m = catN p k := ⟨_, rfl⟩
      obtain ⟨q, hq⟩ : ∃ q, q = (p k).length := ⟨_, rfl⟩
      rw [← hm] at hle ⊢
      rw [← hq] at hpk c0
      rw [← hm, ← hq] at hs
      have HS := Lib.hid hs
      clear hs hm hq
      go_wp2
      go_roundw
      case rel => exact ⟨k + 1, by omega, by go_num, by rw [HS.out]; go_num, hd⟩
      case measure => simp [intOf]; omega
    · obtain rfl : k = N := by omega
      have hle := catN_le HP.out k
      go_wp2_with fail
      refine (Grow_nil (catN p k) _ (by omega)).mono ?_
      rintro e w1 ⟨v1, rfl, o1, d1⟩
      go_wp2_with fail
      go_loopw [6, 27] (fun s i wr => ∃ j : Nat, j ≤ k ∧ i = .int .i64 j ∧ OwnInts wr w.heap.size s (cat p j) ∧ Ext w wr) (fun _ i _ => k - (intOf i).toNat)
      case atStart => exact ⟨0, Nat.zero_le _, rfl, o1.mono (by have := hd.size; omega), hd.ext.trans d1⟩
      case round =>
        obtain ⟨j, hj, rfl, hown, he⟩ := hrel
        by_cases hlt2 : j < k
        · have c0 := he.keepc (HC.out j hlt2)
          have hpj := HP.out j
          have hcj := catN_le HP.out j
          have hcj2 : (cat p j).length ≤ 60 * j := hcj
          have HH := Lib.hid hcj2
          clear hcj2 hcj
          go_wp2_with (at_builtin; refine wpList_append_ints rfl (.tmp 31) (.tmp 32) rfl w.heap.size _ (cat p j) (p j) rfl hown (A j) _ (c j) rfl ((HA.out j hlt2).ext he) (by have := HH.out; omega) he.size ?_; intro v2 w2 hown2 hb2)
          go_roundw
          case rel => exact ⟨j + 1, by omega, by go_num, hown2, Below.trans he hb2⟩
          case measure => simp [intOf]; omega
        · obtain rfl : j = k := by omega
          go_wp2_with fail
          go_ret
          exact ⟨_, rfl, hown, he⟩

set_option maxHeartbeats 400000 in
/-- IndexFunc finds something, if something is there. -/
theorem IndexFunc_yes (T : List Int) (b o c L g : Nat) (lb : Array Value) (p : Int → Bool) (w : World) (eg : ∀ args w, (callFunc g args).run Try.prog w = .ok (.enter g args) w) (hL2 : L ≤ 8192) (hc : ∀ j, j < L → w.cell? ⟨b, o + j, none⟩ = some (.int .i64 (gt T j)))
    (hp : ∀ x w', Dr w w' → Calls Try.prog g (#[.int .i64 x] ++ lb) w' (Qu (.bool (p x)) w')) (hx : ∃ j, j < L ∧ p (gt T j) = true) :
    Calls Try.prog 64 #[.slice (some ⟨b, o, none⟩) L c, .func (.func g) #[] lb] w fun e w' => ∃ j : Nat, e = .returned (.int .i64 j) ∧ j < L ∧ Dr w w' := by
  have HC := Lib.hid hc
  have HP := Lib.hid hp
  have HX := Lib.hid hx
  clear hc hp hx
  go_enter Try.func64, Try.ntmps64
  go_wp2
  go_loopw [5, 8] (fun _ i wr => ∃ k : Nat, k ≤ L ∧ i = .int .i64 k ∧ Hid (∀ j, j < k → p (gt T j) = false) ∧ Dr w wr) (fun _ i _ => L - (intOf i).toNat)
  case atStart => exact ⟨0, Nat.zero_le _, rfl, fun j hj => absurd hj (Nat.not_lt_zero _), Dr.refl _⟩
  case round =>
    obtain ⟨k, hk, rfl, hno, hd⟩ := hrel
    by_cases hlt : k < L
    · have c0 := hd.keepc (HC.out k hlt)
      have hcall := HP.out (gt T k) wr hd
      cases hpk : p (gt T k) with
      | true =>
        rw [hpk] at hcall
        have HK := Lib.hid hcall
        clear hcall hpk
        go_wp2_with (go_at_fn g; refine HK.out.mono ?_; rintro e w1 ⟨rfl, d1⟩)
        go_ret
        exact ⟨k, rfl, hlt, hd.trans d1⟩
      | false =>
        rw [hpk] at hcall
        have HK := Lib.hid hcall
        have HPK := Lib.hid hpk
        clear hcall hpk
        go_wp2_with (go_at_fn g; refine HK.out.mono ?_; rintro e w1 ⟨rfl, d1⟩)
        go_roundw
        case rel =>
          refine ⟨k + 1, by omega, by go_num, fun j hj => ?_, hd.trans d1⟩
          by_cases e : j = k
          · rw [e]; exact HPK.out
          · exact hno.out j (by omega)
        case measure => simp [intOf]; omega
    · exfalso
      obtain ⟨j, hj, hpj⟩ := HX.out
      rw [hno.out j (by omega)] at hpj
      cases hpj

set_option maxHeartbeats 400000 in
theorem ContainsFunc_yes (T : List Int) (b o c L g : Nat) (lb : Array Value) (p : Int → Bool) (w : World) (eg : ∀ args w, (callFunc g args).run Try.prog w = .ok (.enter g args) w) (hL2 : L ≤ 8192) (hc : ∀ j, j < L → w.cell? ⟨b, o + j, none⟩ = some (.int .i64 (gt T j)))
    (hp : ∀ x w', Dr w w' → Calls Try.prog g (#[.int .i64 x] ++ lb) w' (Qu (.bool (p x)) w')) (hx : ∃ j, j < L ∧ p (gt T j) = true) :
    Calls Try.prog 41 #[.slice (some ⟨b, o, none⟩) L c, .func (.func g) #[] lb] w (Qu (.bool true) w) := by
  have h := IndexFunc_yes T b o c L g lb p w eg hL2 hc hp hx
  have HH := Lib.hid h
  clear h hc hp hx
  go_enter Try.func41, Try.ntmps41
  go_wp2_with (go_at_call 64; refine HH.out.mono ?_; rintro e w1 ⟨j, rfl, hj, d1⟩)
  go_ret
  exact ⟨ret_bool (by simp), d1⟩

end Go.Proofs.Ytmibpagajenndaa
