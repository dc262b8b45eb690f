/- The texts Ol Exq Om On Set Nd Nr Ea of the seat, joined. -/
import Derived.Test.YtjimgkefacnamaaGreatDoorG6
import Derived.Lib.SlicesCompact
import Derived.Sort.OwnSorted
import Derived.Maps.OwnOps
import Derived.Maps.OwnSet
import Derived.Maps.Views
import Derived.StringKeys
import Derived.ChangeKeysEq
/- Find: object.Find and the reference's. -/
namespace Go.Proofs.YtjimgkefacnamaaGreatDoor
open Go.RowKit Go.Maps Go.ChangeMaps

theorem Ext.keepf {a b : World} (h : Ext a b) {p : Addr} {v : Bool} (hp : p.block < a.heap.size) (hf : a.frozen? p = v) : b.frozen? p = v := (Below.frozen h hp).trans hf
theorem frozen_new (w : World) (cs : Array Value) (t : TypeId) (i : Nat) : (w.alloc (.cells cs t)).frozen? ⟨w.heap.size, i, none⟩ = false := by
  have h := heap_alloc_new w (.cells cs t)
  simp only [World.frozen?]
  rw [h]
  simp
theorem Ext.set3 {a b : World} (h : Ext a b) {g : Nat} (hp : a.heap.size ≤ g) (i j k : Nat) (u v x : Value) : Ext a (((b.setCell ⟨g, i, none⟩ u).setCell ⟨g, j, none⟩ v).setCell ⟨g, k, none⟩ x) :=
  ((h.setCell (p := ⟨g, i, none⟩) hp u).setCell (p := ⟨g, j, none⟩) hp v).setCell (p := ⟨g, k, none⟩) hp x
theorem eg39 : ∀ (args : Array Value) (w : World), (callFunc 39 args).run Tryz.prog w = .ok (.enter 39 args) w := enters_of Tryz.func39 (by kernel_rfl) rfl
set_option maxHeartbeats 400000 in
theorem isname_any (s x : ByteArray) (m q : Int) (bp : Nat) (w : World) (c1 : w.cell? ⟨bp, 0, none⟩ = some (.string x)) (_hs : s.size ≤ 9223372036854775807) :
    Calls Tryz.prog 39 #[.agg #[.string s, .int .i64 m, .int .i64 q], .pointer (some ⟨bp, 0, none⟩)] w (Al (.bool (s.toList == x.toList)) w) := by
  have d1 := alloc_keepc (.cells #[.string s, .int .i64 m, .int .i64 q] 29) c1
  clear c1
  generalize hb : (s.toList == x.toList) = b
  go_enter Tryz.func39, Tryz.ntmps39
  go_wp2_with fail
  go_ret
  exact ⟨rfl, (Ext.refl w).alloc _⟩

set_option maxRecDepth 8000 in
set_option maxHeartbeats 2000000 in
theorem IndexFunc_any (l : List C.Sym) (A : Option Addr) (c n bp : Nat) (x : ByteArray) (w : World) (hn : n = l.length) (hA : SliceAt symR w (Old w) A c l) (hn2 : n ≤ 9000000000000000000) (c1 : w.cell? ⟨bp, 0, none⟩ = some (.string x)) :
    Calls Tryz.prog 38 #[.slice A n c, .func (.func 39) #[] #[.pointer (some ⟨bp, 0, none⟩)]] w (Al (.int .i64 (idxI (C.idx l x.data.toList))) w) := by
  have h0 : notTo l x.data.toList 0 := fun _ _ h => absurd h (Nat.not_lt_zero _)
  have HN := Lib.hid hn
  have HA := Lib.hid hA
  have FY := Lib.hid (fun k => @idx_yes l x.data.toList k)
  have FE := Lib.hid (@idx_no l x.data.toList)
  generalize idxI (C.idx l x.data.toList) = R at FY FE ⊢
  have HC1 := Lib.hid c1
  clear hn hA c1
  have eg := eg39
  go_enter Tryz.func38, Tryz.ntmps38
  go_wp2_with fail
  go_loopw [5, 8] (fun _ i wr => ∃ k : Nat, k ≤ n ∧ i = .int .i64 k ∧ Hid (notTo l x.data.toList k ∧ Ext w wr)) (fun _ i _ => n - (intOf i).toNat)
  case atStart => exact ⟨0, Nat.zero_le _, rfl, h0, Ext.refl w⟩
  case round =>
    obtain ⟨k, hk, rfl, HK⟩ := hrel
    by_cases hlt : k < n
    · have hkz : k < l.length := by rw [← HN.out]; exact hlt
      obtain ⟨b, off, s, md, sc, rfl, hg, hs, hwm, hws, hc⟩ := sym_get HA.out hkz
      have hgk : l[k] = (s, md, sc) := by rw [List.getElem?_eq_getElem hkz] at hg; simpa using hg
      have HC := Lib.hid hc
      obtain ⟨c1, c2, c3⟩ := hc wr HK.out.2
      have hfy := FY.out k HK.out.1 hkz
      have hon := @notTo_succ l x.data.toList k HK.out.1 hkz
      rw [hgk] at hfy hon
      have HFY := Lib.hid hfy
      have HON := Lib.hid hon
      have HCALL := Lib.hid (isname_any s x md sc bp wr (HK.out.2.keepc HC1.out) hs)
      clear hc hg hgk hfy hon
      rcases Bool.eq_false_or_eq_true (s.toList == x.toList) with he | he
      · have hr := HFY.out (by have := eq_of_beq he; rwa [ByteArray.toList_eq, ByteArray.toList_eq] at this)
        have HR := Lib.hid hr
        rw [he] at HCALL
        clear he hr
        go_wp2_with (go_at_fn 39; refine HCALL.out.mono ?_; rintro e w1 ⟨rfl, d1⟩)
        go_ret
        exact ⟨by rw [HR.out]; rfl, HK.out.2.trans d1⟩
      · have hr := HON.out (by intro h'; have : C.nm (s, md, sc) = s.data.toList := rfl; rw [this] at h'; rw [ByteArray.toList_eq, ByteArray.toList_eq, h'] at he; simp at he)
        have HR := Lib.hid hr
        rw [he] at HCALL
        clear he hr
        go_wp2_with (go_at_fn 39; refine HCALL.out.mono ?_; rintro e w1 ⟨rfl, d1⟩)
        go_roundw
        case rel => exact ⟨k + 1, by omega, by go_num, HR.out, HK.out.2.trans d1⟩
        case measure => simp [intOf]; omega
    · have hr := FE.out (by have := HK.out.1; rwa [show k = l.length by have := HN.out; omega] at this)
      go_wp2_with fail
      go_ret
      exact ⟨by rw [hr]; rfl, HK.out.2⟩

/-- What Find gives. -/
def symV (s : C.Sym) : Value := .agg #[.string s.1, .int .i64 s.2.1, .int .i64 s.2.2]
def findV (l : List C.Sym) (x : List UInt8) : Value := match (C.idx l x).bind fun i => l[i]? with
  | some s => .tuple #[symV s, .bool true]
  | none => .tuple #[.agg #[.string ⟨#[]⟩, .int .i64 0, .int .i64 0], .bool false]
theorem findV_none {l : List C.Sym} {x : List UInt8} (h : C.idx l x = none) : findV l x = .tuple #[.agg #[.string ⟨#[]⟩, .int .i64 0, .int .i64 0], .bool false] := by unfold findV; rw [h]; rfl
theorem findV_some {l : List C.Sym} {x : List UInt8} {i : Nat} {s : ByteArray} {m q : Int} (h : C.idx l x = some i) (h2 : l[i]? = some (s, m, q)) : findV l x = .tuple #[.agg #[.string s, .int .i64 m, .int .i64 q], .bool true] := by
  unfold findV
  rw [h, Option.bind_some, h2]
  rfl

set_option maxRecDepth 8000 in
set_option maxHeartbeats 2000000 in
theorem Find_any (l : List C.Sym) (A B : Option Addr) (c d n m : Nat) (x : ByteArray) (w : World) (hn : n = l.length) (hA : SliceAt symR w (Old w) A c l) (hn2 : n ≤ 9000000000000000000) :
    Calls Tryz.prog 12 #[.agg #[.slice A n c, .slice B m d], .string x] w (Al (findV l x.data.toList) w) := by
  have HI := Lib.hid (fun (w' : World) (bp : Nat) (h : Ext w w') (hc : w'.cell? ⟨bp, 0, none⟩ = some (.string x)) => IndexFunc_any l A c n bp x w' hn (hA.ext h) hn2 hc)
  have HN := Lib.hid hn
  have HA := Lib.hid hA
  have b0 : ((w.alloc (.cells #[.slice A n c, .slice B m d] 25)).alloc (.cells #[.string x] 9)).cell? ⟨w.heap.size, 0, none⟩ = some (.slice A n c) := alloc_keepc _ (cell_new w #[.slice A n c, .slice B m d] 25 0)
  have x0 : ((w.alloc (.cells #[.slice A n c, .slice B m d] 25)).alloc (.cells #[.string x] 9)).cell? ⟨w.heap.size + 1, 0, none⟩ = some (.string x) := by
    have := cell_new (w.alloc (.cells #[.slice A n c, .slice B m d] 25)) #[.string x] 9 0
    rwa [show (w.alloc (.cells #[.slice A n c, .slice B m d] 25)).heap.size = w.heap.size + 1 by simp] at this
  have e0 : Ext w ((w.alloc (.cells #[.slice A n c, .slice B m d] 25)).alloc (.cells #[.string x] 9)) := ((Ext.refl w).alloc _).alloc _
  have E0 := Lib.hid e0
  clear hn hA e0
  have FS := Lib.hid (fun (i : Nat) (s : ByteArray) (mm q : Int) => @findV_some l x.data.toList i s mm q)
  have FN := Lib.hid (@findV_none l x.data.toList)
  generalize findV l x.data.toList = R at FS FN ⊢
  go_enter Tryz.func12, Tryz.ntmps12
  go_wp2_with fail
  refine (HI.out _ _ (E0.out.alloc _) (alloc_keepc _ x0)).mono ?_
  rintro e w1 ⟨rfl, d1⟩
  have hz : ((w.alloc (.cells #[.slice A n c, .slice B m d] 25)).alloc (.cells #[.string x] 9)).heap.size = w.heap.size + 1 + 1 := by simp
  have k0 := d1.keepc (cell_new _ #[.string ⟨#[]⟩, .int .i64 0, .int .i64 0] 29 0)
  have k1 := d1.keepc (cell_new _ #[.string ⟨#[]⟩, .int .i64 0, .int .i64 0] 29 1)
  have k2 := d1.keepc (cell_new _ #[.string ⟨#[]⟩, .int .i64 0, .int .i64 0] 29 2)
  have f0 := d1.keepf (by simp) (frozen_new _ #[.string ⟨#[]⟩, .int .i64 0, .int .i64 0] 29 0)
  have f1 := d1.keepf (by simp) (frozen_new _ #[.string ⟨#[]⟩, .int .i64 0, .int .i64 0] 29 1)
  have f2 := d1.keepf (by simp) (frozen_new _ #[.string ⟨#[]⟩, .int .i64 0, .int .i64 0] 29 2)
  rw [hz] at k0 k1 k2 f0 f1 f2
  have b0' := d1.keepc (alloc_keepc (.cells #[.string ⟨#[]⟩, .int .i64 0, .int .i64 0] 29) b0)
  have HW1 := Lib.hid (show Ext w w1 from (E0.out.alloc _).trans d1)
  clear b0 x0 hz d1
  cases hi : C.idx l x.data.toList with
  | none =>
    have HR := Lib.hid (FN.out hi)
    have hz : idxI none = -1 := rfl
    rw [hz]
    clear hi hz
    go_wp2_with fail
    refine bodyPost_ret (v := .tuple #[.agg #[.string ⟨#[]⟩, .int .i64 0, .int .i64 0], .bool false]) (by simp [results, Tryz.results12, go_sem, k0, k1, k2]) rfl ⟨by rw [HR.out], ?_⟩
    exact HW1.out.set3 (by omega) _ _ _ _ _ _
  | some i =>
    obtain ⟨h1, h2⟩ := C.idx_lt hi
    obtain ⟨b, off, s, md, sc, rfl, hg, hs, hwm, hws, hc⟩ := sym_get HA.out h1
    have HR := Lib.hid (FS.out i s md sc hi hg)
    have hz : idxI (some i) = (i : Int) := rfl
    rw [hz]
    obtain ⟨c1, c2, c3⟩ := hc w1 HW1.out
    have hin : i < n := by rw [HN.out]; exact h1
    clear hi hz h1 h2 hg hc
    go_wp2_with fail
    refine bodyPost_ret (v := .tuple #[.agg #[.string s, .int .i64 md, .int .i64 sc], .bool true]) (by simp [results, Tryz.results12, go_sem, k0, k1, k2]) rfl ⟨by rw [HR.out], ?_⟩
    exact HW1.out.set3 (by omega) _ _ _ _ _ _

set_option maxRecDepth 8000 in
set_option maxHeartbeats 2000000 in
theorem rFind_any (l : List C.Sym) (A B : Option Addr) (c d n m : Nat) (x : ByteArray) (w : World) (hn : n = l.length) (hA : SliceAt symR w (Old w) A c l) (hn2 : n ≤ 100000) (hx : x.size ≤ 9223372036854775807) :
    Calls Tryz.prog 13 #[.agg #[.slice A n c, .slice B m d], .string x] w (Al (findV l x.data.toList) w) := by
  have HI := Lib.hid (fun (w' : World) (h : Ext w w') => Index_any l A B c d n m x w' hn (hA.ext h) hn2 hx)
  have HN := Lib.hid hn
  have HA := Lib.hid hA
  have b0 : (w.alloc (.cells #[.slice A n c, .slice B m d] 25)).cell? ⟨w.heap.size, 0, none⟩ = some (.slice A n c) := cell_new w #[.slice A n c, .slice B m d] 25 0
  have b1 : (w.alloc (.cells #[.slice A n c, .slice B m d] 25)).cell? ⟨w.heap.size, 1, none⟩ = some (.slice B m d) := cell_new w #[.slice A n c, .slice B m d] 25 1
  have e0 : Ext w (w.alloc (.cells #[.slice A n c, .slice B m d] 25)) := (Ext.refl w).alloc _
  have E0 := Lib.hid e0
  clear hn hA e0
  have FS := Lib.hid (fun (i : Nat) (s : ByteArray) (mm q : Int) => @findV_some l x.data.toList i s mm q)
  have FN := Lib.hid (@findV_none l x.data.toList)
  generalize findV l x.data.toList = R at FS FN ⊢
  have hz : (w.alloc (.cells #[.slice A n c, .slice B m d] 25)).heap.size = w.heap.size + 1 := by simp
  have HZ := Lib.hid hz
  clear hz
  go_enter Tryz.func13, Tryz.ntmps13
  go_wp2_with fail
  refine (HI.out _ (E0.out.alloc _)).mono ?_
  rintro e w1 ⟨rfl, d1⟩
  have k0 := d1.keepc (cell_new _ #[.string ⟨#[]⟩, .int .i64 0, .int .i64 0] 29 0)
  have k1 := d1.keepc (cell_new _ #[.string ⟨#[]⟩, .int .i64 0, .int .i64 0] 29 1)
  have k2 := d1.keepc (cell_new _ #[.string ⟨#[]⟩, .int .i64 0, .int .i64 0] 29 2)
  have f0 := d1.keepf (by simp) (frozen_new _ #[.string ⟨#[]⟩, .int .i64 0, .int .i64 0] 29 0)
  have f1 := d1.keepf (by simp) (frozen_new _ #[.string ⟨#[]⟩, .int .i64 0, .int .i64 0] 29 1)
  have f2 := d1.keepf (by simp) (frozen_new _ #[.string ⟨#[]⟩, .int .i64 0, .int .i64 0] 29 2)
  rw [HZ.out] at k0 k1 k2 f0 f1 f2
  have b0' := d1.keepc (alloc_keepc (.cells #[.string ⟨#[]⟩, .int .i64 0, .int .i64 0] 29) b0)
  have HW1 := Lib.hid (show Ext w w1 from (E0.out.alloc _).trans d1)
  clear b0 b1 d1
  cases hi : C.idx l x.data.toList with
  | none =>
    have HR := Lib.hid (FN.out hi)
    have hz : idxI none = -1 := rfl
    rw [hz]
    clear hi hz
    go_wp2_with fail
    refine bodyPost_ret (v := .tuple #[.agg #[.string ⟨#[]⟩, .int .i64 0, .int .i64 0], .bool false]) (by simp [results, Tryz.results13, go_sem, k0, k1, k2]) rfl ⟨by rw [HR.out], ?_⟩
    exact HW1.out.set3 (by omega) _ _ _ _ _ _
  | some i =>
    obtain ⟨h1, h2⟩ := C.idx_lt hi
    obtain ⟨b, off, s, md, sc, rfl, hg, hs, hwm, hws, hc⟩ := sym_get HA.out h1
    have HR := Lib.hid (FS.out i s md sc hi hg)
    have hz : idxI (some i) = (i : Int) := rfl
    rw [hz]
    obtain ⟨c1, c2, c3⟩ := hc w1 HW1.out
    have hin : i < n := by rw [HN.out]; exact h1
    clear hi hz h1 h2 hg hc
    go_wp2_with fail
    refine bodyPost_ret (v := .tuple #[.agg #[.string s, .int .i64 md, .int .i64 sc], .bool true]) (by simp [results, Tryz.results13, go_sem, k0, k1, k2]) rfl ⟨by rw [HR.out], ?_⟩
    exact HW1.out.set3 (by omega) _ _ _ _ _ _

end Go.Proofs.YtjimgkefacnamaaGreatDoor

/- Plain facts on sorted lists of names without repetitions: sorting and compacting, and inserting one by one. No program in sight. -/
namespace Go.Proofs.YtjimgkefacnamaaGreatDoor.C

abbrev Bt := List UInt8
/-- What Insert gives, from a place on; whether it was put. -/
def insF (s : Bt) : List Bt → Bool → List Bt
  | [], d => if d then [] else [s]
  | x :: l, d => (if !d && decide (s ≤ x) then [s] else []) ++ ((if x = s then [] else [x]) ++ insF s l (d || decide (s ≤ x)))
def insB (l : List Bt) (s : Bt) : List Bt := insF s l false
theorem insF_mem (s y : Bt) : ∀ (l : List Bt) (d : Bool), y ∈ insF s l d ↔ (y ∈ l ∧ y ≠ s) ∨ (d = false ∧ y = s)
  | [], d => by cases d <;> simp [insF]
  | x :: l, d => by
    have ih := insF_mem s y l (d || decide (s ≤ x))
    rw [insF, List.mem_append, List.mem_append, ih, List.mem_cons]
    by_cases hx : x = s
    · subst hx
      have hle : decide (x ≤ x) = true := decide_eq_true (List.le_refl x)
      rw [hle]
      cases d <;> simp
      · by_cases hy : y = x <;> simp [hy]
      · intro h1 h2; exact absurd h2 h1
    · by_cases hle : s ≤ x
      · cases d <;> simp [hle, hx]
        · by_cases hy : y = s
          · subst hy; simp
          · simp [hy]
        · by_cases hy : y = s
          · subst hy; simp; exact fun h => hx h.symm
          · simp [hy]
      · cases d <;> simp [hle, hx]
        · by_cases hy : y = s
          · subst hy; simp
          · simp [hy]
        · by_cases hy : y = s
          · subst hy; simp; exact fun h => hx h.symm
          · simp [hy]
theorem insF_true (s : Bt) : ∀ l : List Bt, insF s l true = l.filter fun x => decide (x ≠ s)
  | [] => rfl
  | x :: l => by
    rw [insF, Bool.true_or, insF_true s l]
    by_cases hx : x = s <;> simp [hx]
theorem lt_of_not_le {x y : Bt} (h : ¬ x ≤ y) : y < x := by
  rcases List.le_total y x with h1 | h1
  · rcases List.le_iff_lt_or_eq.1 h1 with h2 | h2
    · exact h2
    · subst h2; exact absurd (List.le_refl y) h
  · exact absurd h1 h
theorem insF_sorted (s : Bt) : ∀ (l : List Bt), l.Pairwise (· < ·) → (insF s l false).Pairwise (· < ·)
  | [], _ => by simp [insF]
  | x :: l, h => by
    obtain ⟨h1, h2⟩ := List.pairwise_cons.1 h
    rw [insF]
    by_cases hle : s ≤ x
    · rw [Bool.false_or, decide_eq_true hle, insF_true]
      simp only [Bool.not_false, Bool.and_true, if_true]
      have hf : (l.filter fun x => decide (x ≠ s)).Pairwise (· < ·) := h2.filter _
      by_cases hx : x = s
      · subst hx
        simp only [if_true, List.nil_append, List.singleton_append]
        exact List.pairwise_cons.2 ⟨fun y hy => h1 y (List.mem_filter.1 hy).1, hf⟩
      · rw [if_neg hx]
        have hlt : s < x := by
          rcases List.le_iff_lt_or_eq.1 hle with h3 | h3
          · exact h3
          · exact absurd h3.symm hx
        simp only [List.singleton_append]
        refine List.pairwise_cons.2 ⟨fun y hy => ?_, List.pairwise_cons.2 ⟨fun y hy => h1 y (List.mem_filter.1 hy).1, hf⟩⟩
        rcases List.mem_cons.1 hy with rfl | hy
        · exact hlt
        · exact List.lt_trans hlt (h1 y (List.mem_filter.1 hy).1)
    · have hlt := lt_of_not_le hle
      have hx : x ≠ s := by rintro rfl; exact hle (List.le_refl _)
      rw [Bool.false_or, decide_eq_false hle, if_neg hx]
      simp only [Bool.and_false, Bool.false_eq_true, if_false, List.nil_append, List.singleton_append]
      refine List.pairwise_cons.2 ⟨fun y hy => ?_, insF_sorted s l h2⟩
      rcases (insF_mem s y l false).1 hy with h3 | h3
      · exact h1 y h3.1
      · rw [h3.2]; exact hlt
theorem sorted_eq : ∀ {l m : List Bt}, l.Pairwise (· < ·) → m.Pairwise (· < ·) → (∀ y, y ∈ l ↔ y ∈ m) → l = m
  | [], [], _, _, _ => rfl
  | [], b :: m, _, _, h => by have := (h b).2 List.mem_cons_self; cases this
  | a :: l, [], _, _, h => by have := (h a).1 List.mem_cons_self; cases this
  | a :: l, b :: m, hl, hm, h => by
    obtain ⟨l1, l2⟩ := List.pairwise_cons.1 hl
    obtain ⟨m1, m2⟩ := List.pairwise_cons.1 hm
    have hab : a = b := by
      rcases List.mem_cons.1 ((h a).1 List.mem_cons_self) with h1 | h1
      · exact h1
      · rcases List.mem_cons.1 ((h b).2 List.mem_cons_self) with h2 | h2
        · exact h2.symm
        · exact absurd (List.lt_trans (m1 a h1) (l1 b h2)) (List.lt_irrefl b)
    subst hab
    rw [sorted_eq l2 m2 fun y => ?_]
    constructor
    · intro hy
      rcases List.mem_cons.1 ((h y).1 (List.mem_cons_of_mem _ hy)) with h1 | h1
      · subst h1; exact absurd (l1 y hy) (List.lt_irrefl y)
      · exact h1
    · intro hy
      rcases List.mem_cons.1 ((h y).2 (List.mem_cons_of_mem _ hy)) with h1 | h1
      · subst h1; exact absurd (m1 y hy) (List.lt_irrefl y)
      · exact h1

/-! ### Compacting a sorted list -/
theorem compact_mem_of (zs : List Bt) (y : Bt) (h : y ∈ Lib.compact zs) : y ∈ zs := by
  unfold Lib.compact Lib.compactUpTo at h
  obtain ⟨j, hj, rfl⟩ := List.mem_map.1 h
  have hj' := List.mem_range.1 (List.mem_filter.1 hj).1
  rw [getElem!_pos zs.toArray j (by simpa using hj')]
  simp
theorem compact_mem_to (zs : List Bt) : ∀ (j : Nat) (h : j < zs.length), zs[j] ∈ Lib.compact zs
  | 0, h => by
    unfold Lib.compact Lib.compactUpTo
    refine List.mem_map.2 ⟨0, List.mem_filter.2 ⟨List.mem_range.2 h, by simp [Lib.keeps]⟩, ?_⟩
    rw [getElem!_pos zs.toArray 0 (by simpa using h)]
    simp
  | j + 1, h => by
    by_cases e : zs[j + 1] = zs[j]
    · rw [e]; exact compact_mem_to zs j (by omega)
    · unfold Lib.compact Lib.compactUpTo
      refine List.mem_map.2 ⟨j + 1, List.mem_filter.2 ⟨List.mem_range.2 h, ?_⟩, ?_⟩
      · refine Lib.keeps_pos ?_
        rw [getElem!_pos zs.toArray (j + 1) (by simpa using h), getElem!_pos zs.toArray (j + 1 - 1) (by simp; omega)]
        simpa using e
      · rw [getElem!_pos zs.toArray (j + 1) (by simpa using h)]
        simp
theorem compact_sorted (zs : List Bt) (h : zs.Pairwise (· ≤ ·)) : (Lib.compact zs).Pairwise (· < ·) := by
  unfold Lib.compact Lib.compactUpTo
  rw [List.pairwise_map]
  have hr : ((List.range zs.length).filter (Lib.keeps zs.toArray)).Pairwise (· < ·) := List.Pairwise.filter _ List.pairwise_lt_range
  refine List.Pairwise.imp_of_mem (R := (· < ·)) (fun {i j} hi hj hij => ?_) hr
  have hil := List.mem_range.1 (List.mem_filter.1 hi).1
  have hjl := List.mem_range.1 (List.mem_filter.1 hj).1
  have hk := (List.mem_filter.1 hj).2
  have hk2 : zs.toArray[j]! ≠ zs.toArray[j - 1]! := by
    rcases of_decide_eq_true hk with h0 | h0
    · omega
    · exact h0
  rw [getElem!_pos zs.toArray j (by simpa using hjl), getElem!_pos zs.toArray (j - 1) (by simp; omega)] at hk2
  rw [getElem!_pos zs.toArray j (by simpa using hjl), getElem!_pos zs.toArray i (by simpa using hil)]
  simp only [List.getElem_toArray] at hk2 ⊢
  have hp := List.pairwise_iff_getElem.1 h
  have h1 : zs[j - 1] < zs[j] := by
    rcases List.le_iff_lt_or_eq.1 (hp (j - 1) j (by omega) hjl (by omega)) with h2 | h2
    · exact h2
    · exact absurd h2.symm hk2
  by_cases e : i = j - 1
  · subst e; exact h1
  · exact List.lt_of_le_of_lt (hp i (j - 1) hil (by omega) (by omega)) h1
/-- Sorting and compacting is inserting one by one. -/
theorem foldl_ins : ∀ (l a : List Bt), a.Pairwise (· < ·) → (l.foldl insB a).Pairwise (· < ·) ∧ ∀ y, y ∈ l.foldl insB a ↔ y ∈ a ∨ y ∈ l
  | [], a, h => ⟨h, fun y => by simp⟩
  | s :: l, a, h => by
    obtain ⟨h1, h2⟩ := foldl_ins l (insB a s) (insF_sorted s a h)
    refine ⟨h1, fun y => ?_⟩
    rw [List.foldl_cons, h2, List.mem_cons]
    unfold insB
    rw [insF_mem]
    by_cases hy : y = s
    · simp [hy]
    · simp [hy]
theorem mergeSort_sorted (l : List Bt) : (l.mergeSort fun x y => decide (x ≤ y)).Pairwise (· ≤ ·) := by
  have h := List.pairwise_mergeSort (le := fun x y : Bt => decide (x ≤ y)) (fun a b c h1 h2 => decide_eq_true (List.le_trans (of_decide_eq_true h1) (of_decide_eq_true h2))) (fun a b => by
    rcases List.le_total a b with h | h
    · simp [h]
    · simp [h]) l
  exact h.imp fun h => of_decide_eq_true h
theorem exports_eq (l : List Bt) : Lib.compact (l.mergeSort fun x y => decide (x ≤ y)) = l.foldl insB [] := by
  obtain ⟨h1, h2⟩ := foldl_ins l [] List.Pairwise.nil
  refine sorted_eq (compact_sorted _ (mergeSort_sorted l)) h1 fun y => ?_
  rw [h2]
  constructor
  · intro h
    exact .inr (List.mem_mergeSort.1 (compact_mem_of _ y h))
  · rintro (h | h)
    · cases h
    · obtain ⟨j, hj, rfl⟩ := List.getElem_of_mem (List.mem_mergeSort (le := fun x y : Bt => decide (x ≤ y)).2 h)
      exact compact_mem_to _ j hj

end Go.Proofs.YtjimgkefacnamaaGreatDoor.C

/- Exports: object.Exports. Lists of strings that the call made, sorted and compacted. -/
namespace Go.Proofs.YtjimgkefacnamaaGreatDoor
open Go.RowKit Go.Maps Go.ChangeMaps Go.Sort

/-- The slice v holds these strings, in a row of the call's own. -/
def OwnS (w : World) (base : Nat) (v : Value) (n : Nat) (l : List C.Bs) : Prop := n = l.length ∧ OwnAt w base 9 1 v n (l.map encStr)
theorem OwnS.ext {w w' : World} {base n : Nat} {v : Value} {l : List C.Bs} (h : OwnS w base v n l) (he : Ext w w') : OwnS w' base v n l := ⟨h.1, h.2.ext he⟩
theorem OwnS.nil (w : World) (base : Nat) : OwnS w base (.slice none 0 0) 0 [] := ⟨rfl, OwnAt.nil _ _ _ _⟩
/-- It returns these strings, in a slice of its own. -/
def RetS (w : World) (l : List C.Bs) (e : Ending) (w' : World) : Prop := Ext w w' ∧ ∃ v n, e = .returned v ∧ OwnS w' w.heap.size v n l

theorem heap_put {w : World} {g off : Nat} {cur : Array Value} {e : TypeId} {fr : Nat × Nat} (d : Array C.Bs) (hb : w.heap[g]? = some (.cells cur e fr)) (n : Nat) (os : Array Obj) :
    (grow (putRow encStr (Sort.ahead w n) g off d) os).heap[g]? = some (.cells (putCells encStr off d cur) e fr) := by
  have hg : g < w.heap.size := (Array.getElem?_eq_some_iff.1 hb).1
  rw [heap_grow_old _ _ (by simpa using hg)]
  simp [putRow, mapBlock, Sort.ahead, Array.getElem?_modify, hb, onCells]
theorem grownBy_put {w : World} {g off n : Nat} {os : Array Obj} (d : Array C.Bs) : w.grownBy (grow (putRow encStr (Sort.ahead w n) g off d) os) (some g) := by
  refine ⟨rfl, rfl, rfl, by simp, fun k hk hne => ?_⟩
  rw [heap_grow_old _ _ (by simpa using hk)]
  have : g ≠ k := fun e => hne (by rw [e])
  simp [putRow, mapBlock, Sort.ahead, Array.getElem?_modify, this]
theorem OwnS.holds {w : World} {base g off cap n : Nat} {l : List C.Bs} (h : OwnS w base (.slice (some ⟨g, off, none⟩) n cap) n l) : Holds encStr w g off l.toArray ∧ g < w.heap.size ∧ base ≤ g ∧ n ≤ cap := by
  obtain ⟨hn, h1, ⟨h2, _⟩ | ⟨g', off', cap', cur, hv, hb, hh, hnc, hc, hs, hx⟩⟩ := h
  · cases h2
  · cases hv
    refine ⟨fun j hj => ?_, (Array.getElem?_eq_some_iff.1 hh).1, hb, hnc⟩
    have hj' : j < l.length := by simpa using hj
    refine ⟨?_, by simp [World.frozen?, hh]⟩
    rw [cell_of_row w g _ cur 9 (0, 0) hh, hx j (by omega)]
    simp [hj']
theorem OwnS.put {w : World} {base g off cap n : Nat} {l m : List C.Bs} (h : OwnS w base (.slice (some ⟨g, off, none⟩) n cap) n l) (k : Nat) (os : Array Obj) (d : Array C.Bs) (hd : d.size = n) (hm : m = d.toList.take m.length) :
    OwnS (grow (putRow encStr (Sort.ahead w k) g off d) os) base (.slice (some ⟨g, off, none⟩) m.length cap) m.length m := by
  obtain ⟨hn, h1, ⟨h2, _⟩ | ⟨g', off', cap', cur, hv, hb, hh, hnc, hc, hs, hx⟩⟩ := h
  · cases h2
  · cases hv
    have hml : m.length ≤ n := by
      have := congrArg List.length hm
      simp at this
      omega
    refine ⟨rfl, by simp, .inr ⟨g, off, cap, _, rfl, hb, heap_put d hh k os, by omega, hc, by simp [putCells]; omega, fun j hj => ?_⟩⟩
    have hj' : j < m.length := by omega
    have hjd : j < d.size := by omega
    have e1 : m[j]? = some d[j] := by
      rw [hm, List.getElem?_take_of_lt hj', Array.getElem?_toList, Array.getElem?_eq_getElem hjd]
    simp only [putCells, Array.getElem?_mapIdx, List.getElem?_map, e1, Option.map_some]
    rw [Array.getElem?_eq_getElem (show off + j < cur.size by omega), Option.map_some, if_pos ⟨by omega, by omega⟩, show off + j - off = j by omega, getElem!_pos d j hjd]

theorem sort_own (L : List C.Bs) (g off cap base n : Nat) (w : World) (h : OwnS w base (.slice (some ⟨g, off, none⟩) n cap) n L) (hl : n ≤ 100000) :
    Calls Tryz.prog 45 #[.slice (some ⟨g, off, none⟩) n cap] w fun e w' => e = .returned (.tuple #[]) ∧ OwnS w' base (.slice (some ⟨g, off, none⟩) n cap) n (L.mergeSort fun x y => decide (x ≤ y)) ∧ w.grownBy w' (some g) := by
  obtain ⟨h1, h2, _, _⟩ := h.holds
  have hn := h.1
  subst hn
  refine (Tryz.slices_Sort_string g off cap L w h1 h2 (by omega)).mono ?_
  rintro e w' ⟨rfl, k, os, rfl⟩
  refine ⟨rfl, ?_, grownBy_put _⟩
  have := h.put (m := L.mergeSort fun x y => decide (x ≤ y)) k os (L.mergeSort fun x y => decide (x ≤ y)).toArray (by simp) (List.take_of_length_le (Nat.le_refl _)).symm
  rwa [List.length_mergeSort] at this
theorem compact_own (L : List C.Bs) (g off cap base n : Nat) (w : World) (h : OwnS w base (.slice (some ⟨g, off, none⟩) n cap) n L) (hl : n ≤ 100000) :
    Calls Tryz.prog 46 #[.slice (some ⟨g, off, none⟩) n cap] w fun e w' => e = .returned (.slice (some ⟨g, off, none⟩) (Lib.compact L).length cap) ∧ OwnS w' base (.slice (some ⟨g, off, none⟩) (Lib.compact L).length cap) (Lib.compact L).length (Lib.compact L) ∧ w.grownBy w' (some g) := by
  obtain ⟨h1, h2, _, h4⟩ := h.holds
  have hn := h.1
  subst hn
  refine (Tryz.slices_Compact_string g off cap L w h1 (by omega) h4).mono ?_
  rintro e w' ⟨rfl, k, rfl⟩
  have hle := Lib.compact_length_le L
  have hp := h.put (m := Lib.compact L) k #[] (Lib.compact L ++ List.replicate (L.length - (Lib.compact L).length) []).toArray (by simp; omega) (by simp)
  have hg := grownBy_put (w := w) (g := g) (off := off) (n := k) (os := #[]) (Lib.compact L ++ List.replicate (L.length - (Lib.compact L).length) []).toArray
  rw [grow_empty] at hp hg
  exact ⟨rfl, hp, hg⟩
theorem Ext.own {a b c : World} (h : Ext a b) {g : Nat} (hg : a.heap.size ≤ g) (k : b.grownBy c (some g)) : Ext a c := Below.grown h k h.size fun _ hk => by cases hk; exact hg

/-- The names that are exported, in their order. -/
def expL (l : List C.Sym) : List C.Bs := (l.filter fun s => decide (s.2.1 = 1) || decide (s.2.1 = 2)).map C.nm
theorem expL_snoc (l : List C.Sym) (s : C.Sym) : expL (l ++ [s]) = expL l ++ if s.2.1 = 1 ∨ s.2.1 = 2 then [C.nm s] else [] := by
  unfold expL
  rw [List.filter_append, List.map_append]
  by_cases h : s.2.1 = 1 ∨ s.2.1 = 2
  · rw [if_pos h]
    rcases h with h | h <;> simp [h]
  · rw [if_neg h]
    have h1 : s.2.1 ≠ 1 := fun e => h (.inl e)
    have h2 : s.2.1 ≠ 2 := fun e => h (.inr e)
    simp [h1, h2]
theorem expL_len (l : List C.Sym) : (expL l).length ≤ l.length := by
  unfold expL
  rw [List.length_map]
  exact List.length_filter_le _ _
theorem expL_yes {l : List C.Sym} {k : Nat} (hk : k < l.length) {s : ByteArray} {m q : Int} (hg : l[k] = (s, m, q)) (h : m = 1 ∨ m = 2) : expL (l.take (k + 1)) = expL (l.take k) ++ [s.data.toList] := by
  rw [List.take_succ_eq_append_getElem hk, expL_snoc, hg, if_pos h]
  rfl
theorem expL_no {l : List C.Sym} {k : Nat} (hk : k < l.length) {s : ByteArray} {m q : Int} (hg : l[k] = (s, m, q)) (h : ¬ (m = 1 ∨ m = 2)) : expL (l.take (k + 1)) = expL (l.take k) := by
  rw [List.take_succ_eq_append_getElem hk, expL_snoc, hg, if_neg h, List.append_nil]

theorem mkB_enc (s : ByteArray) : Value.string s = encStr s.data.toList := by cases s; rfl
theorem cells_new_str (W : World) (s : ByteArray) (b : Nat) (hb : b = W.heap.size) : ∀ j u, ([s.data.toList].map encStr)[j]? = some u → (W.alloc (.cells #[.string s] 9)).cell? ((⟨b, 0, none⟩ : Addr).add j) = some u := by
  subst hb
  intro j u hj
  rw [Addr.add_lit, Nat.zero_add, cell_new, mkB_enc]
  cases j with
  | zero => simpa using hj
  | succ j => simp at hj
theorem enc_one (l : List C.Bs) : ∀ u ∈ l.map encStr, u.oneCell' = true := by intro u hu; obtain ⟨n, _, rfl⟩ := List.mem_map.1 hu; rfl

set_option maxRecDepth 8000 in
set_option maxHeartbeats 2000000 in
theorem Exports_any (l : List C.Sym) (A B : Option Addr) (c d n m : Nat) (w : World) (hn : n = l.length) (hA : SliceAt symR w (Old w) A c l) (hn2 : n ≤ 100000) :
    Calls Tryz.prog 17 #[.agg #[.slice A n c, .slice B m d]] w (RetS w ((expL l).foldl C.insB [])) := by
  obtain ⟨i0, hi, hz0, hz1, hz2⟩ := info_parts str_info
  obtain ⟨R, hR⟩ : ∃ R, R = (expL l).foldl C.insB [] := ⟨_, rfl⟩
  rw [← hR]
  have HRR := Lib.hid hR
  clear hR
  have HN := Lib.hid hn
  have HA := Lib.hid hA
  have b0 : (w.alloc (.cells #[.slice A n c, .slice B m d] 25)).cell? ⟨w.heap.size, 0, none⟩ = some (.slice A n c) := cell_new w #[.slice A n c, .slice B m d] 25 0
  clear hn hA
  go_enter Tryz.func17, Tryz.ntmps17
  go_wp2_with fail
  go_loopw [3, 9] (fun v i wr => ∃ k : Nat, k ≤ n ∧ i = .int .i64 k ∧ Hid (OwnS wr w.heap.size v (expL (l.take k)).length (expL (l.take k)) ∧ Ext w wr)) (fun _ i _ => n - (intOf i).toNat)
  case atStart => exact ⟨0, Nat.zero_le _, rfl, OwnS.nil _ _, (Ext.refl w).alloc _⟩
  case round =>
    obtain ⟨k, hk, rfl, HK⟩ := hrel
    by_cases hlt : k < n
    · have hkz : k < l.length := by rw [← HN.out]; exact hlt
      obtain ⟨b, off, s, md, sc, rfl, hg, hs, hwm, hws, hc⟩ := sym_get HA.out hkz
      have hgk : l[k] = (s, md, sc) := by rw [List.getElem?_eq_getElem hkz] at hg; simpa using hg
      obtain ⟨c1, c2, c3⟩ := hc wr HK.out.2
      by_cases hm : md = 1 ∨ md = 2
      · have HE := Lib.hid (expL_yes hkz hgk hm)
        have hll : (expL (l.take k)).length ≤ 100000 := by
          have := expL_len (l.take k)
          rw [List.length_take] at this
          omega
        have HLL := Lib.hid hll
        obtain ⟨L, hL⟩ : ∃ L, L = expL (l.take k) := ⟨_, rfl⟩
        have HK2 := HK.out
        rw [← hL] at HK2 hll
        have HE2 : Hid (expL (l.take (k + 1)) = L ++ [s.data.toList]) := by rw [hL]; exact HE.out
        have HE0 := Lib.hid HK2.2
        have hown := HK2.1.2
        have hsE : Value.string s = encStr s.data.toList := mkB_enc s
        have HSE := Lib.hid hsE
        clear hc hg hgk HE HK2 hL hsE
        rcases hm with rfl | rfl
        all_goals
          go_wp2_with (at_builtin; refine wpList_append_ownAt _ rfl (.tmp 21) (.tmp 24) 35 rfl w.heap.size 9 i0 (.string ⟨#[]⟩) 1 16 Tryz.underlying35 hi hz0 hz1 hz2 rfl (by decide) _ _ _ rfl ((hown.alloc _).alloc _) ⟨wr.heap.size + 1, 0, none⟩ 1 1 ([s.data.toList].map encStr) rfl rfl (cells_new_str _ _ _ (by simp)) (enc_one _) (by unfold maxLen; omega) (by omega) (by have := HE0.out.size; simp at this ⊢; omega) (by decide) ?_; intro v2 w2 hown2 hg2 _ _)
          go_roundw
          case rel => exact ⟨k + 1, by omega, by go_num, by rw [HE2.out]; exact ⟨by simp, by rw [List.length_append, List.map_append]; exact hown2⟩, ((HE0.out.alloc _).alloc _).grown hown hg2⟩
          case measure => simp [intOf]; omega
      · have HE := Lib.hid (expL_no hkz hgk hm)
        have h1 : (md == 1) = false := beq_eq_false_iff_ne.2 fun e => hm (.inl e)
        have h2 : (md == 2) = false := beq_eq_false_iff_ne.2 fun e => hm (.inr e)
        clear hc hg hgk hm
        go_wp2_with fail
        go_roundw
        case rel => exact ⟨k + 1, by omega, by go_num, by rw [HE.out]; exact HK.out.1.ext ((Ext.refl _).alloc _), HK.out.2.alloc _⟩
        case measure => simp [intOf]; omega
    · obtain rfl : k = n := by omega
      obtain ⟨L, hL⟩ : ∃ L, L = expL l := ⟨_, rfl⟩
      have hKK : OwnS wr w.heap.size u3 L.length L ∧ Ext w wr := by
        have := HK.out
        rwa [List.take_of_length_le (by have := HN.out; omega), ← hL] at this
      have HLL := Lib.hid (show L.length ≤ 100000 by rw [hL]; have := expL_len l; have := HN.out; omega)
      have HR : Hid (R = Lib.compact (L.mergeSort fun x y => decide (x ≤ y))) := by unfold Hid; rw [HRR.out, hL, C.exports_eq]
      have hv := hKK.1
      have HE0 := Lib.hid hKK.2
      clear hKK hL HK HRR
      rcases hv.2.2 with ⟨rfl, h0⟩ | ⟨g, off, cap, cur, rfl, hgb, _, _, _, _, _⟩
      · obtain rfl : L = [] := List.eq_nil_of_length_eq_zero h0
        clear hv h0
        go_wp2_with fail
        refine (Tryz.slices_Sort_string_none none 0 wr).mono ?_
        rintro e w1 ⟨rfl, rfl⟩
        go_wp2_with fail
        refine (Tryz.slices_Compact_string_empty none 0 _).mono ?_
        rintro e w2 ⟨rfl, rfl⟩
        go_wp2_with fail
        go_ret
        have hR0 : R = [] := by rw [HR.out, C.exports_eq]; rfl
        exact ⟨HE0.out, _, 0, rfl, by rw [hR0]; exact OwnS.nil _ _⟩
      · have HV := Lib.hid hv
        have HGB := Lib.hid hgb
        obtain ⟨q, hq⟩ : ∃ q, q = L.length := ⟨_, rfl⟩
        rw [← hq] at HV HLL ⊢
        have HQ := Lib.hid hq
        clear hv hq hgb
        go_wp2_with fail
        refine (sort_own L g off cap w.heap.size q wr HV.out HLL.out).mono ?_
        rintro e w1 ⟨rfl, h1, h2⟩
        have H1 := Lib.hid h1
        have HE1 := Lib.hid (HE0.out.own HGB.out h2)
        clear h1 h2
        go_wp2_with fail
        refine (compact_own _ g off cap w.heap.size q w1 H1.out HLL.out).mono ?_
        rintro e w2 ⟨rfl, h1, h2⟩
        rw [← HR.out] at h1 ⊢
        have H2 := Lib.hid h1
        have HE2 := Lib.hid (HE1.out.own HGB.out h2)
        clear h1 h2
        go_wp2_with fail
        go_ret
        exact ⟨HE2.out, _, _, rfl, H2.out⟩

end Go.Proofs.YtjimgkefacnamaaGreatDoor

/- The reference's Insert and Exports. -/
namespace Go.Proofs.YtjimgkefacnamaaGreatDoor
open Go.RowKit Go.Maps Go.ChangeMaps Go.Sort

/-- The form of such a slice, and its cells. -/
theorem OwnS.form {w : World} {base n : Nat} {v : Value} {l : List C.Bs} (h : OwnS w base v n l) :
    ∃ A c, v = .slice A n c ∧ n ≤ c ∧ ∀ j (_ : j < l.length), ∃ g off x, A = some ⟨g, off, none⟩ ∧ l[j]? = some x.data.toList ∧ ∀ w', Ext w w' → w'.cell? ⟨g, off + j, none⟩ = some (.string x) := by
  obtain ⟨hn, hl, ⟨rfl, rfl⟩ | ⟨g, off, cap, cur, rfl, hb, hh, hnc, hc, hs, hx⟩⟩ := h
  · exact ⟨none, 0, rfl, Nat.le_refl _, fun j hj => by omega⟩
  · refine ⟨_, cap, rfl, hnc, fun j hj => ⟨g, off, ⟨l[j].toArray⟩, rfl, by rw [List.getElem?_eq_getElem hj], fun w' he => he.keepc ?_⟩⟩
    rw [cell_of_row w g _ cur 9 (0, 0) hh, hx j (by omega)]
    simp [hj]

theorem bytesLess_dec : ∀ (x y : List UInt8), Op.bytesLess x y = decide (x < y)
  | [], [] => by simp [Op.bytesLess]
  | _ :: _, [] => by simp [Op.bytesLess]
  | [], _ :: _ => by simp [Op.bytesLess]
  | a :: x, b :: y => by
    rw [Op.bytesLess, bytesLess_dec x y]
    simp only [List.cons_lt_cons_iff]
    by_cases h1 : a < b <;> by_cases h2 : a = b <;> by_cases h3 : x < y <;> simp [h1, h2, h3]
theorem less_le (x y : ByteArray) : Op.bytesLess x.toList y.toList = !decide (y.data.toList ≤ x.data.toList) := by
  rw [bytesLess_dec, ByteArray.toList_eq, ByteArray.toList_eq]
  generalize x.data.toList = a
  generalize y.data.toList = b
  by_cases h : b ≤ a
  · have h2 : ¬ a < b := fun h' => absurd (List.lt_of_le_of_lt h h') (List.lt_irrefl b)
    rw [decide_eq_false h2, decide_eq_true h]
    rfl
  · rw [decide_eq_true (C.lt_of_not_le h), decide_eq_false h]
    rfl
theorem eq_dec (x y : ByteArray) : (x.toList == y.toList) = decide (x.data.toList = y.data.toList) := by
  rw [ByteArray.toList_eq, ByteArray.toList_eq]
  generalize x.data.toList = a
  generalize y.data.toList = b
  by_cases h : a = b <;> simp [h]
/-- One round of Insert. -/
theorem ins_step {l L R : List C.Bs} {s : C.Bs} {x : ByteArray} {k : Nat} {d : Bool} (h : L ++ C.insF s (l.drop k) d = R) (hk : k < l.length) (hx : l[k]? = some x.data.toList) :
    L ++ ((if !d && decide (s ≤ x.data.toList) then [s] else []) ++ (if x.data.toList = s then [] else [x.data.toList])) ++ C.insF s (l.drop (k + 1)) (d || decide (s ≤ x.data.toList)) = R := by
  have e : l[k] = x.data.toList := by rw [List.getElem?_eq_getElem hk] at hx; exact Option.some.inj hx
  rw [List.drop_eq_getElem_cons hk, e, C.insF] at h
  rw [← h]
  simp
theorem ins_ways {l L R : List C.Bs} {s x : ByteArray} {k : Nat} {d : Bool} (h : L ++ C.insF s.data.toList (l.drop k) d = R) (hk : k < l.length) (hx : l[k]? = some x.data.toList) :
    (d = true ∧ (x.toList == s.toList) = true ∧ (!(x.toList == s.toList)) = false ∧ Hid (L ++ C.insF s.data.toList (l.drop (k + 1)) true = R)) ∨
    (d = true ∧ (x.toList == s.toList) = false ∧ (!(x.toList == s.toList)) = true ∧ Hid (L ++ [x.data.toList] ++ C.insF s.data.toList (l.drop (k + 1)) true = R)) ∨
    (d = false ∧ (Op.bytesLess x.toList s.toList = false ∧ (!Op.bytesLess x.toList s.toList) = true) ∧ ((x.toList == s.toList) = true ∧ (!(x.toList == s.toList)) = false) ∧ Hid (L ++ [s.data.toList] ++ C.insF s.data.toList (l.drop (k + 1)) true = R)) ∨
    (d = false ∧ (Op.bytesLess x.toList s.toList = false ∧ (!Op.bytesLess x.toList s.toList) = true) ∧ ((x.toList == s.toList) = false ∧ (!(x.toList == s.toList)) = true) ∧ Hid (L ++ [s.data.toList] ++ [x.data.toList] ++ C.insF s.data.toList (l.drop (k + 1)) true = R)) ∨
    (d = false ∧ (Op.bytesLess x.toList s.toList = true ∧ (!Op.bytesLess x.toList s.toList) = false) ∧ ((x.toList == s.toList) = false ∧ (!(x.toList == s.toList)) = true) ∧ Hid (L ++ [x.data.toList] ++ C.insF s.data.toList (l.drop (k + 1)) false = R)) := by
  have hst := ins_step h hk hx
  rw [less_le, eq_dec]
  unfold Hid
  by_cases hE : x.data.toList = s.data.toList
  · have hA : s.data.toList ≤ x.data.toList := by rw [hE]; exact List.le_refl _
    rw [decide_eq_true hA, if_pos hE] at hst
    rw [decide_eq_true hA, decide_eq_true hE]
    cases d
    · refine .inr (.inr (.inl ⟨rfl, ⟨rfl, rfl⟩, ⟨rfl, rfl⟩, ?_⟩))
      rw [← hst]; simp
    · refine .inl ⟨rfl, rfl, rfl, ?_⟩
      rw [← hst]; simp
  · rw [if_neg hE] at hst
    rw [decide_eq_false hE]
    cases d
    · by_cases hA : s.data.toList ≤ x.data.toList
      · rw [decide_eq_true hA] at hst ⊢
        refine .inr (.inr (.inr (.inl ⟨rfl, ⟨rfl, rfl⟩, ⟨rfl, rfl⟩, ?_⟩)))
        rw [← hst]; simp
      · rw [decide_eq_false hA] at hst ⊢
        refine .inr (.inr (.inr (.inr ⟨rfl, ⟨rfl, rfl⟩, ⟨rfl, rfl⟩, ?_⟩)))
        rw [← hst]; simp
    · refine .inr (.inl ⟨rfl, rfl, rfl, ?_⟩)
      rw [← hst]; simp
theorem ins_end {l L R : List C.Bs} {s : C.Bs} {k : Nat} {d : Bool} (h : L ++ C.insF s (l.drop k) d = R) (hk : l.length ≤ k) : (L ++ if d then [] else [s]) = R := by
  rw [List.drop_eq_nil_of_le hk] at h
  exact h
theorem own_snoc2 {w : World} {base n : Nat} {v : Value} {L : List C.Bs} {s : ByteArray} (hn : n = L.length) (h : OwnAt w base 9 1 v (n + 1) (L.map encStr ++ [s.data.toList].map encStr)) : OwnS w base v (L ++ [s.data.toList]).length (L ++ [s.data.toList]) :=
  ⟨rfl, by rw [List.length_append, List.map_append]; rw [hn] at h; exact h⟩

set_option maxRecDepth 8000 in
set_option maxHeartbeats 4000000 in
theorem Insert_any (l : List C.Bs) (v : Value) (n base : Nat) (s : ByteArray) (w : World) (h : OwnS w base v n l) (hn2 : n ≤ 100000) :
    Calls Tryz.prog 47 #[v, .string s] w (RetS w (C.insB l s.data.toList)) := by
  obtain ⟨i0, hi, hz0, hz1, hz2⟩ := info_parts str_info
  have HN := Lib.hid h.1
  obtain ⟨A, c, rfl, _, hcs⟩ := h.form
  have HCS := Lib.hid hcs
  obtain ⟨R, hR⟩ : ∃ R, R = C.insB l s.data.toList := ⟨_, rfl⟩
  rw [← hR]
  have HR := Lib.hid hR
  clear h hcs hR
  go_enter Tryz.func47, Tryz.ntmps47
  go_wp2_with fail
  go_loopw [5, 6, 11] (fun v dn i wr => ∃ (k : Nat) (d : Bool) (L : List C.Bs), k ≤ n ∧ L.length ≤ k + 1 ∧ i = .int .i64 k ∧ dn = .bool d ∧ Hid (L ++ C.insF s.data.toList (l.drop k) d = R ∧ OwnS wr w.heap.size v L.length L ∧ Ext w wr ∧ (d = false → L.length ≤ k))) (fun _ _ i _ => n - (intOf i).toNat)
  case atStart => exact ⟨0, false, [], Nat.zero_le _, by simp, rfl, rfl, HR.out.symm, OwnS.nil _ _, Ext.refl w, fun _ => Nat.le_refl 0⟩
  case round =>
    obtain ⟨k, d, L, hk, hL, rfl, rfl, HK⟩ := hrel
    by_cases hlt : k < n
    · have hkz : k < l.length := by rw [← HN.out]; exact hlt
      obtain ⟨g, off, x, rfl, hg, hc⟩ := HCS.out k hkz
      have c1 := hc wr HK.out.2.2.1
      have hways := ins_ways HK.out.1 hkz hg
      have HO := Lib.hid HK.out.2.1.2
      have HX := Lib.hid HK.out.2.2.1
      have HLQ := Lib.hid hL
      have HD := HK.out.2.2.2
      obtain ⟨q, hq⟩ : ∃ q, q = L.length := ⟨_, rfl⟩
      have HQ := Lib.hid hq
      rw [← hq] at HO HLQ HD
      clear hc hg hq HK hL
      have hq2 := HLQ.out
      have hown := HO.out
      have hbs := HX.out.size
      rcases hways with ⟨rfl, e1, e2, H9⟩ | ⟨rfl, e1, e2, H9⟩ | ⟨rfl, ⟨e3, e4⟩, ⟨e1, e2⟩, H9⟩ | ⟨rfl, ⟨e3, e4⟩, ⟨e1, e2⟩, H9⟩ | ⟨rfl, ⟨e3, e4⟩, ⟨e1, e2⟩, H9⟩
      · clear HD
        go_wp2_with fail
        go_roundw
        case rel => exact ⟨k + 1, true, L, by omega, by have := HQ.out; omega, by go_num, rfl, H9.out, ⟨rfl, by rw [← HQ.out]; exact hown⟩, HX.out, fun h => by cases h⟩
        case measure => simp [intOf]; omega
      · clear HD
        go_wp2_with (at_builtin; refine wpList_append_ownAt _ rfl (.tmp 29) (.tmp 31) 35 rfl w.heap.size 9 i0 (.string ⟨#[]⟩) 1 16 Tryz.underlying35 hi hz0 hz1 hz2 rfl (by decide) _ _ _ rfl (hown.alloc _) ⟨wr.heap.size, 0, none⟩ 1 1 ([x.data.toList].map encStr) rfl rfl (cells_new_str _ _ _ rfl) (enc_one _) (by unfold maxLen; omega) (by omega) (by simp; omega) (by decide) ?_; intro v2 w2 hown2 hg2 _ _)
        go_roundw
        case rel => exact ⟨k + 1, true, L ++ [x.data.toList], by omega, by have := HQ.out; simp; omega, by go_num, rfl, H9.out, own_snoc2 HQ.out hown2, (HX.out.alloc _).grown hown hg2, fun h => by first | (cases h; done) | (have := HQ.out; simp; omega)⟩
        case measure => simp [intOf]; omega
      · have hd := HD rfl
        clear HD
        go_wp2_with (at_builtin; refine wpList_append_ownAt _ rfl (.tmp 22) (.tmp 24) 35 rfl w.heap.size 9 i0 (.string ⟨#[]⟩) 1 16 Tryz.underlying35 hi hz0 hz1 hz2 rfl (by decide) _ _ _ rfl (hown.alloc _) ⟨wr.heap.size, 0, none⟩ 1 1 ([s.data.toList].map encStr) rfl rfl (cells_new_str _ _ _ rfl) (enc_one _) (by unfold maxLen; omega) (by omega) (by simp; omega) (by decide) ?_; intro v2 w2 hown2 hg2 _ _)
        go_roundw
        case rel => exact ⟨k + 1, true, L ++ [s.data.toList], by omega, by have := HQ.out; simp; omega, by go_num, rfl, H9.out, own_snoc2 HQ.out hown2, (HX.out.alloc _).grown hown hg2, fun h => by first | (cases h; done) | (have := HQ.out; simp; omega)⟩
        case measure => simp [intOf]; omega
      · have hd := HD rfl
        clear HD
        go_wp2_with (first | (at_builtin; (refine wpList_append_ownAt _ rfl (.tmp 22) (.tmp 24) 35 rfl w.heap.size 9 i0 (.string ⟨#[]⟩) 1 16 Tryz.underlying35 hi hz0 hz1 hz2 rfl (by decide) _ _ _ rfl (hown.alloc _) ⟨wr.heap.size, 0, none⟩ 1 1 ([s.data.toList].map encStr) rfl rfl (cells_new_str _ _ _ rfl) (enc_one _) (by unfold maxLen; omega) (by omega) (by simp; omega) (by decide) ?_); intro v2 w2 hown2 hg2 _ _; have hs2 := hg2.size; have hs3 : w.heap.size ≤ w2.heap.size := by simp at hs2; omega) | (at_builtin; (refine wpList_append_ownAt _ rfl (.tmp 29) (.tmp 31) 35 rfl w.heap.size 9 i0 (.string ⟨#[]⟩) 1 16 Tryz.underlying35 hi hz0 hz1 hz2 rfl (by decide) _ _ _ rfl (hown2.alloc _) ⟨w2.heap.size, 0, none⟩ 1 1 ([x.data.toList].map encStr) rfl rfl (cells_new_str _ _ _ rfl) (enc_one _) (by unfold maxLen; omega) (by omega) (by simp; omega) (by decide) ?_); intro v3 w3 hown3 hg3 _ _))
        go_roundw
        case rel =>
          refine ⟨k + 1, true, L ++ [s.data.toList] ++ [x.data.toList], by omega, ?_, by go_num, rfl, H9.out, ?_, (((HX.out.alloc _).grown hown hg2).alloc _).grown hown2 hg3, fun h => by cases h⟩
          · have := HQ.out
            simp
            omega
          · refine ⟨by simp, ?_⟩
            have hl : (L ++ [s.data.toList] ++ [x.data.toList]).length = q + 1 + 1 := by have := HQ.out; simp; omega
            rw [hl, List.map_append, List.map_append]
            exact hown3
        case measure => simp [intOf]; omega
      · have hd := HD rfl
        clear HD
        go_wp2_with (at_builtin; refine wpList_append_ownAt _ rfl (.tmp 29) (.tmp 31) 35 rfl w.heap.size 9 i0 (.string ⟨#[]⟩) 1 16 Tryz.underlying35 hi hz0 hz1 hz2 rfl (by decide) _ _ _ rfl (hown.alloc _) ⟨wr.heap.size, 0, none⟩ 1 1 ([x.data.toList].map encStr) rfl rfl (cells_new_str _ _ _ rfl) (enc_one _) (by unfold maxLen; omega) (by omega) (by simp; omega) (by decide) ?_; intro v2 w2 hown2 hg2 _ _)
        go_roundw
        case rel => exact ⟨k + 1, false, L ++ [x.data.toList], by omega, by have := HQ.out; simp; omega, by go_num, rfl, H9.out, own_snoc2 HQ.out hown2, (HX.out.alloc _).grown hown hg2, fun h => by first | (cases h; done) | (have := HQ.out; simp; omega)⟩
        case measure => simp [intOf]; omega
    · have hen := ins_end HK.out.1 (by have := HN.out; omega)
      have HO := Lib.hid HK.out.2.1.2
      have HX := Lib.hid HK.out.2.2.1
      have HLQ := Lib.hid hL
      obtain ⟨q, hq⟩ : ∃ q, q = L.length := ⟨_, rfl⟩
      have HQ := Lib.hid hq
      rw [← hq] at HO HLQ
      clear hq HK hL
      have hq2 := HLQ.out
      have hown := HO.out
      have hbs := HX.out.size
      cases d
      · have HEN := Lib.hid hen
        clear hen
        go_wp2_with (at_builtin; refine wpList_append_ownAt _ rfl (.tmp 36) (.tmp 38) 35 rfl w.heap.size 9 i0 (.string ⟨#[]⟩) 1 16 Tryz.underlying35 hi hz0 hz1 hz2 rfl (by decide) _ _ _ rfl (hown.alloc _) ⟨wr.heap.size, 0, none⟩ 1 1 ([s.data.toList].map encStr) rfl rfl (cells_new_str _ _ _ rfl) (enc_one _) (by unfold maxLen; omega) (by omega) (by simp; omega) (by decide) ?_; intro v2 w2 hown2 hg2 _ _)
        go_ret
        exact ⟨(HX.out.alloc _).grown hown hg2, _, _, rfl, by rw [← HEN.out]; exact own_snoc2 HQ.out hown2⟩
      · have HEN := Lib.hid (show L = R by simpa using hen)
        clear hen
        go_wp2_with fail
        go_ret
        exact ⟨HX.out, _, _, rfl, by rw [← HEN.out]; exact ⟨rfl, by rw [← HQ.out]; exact hown⟩⟩

theorem insF_len (s : C.Bs) : ∀ (l : List C.Bs) (d : Bool), (C.insF s l d).length ≤ l.length + if d then 0 else 1
  | [], d => by cases d <;> simp [C.insF]
  | x :: l, d => by
    have ih := insF_len s l (d || decide (s ≤ x))
    rw [C.insF, List.length_append, List.length_append, List.length_cons]
    have h2 : (if x = s then ([] : List C.Bs) else [x]).length ≤ 1 := by split <;> simp
    cases d
    · by_cases h : s ≤ x
      · simp [h] at ih ⊢; omega
      · simp [h] at ih ⊢; omega
    · simp at ih ⊢; omega
theorem foldl_len : ∀ (l a : List C.Bs), (l.foldl C.insB a).length ≤ a.length + l.length
  | [], a => by simp
  | s :: l, a => by
    have h1 := foldl_len l (C.insB a s)
    have h2 := insF_len s a false
    unfold C.insB at *
    rw [List.foldl_cons, List.length_cons]
    simp at h2
    omega
theorem OwnS.mono {w : World} {base base' n : Nat} {v : Value} {l : List C.Bs} (h : OwnS w base v n l) (hb : base' ≤ base) : OwnS w base' v n l := ⟨h.1, h.2.mono hb⟩

set_option maxRecDepth 8000 in
set_option maxHeartbeats 4000000 in
theorem rExports_any (l : List C.Sym) (A B : Option Addr) (c d n m : Nat) (w : World) (hn : n = l.length) (hA : SliceAt symR w (Old w) A c l) (hn2 : n ≤ 50000) :
    Calls Tryz.prog 18 #[.agg #[.slice A n c, .slice B m d]] w (RetS w ((expL l).foldl C.insB [])) := by
  obtain ⟨R, hR⟩ : ∃ R, R = (expL l).foldl C.insB [] := ⟨_, rfl⟩
  rw [← hR]
  have HRR := Lib.hid hR
  have HN := Lib.hid hn
  have HA := Lib.hid hA
  have b0 : (w.alloc (.cells #[.slice A n c, .slice B m d] 25)).cell? ⟨w.heap.size, 0, none⟩ = some (.slice A n c) := cell_new w #[.slice A n c, .slice B m d] 25 0
  clear hn hA hR
  go_enter Tryz.func18, Tryz.ntmps18
  go_wp2_with fail
  go_loopw [3, 9] (fun v i wr => ∃ (k q : Nat) (L : List C.Bs), k ≤ n ∧ q ≤ 50000 ∧ i = .int .i64 k ∧ Hid (L = (expL (l.take k)).foldl C.insB []) ∧ Hid (OwnS wr w.heap.size v q L ∧ Ext w wr)) (fun _ i _ => n - (intOf i).toNat)
  case atStart => exact ⟨0, 0, [], Nat.zero_le _, Nat.zero_le _, rfl, rfl, OwnS.nil _ _, (Ext.refl w).alloc _⟩
  case round =>
    obtain ⟨k, q, L, hk, hq, rfl, HL, HK⟩ := hrel
    by_cases hlt : k < n
    · have hkz : k < l.length := by rw [← HN.out]; exact hlt
      obtain ⟨b, off, s, md, sc, rfl, hg, hs, hwm, hws, hc⟩ := sym_get HA.out hkz
      have hgk : l[k] = (s, md, sc) := by rw [List.getElem?_eq_getElem hkz] at hg; simpa using hg
      obtain ⟨c1, c2, c3⟩ := hc wr HK.out.2
      have hdr : (expL (l.take (k + 1))).length ≤ 50000 := by
        have := expL_len (l.take (k + 1))
        rw [List.length_take] at this
        omega
      have HDR := Lib.hid hdr
      by_cases hm : md = 1 ∨ md = 2
      · have HE := Lib.hid (expL_yes hkz hgk hm)
        have HI := Lib.hid (fun (w' : World) (h : Ext wr w') => Insert_any L u3 q w.heap.size s w' (HK.out.1.ext h) (by omega))
        have HX := Lib.hid HK.out.2
        clear hc hg hgk hdr HK
        rcases hm with rfl | rfl
        all_goals
          go_wp2_with fail
          refine (HI.out _ ((Ext.refl wr).alloc _)).mono ?_
          rintro e w1 ⟨d1, v1, n1, rfl, ho⟩
          have HO := Lib.hid (show OwnS w1 w.heap.size v1 n1 (C.insB L s.data.toList) from ho.mono (by have := HX.out.size; simp; omega))
          have HX1 := Lib.hid ((HX.out.alloc _).trans d1)
          have HL1 : Hid (C.insB L s.data.toList = (expL (l.take (k + 1))).foldl C.insB []) := by unfold Hid; rw [HE.out, List.foldl_append, ← HL.out]; rfl
          have hn1 : n1 ≤ 50000 := by
            have h1 := HO.out.1
            have h2 := foldl_len (expL (l.take (k + 1))) []
            have h3 := HDR.out
            have h4 := HL1.out
            rw [h1, h4]
            simp at h2
            omega
          clear ho d1
          go_wp2_with fail
          go_roundw
          case rel => exact ⟨k + 1, n1, _, by omega, hn1, by go_num, HL1, HO.out, HX1.out⟩
          case measure => simp [intOf]; omega
      · have HE := Lib.hid (expL_no hkz hgk hm)
        have h1 : (md == 1) = false := beq_eq_false_iff_ne.2 fun e => hm (.inl e)
        have h2 : (md == 2) = false := beq_eq_false_iff_ne.2 fun e => hm (.inr e)
        clear hc hg hgk hm hdr
        go_wp2_with fail
        go_roundw
        case rel => exact ⟨k + 1, q, L, by omega, hq, by go_num, by unfold Hid; rw [HE.out]; exact HL.out, HK.out.1.ext ((Ext.refl _).alloc _), HK.out.2.alloc _⟩
        case measure => simp [intOf]; omega
    · have HE : Hid (L = R) := by
        unfold Hid
        rw [HL.out, HRR.out, List.take_of_length_le (by have := HN.out; omega)]
      go_wp2_with fail
      go_ret
      exact ⟨HK.out.2, _, _, rfl, by rw [← HE.out]; exact HK.out.1⟩

end Go.Proofs.YtjimgkefacnamaaGreatDoor

/- Maps from strings to bools, as sets: what is in them, what is put in. For any program. -/
namespace Go.Proofs.YtjimgkefacnamaaGreatDoor
open Go.RowKit Go.Maps Go.ChangeMaps

/-- The set of these strings. -/
def setD (l : List (List UInt8)) : DataW Unit := l.foldl (fun D x => D.put (.string x) (.lit (.bool true))) (.map [])
theorem setD_snoc (l : List (List UInt8)) (x : List UInt8) : setD (l ++ [x]) = (setD l).put (.string x) (.lit (.bool true)) := by
  unfold setD
  rw [List.foldl_append]
  rfl
theorem setD_map_aux : ∀ (l : List (List UInt8)) (D : DataW Unit), IsMap D → IsMap (l.foldl (fun D x => D.put (.string x) (.lit (.bool true))) D)
  | [], _, h => h
  | _ :: l, _, h => setD_map_aux l _ (h.put _ _)
theorem setD_map (l : List (List UInt8)) : IsMap (setD l) := setD_map_aux l _ isMap_empty
theorem setD_at (x : List UInt8) : ∀ l : List (List UInt8), (setD l).atKey (.string x) (.lit (.bool false)) = .lit (.bool (decide (x ∈ l))) := by
  intro l
  have key : ∀ (r : List (List UInt8)), (setD r.reverse).atKey (.string x) (.lit (.bool false)) = .lit (.bool (decide (x ∈ r))) := by
    intro r
    induction r with
    | nil => rfl
    | cons y r ih =>
      rw [List.reverse_cons, setD_snoc]
      by_cases e : y = x
      · subst e
        rw [atKey_put_same (setD_map _) (show Go.WideAt.IsKeyLit (Lit.string _) from trivial)]
        simp
      · rw [atKey_put_other (by intro h; cases h; exact e rfl), ih]
        have e2 : ¬ x = y := fun h => e h.symm
        simp [e2]
  have := key l.reverse
  rw [List.reverse_reverse] at this
  rw [this]
  simp
/-- The map at b is the set of these strings. -/
def SetTo (P : Program) (k e : TypeId) (w : World) (b n : Nat) (l : List (List UInt8)) : Prop := w.ownsMap (H := Unit) P k (plainElem P e) b n (setD l)
theorem SetTo.ext {P : Program} {k e : TypeId} {w w' : World} {b n : Nat} {l : List (List UInt8)} (h : SetTo P k e w b n l) (he : Ext w w') : SetTo P k e w' b n l := by
  obtain ⟨es, clock, hb, r⟩ := h
  refine ⟨es, clock, (he.block b ?_).trans hb, r⟩
  rcases Nat.lt_or_ge b w.heap.size with h' | h'
  · exact h'
  · rw [Array.getElem?_eq_none h'] at hb; cases hb
theorem SetTo.made (P : Program) (k e : TypeId) (w : World) : SetTo P k e (w.alloc (.map #[] 0)) w.heap.size 0 [] := World.ownsMap_made (H := Unit) w P k (plainElem P e)
theorem SetTo.grown {P : Program} {k e : TypeId} {w w' : World} {b n : Nat} {v : Value} {l : List (List UInt8)} (h : SetTo P k e w b n l) (hg : w.grownBy w' v.ownBlock) (hne : some b ≠ v.ownBlock) : SetTo P k e w' b n l := World.ownsMap.kept h hg hne
theorem plainElem_bool_inv {P : Program} {e : TypeId} (he : P.underlying e = some .bool) {v : Value} {z : DataW Unit × List MemPlace} (h : plainElem P e v = some z) : ∃ a, v = .bool a ∧ z = (.lit (.bool a), []) := by
  unfold plainElem at h
  rw [he] at h
  cases v <;> simp at h
  subst h
  exact ⟨_, rfl, rfl⟩
/-- m[k] of a set. -/
theorem wpList_lookup_set {P : Program} (w : World) {ops : Array Oper} {rest : List Oper} {o : Oper} {a : Act} {Q : Exit → Act → World → Prop}
    (hg : o.guard = none) (m x : Operand) (t : TypeId) (hop : o.op = Op.lookup t m x false)
    (k e : TypeId) (hk : P.underlying k = some .string) (ht : P.underlying t = some (.map k e)) (he : P.underlying e = some .bool) (hz : ∀ w, (zeroValue e).run P w = .ok (.bool false) w) (b n : Nat) (l : List (List UInt8))
    (hm : a.eval m = .map (some b)) (hown : SetTo P k e w b n l) (s : ByteArray) (hx : a.eval x = .string s) (hs : s.size ≤ maxLen)
    (hK : wpList P ops Q rest (a.put o.dst (.bool (decide (s.data.toList ∈ l)))) w) :
    wpList P ops Q (o :: rest) a w := by
  refine wpList_plain hg fun K' hK' => ?_
  obtain ⟨v, ps, hrun, hv⟩ := World.ownsMap.lookup hown (string_keyed hk) ht (hz w) (plainElem_bool he false) (WideMaps.keyOf_string_mk hk hs)
  obtain ⟨c, rfl, hc⟩ := plainElem_bool_inv he hv
  rw [setD_at] at hc
  have hcc : c = decide (s.data.toList ∈ l) := by
    have := congrArg Prod.fst hc
    simpa using this.symm
  subst hcc
  unfold Oper.wp
  simp [execOp, hop, hm, hx, hrun, Result.andThen]
  exact hK' _ _ hK
/-- m[k] = true. -/
theorem wpList_put_set {P : Program} (w : World) {ops : Array Oper} {rest : List Oper} {o : Oper} {a : Act} {Q : Exit → Act → World → Prop}
    (hg : o.guard = none) (m x v : Operand) (t : TypeId) (hop : o.op = Op.mapUpdate t m x v)
    (k e : TypeId) (hk : P.underlying k = some .string) (ht : P.underlying t = some (.map k e)) (he : P.underlying e = some .bool) (b n : Nat) (l : List (List UInt8))
    (hm : a.eval m = .map (some b)) (hown : SetTo P k e w b n l) (hn : n < maxLen) (s : ByteArray) (hx : a.eval x = .string s) (hv : a.eval v = .bool true) (hs : s.size ≤ maxLen)
    (hK : ∀ w', SetTo P k e w' b (n + 1) (l ++ [s.data.toList]) → w.grownBy w' (some b) → wpList P ops Q rest (a.put o.dst undef) w') :
    wpList P ops Q (o :: rest) a w :=
  wpList_mapUpdate_own w hg m x v t hop k e (string_keyed hk) ht (plainElem P e) b n (setD l) hm hown hn _ _ _ hx hv (WideMaps.keyOf_string_mk hk hs) _ [] (plainElem_bool he true) fun w' h1 h2 => hK w' (by unfold SetTo; rw [setD_snoc]; exact h1) h2

end Go.Proofs.YtjimgkefacnamaaGreatDoor

/- Needs: object.Needs and the reference's. -/
namespace Go.Proofs.YtjimgkefacnamaaGreatDoor
open Go.RowKit Go.Maps Go.ChangeMaps Go.Sort

/-- Each string once, in order. -/
def ddp (l : List C.Bs) : List C.Bs := l.foldl (fun a x => if x ∈ a then a else a ++ [x]) []
theorem ddp_snoc (l : List C.Bs) (x : C.Bs) : ddp (l ++ [x]) = if x ∈ ddp l then ddp l else ddp l ++ [x] := by
  unfold ddp
  rw [List.foldl_append]
  rfl
theorem ddp_len (l : List C.Bs) : (ddp l).length ≤ l.length := by
  have key : ∀ (l a : List C.Bs), (l.foldl (fun a x => if x ∈ a then a else a ++ [x]) a).length ≤ a.length + l.length := by
    intro l
    induction l with
    | nil => intro a; simp
    | cons x l ih =>
      intro a
      rw [List.foldl_cons, List.length_cons]
      have h1 := ih (if x ∈ a then a else a ++ [x])
      have h2 : (if x ∈ a then a else a ++ [x]).length ≤ a.length + 1 := by split <;> simp
      omega
  simpa [ddp] using key l []
def relNm (rs : List C.Rel) : List C.Bs := rs.map fun r => r.2.data.toList
theorem need_in {rs : List C.Rel} {k : Nat} {a : Int} {s : ByteArray} (hk : k < rs.length) (hg : rs[k] = (a, s)) (h : s.data.toList ∈ ddp (relNm (rs.take k))) : ddp (relNm (rs.take (k + 1))) = ddp (relNm (rs.take k)) := by
  unfold relNm at *
  rw [List.take_succ_eq_append_getElem hk, List.map_append, List.map_singleton, ddp_snoc, hg, if_pos h]
theorem need_out {rs : List C.Rel} {k : Nat} {a : Int} {s : ByteArray} (hk : k < rs.length) (hg : rs[k] = (a, s)) (h : ¬ s.data.toList ∈ ddp (relNm (rs.take k))) : ddp (relNm (rs.take (k + 1))) = ddp (relNm (rs.take k)) ++ [s.data.toList] := by
  unfold relNm at *
  rw [List.take_succ_eq_append_getElem hk, List.map_append, List.map_singleton, ddp_snoc, hg, if_neg h]
def needsL (secs : List C.Sec) (i : Int) : List C.Bs := if 0 ≤ i ∧ i < secs.length then match secs[i.toNat]? with | some s => ddp (relNm s.2.2) | none => [] else []
theorem needsL_out {secs : List C.Sec} {i : Int} (h : ¬ (0 ≤ i ∧ i < secs.length)) : needsL secs i = [] := if_neg h
theorem needsL_in {secs : List C.Sec} {i : Int} {kd : Int} {d : ByteArray} {rs : List C.Rel} (h0 : 0 ≤ i) (h : i.toNat < secs.length) (hg : secs[i.toNat] = (kd, d, rs)) : needsL secs i = ddp (relNm rs) := by
  unfold needsL
  rw [if_pos (by omega), List.getElem?_eq_getElem h, hg]
theorem OwnS.keepMap {w w' : World} {base n b : Nat} {v : Value} {l : List C.Bs} (h : OwnS w base v n l) (hg : w.grownBy w' (some b)) (hb : b < base) : OwnS w' base v n l := by
  refine ⟨h.1, ?_⟩
  obtain ⟨h1, h2 | ⟨g, off, cap, cur, rfl, hgb, hh, r⟩⟩ := h.2
  · exact ⟨h1, .inl h2⟩
  · refine ⟨h1, .inr ⟨g, off, cap, cur, rfl, hgb, (hg.block g (Array.getElem?_eq_some_iff.1 hh).1 ?_).trans hh, r⟩⟩
    intro e
    have : g = b := by simpa using e
    omega
theorem OwnS.setKeep {P : Program} {k e : TypeId} {w w' : World} {base n m b : Nat} {v : Value} {l : List C.Bs} {S : List C.Bs} (h : OwnS w base v n l) (hg : w.grownBy w' v.ownBlock) (hb : b < base) (hs : SetTo P k e w b m S) : SetTo P k e w' b m S := by
  refine hs.grown hg ?_
  obtain ⟨h1, ⟨rfl, _⟩ | ⟨g, off, cap, cur, rfl, hgb, hh, r⟩⟩ := h.2
  · simp [Value.ownBlock]
  · simp [Value.ownBlock]; omega
theorem OwnS.extOwn {a b c : World} {base n : Nat} {v : Value} {l : List C.Bs} (h : Ext a b) (ho : OwnS b base v n l) (hb : a.heap.size ≤ base) (hg : b.grownBy c v.ownBlock) : Ext a c := h.grown (ho.2.mono hb) hg
theorem zero4 (w : World) : (zeroValue 4).run Tryz.prog w = .ok (.bool false) w := by kernel_rfl

set_option maxRecDepth 8000 in
set_option maxHeartbeats 4000000 in
theorem Needs_any (secs : List C.Sec) (A B : Option Addr) (c d n m : Nat) (i : Int) (w : World) (hm : m = secs.length) (hB : SliceAt secR w (Old w) B d secs) (hi : (Lit.int .i64 i).wf = true) (hr : ∀ s ∈ secs, s.2.2.length ≤ 100000) :
    Calls Tryz.prog 19 #[.agg #[.slice A n c, .slice B m d], .int .i64 i] w (RetS w (needsL secs i)) := by
  obtain ⟨i0, hi0, hz0, hz1, hz2⟩ := info_parts str_info
  have hmm := @run_makeMap Tryz.prog
  have hm2 : m ≤ 9223372036854775807 := by have := hB.1; have := hB.2.1; omega
  obtain ⟨hi1, hi2⟩ := wf_i64 hi
  have b1 : (w.alloc (.cells #[.slice A n c, .slice B m d] 25)).cell? ⟨w.heap.size, 1, none⟩ = some (.slice B m d) := cell_new w #[.slice A n c, .slice B m d] 25 1
  by_cases h0 : i < 0
  · have hR := needsL_out (secs := secs) (i := i) (by omega)
    rw [hR]
    clear hm hB hR hr
    go_enter Tryz.func19, Tryz.ntmps19
    go_wp2_with fail
    go_ret
    exact ⟨(Ext.refl w).alloc _, _, 0, rfl, OwnS.nil _ _⟩
  by_cases h1 : i ≥ (m : Int)
  · have hR := needsL_out (secs := secs) (i := i) (by omega)
    rw [hR]
    clear hm hB hR hr
    go_enter Tryz.func19, Tryz.ntmps19
    go_wp2_with fail
    go_ret
    exact ⟨(Ext.refl w).alloc _, _, 0, rfl, OwnS.nil _ _⟩
  have hin : i.toNat < secs.length := by omega
  have hin2 : i.toNat < m := by omega
  obtain ⟨b, off, kd, dd, rs, A2, c2, rfl, hgk, hwk, hds, hrs, hcs⟩ := sec_get hB hin
  have hR := needsL_in (by omega) hin hgk
  have hrl : rs.length ≤ 100000 := by have := hr _ (List.getElem_mem hin); rw [hgk] at this; exact this
  obtain ⟨nr, hnr⟩ : ∃ nr, nr = rs.length := ⟨_, rfl⟩
  rw [← hnr] at hcs hrl
  obtain ⟨R, hRR⟩ : ∃ R, R = needsL secs i := ⟨_, rfl⟩
  rw [← hRR] at hR ⊢
  have HR := Lib.hid hR
  have HNR := Lib.hid hnr
  have HRS := Lib.hid hrs
  obtain ⟨c1, c2', c3⟩ := hcs (((w.alloc (.cells #[.slice A n c, .slice (some ⟨b, off, none⟩) m d] 25)).alloc (.map #[] 0))) (((Ext.refl w).alloc _).alloc _)
  have b1' := alloc_keepc (.map #[] 0) b1
  have hset0 := SetTo.made Tryz.prog 9 4 (w.alloc (.cells #[.slice A n c, .slice (some ⟨b, off, none⟩) m d] 25))
  rw [show (w.alloc (.cells #[.slice A n c, .slice (some ⟨b, off, none⟩) m d] 25)).heap.size = w.heap.size + 1 by simp] at hset0
  have HS0 := Lib.hid hset0
  clear hm hB hR hr hcs hgk hRR hnr hrs hset0 hin
  go_enter Tryz.func19, Tryz.ntmps19
  go_wp2_with fail
  go_loopw [5, 26] (fun v i wr => ∃ (k q : Nat) (L : List C.Bs), k ≤ nr ∧ q ≤ k ∧ i = .int .i64 k ∧ Hid (L = ddp (relNm (rs.take k))) ∧ Hid (OwnS wr (w.heap.size + 2) v q L ∧ SetTo Tryz.prog 9 4 wr (w.heap.size + 1) q L ∧ Ext w wr)) (fun _ i _ => nr - (intOf i).toNat)
  case atStart => exact ⟨0, 0, [], Nat.zero_le _, Nat.le_refl _, rfl, rfl, OwnS.nil _ _, HS0.out, ((Ext.refl w).alloc _).alloc _⟩
  case round =>
    obtain ⟨k, q, L, hk, hq, rfl, HL, HK⟩ := hrel
    by_cases hlt : k < nr
    · have hkz : k < rs.length := by rw [← HNR.out]; exact hlt
      obtain ⟨b3, off3, a, s, rfl, hgk, hwa, hs, hc⟩ := rel_get HRS.out hkz
      obtain ⟨c1, c2⟩ := hc wr HK.out.2.2
      have hset1 := HK.out.2.1.ext ((Ext.refl wr).alloc (.cells #[.int .i64 a, .string s] 87))
      have HO1 := Lib.hid (HK.out.1.ext ((Ext.refl wr).alloc (.cells #[.int .i64 a, .string s] 87)))
      have HX1 := Lib.hid (HK.out.2.2.alloc (.cells #[.int .i64 a, .string s] 87))
      have x1 := cell_new wr #[.int .i64 a, .string s] 87 1
      have hlt2 : w.heap.size + 1 < wr.heap.size := World.ownsMap.lt HK.out.2.1
      have HL2 := Lib.hid hlt2
      by_cases hd : s.data.toList ∈ L
      · have HE := Lib.hid (need_in hkz hgk (by rw [← HL.out]; exact hd))
        have hdd : decide (s.data.toList ∈ L) = true := decide_eq_true hd
        have HS1 := Lib.hid hset1
        clear hc hgk hd HK
        go_wp2_with (at_lookup; refine wpList_lookup_set _ rfl _ _ 100 rfl 9 4 Tryz.underlying9 Tryz.underlying100 Tryz.underlying4 zero4 (w.heap.size + 1) q L rfl hset1 s rfl (by unfold maxLen; omega) ?_; rw [hdd])
        go_roundw
        case rel => exact ⟨k + 1, q, L, by omega, by omega, by go_num, by unfold Hid; rw [HE.out]; exact HL.out, HO1.out, HS1.out, HX1.out⟩
        case measure => simp [intOf]; omega
      · have HE := Lib.hid (need_out hkz hgk (by rw [← HL.out]; exact hd))
        have hdd : decide (s.data.toList ∈ L) = false := decide_eq_false hd
        clear hc hgk hd HK
        go_wp2_with (first | (at_lookup; refine wpList_lookup_set _ rfl _ _ 100 rfl 9 4 Tryz.underlying9 Tryz.underlying100 Tryz.underlying4 zero4 (w.heap.size + 1) q L rfl hset1 s rfl (by unfold maxLen; omega) ?_; rw [hdd]) | (at_mapUpdate; (refine wpList_put_set _ rfl _ _ _ 100 rfl 9 4 Tryz.underlying9 Tryz.underlying100 Tryz.underlying4 (w.heap.size + 1) q L rfl hset1 (by unfold maxLen; omega) s rfl rfl (by unfold maxLen; omega) ?_); intro w2 hs2 hg2; have HS2 := Lib.hid hs2; have x2 := grown_keepc hg2 x1 (by intro h; have h9 := Option.some.inj h; simp only at h9; omega); have ho2 := HO1.out.keepMap hg2 (by omega); have hown := ho2.2; have HX2 := Lib.hid (HX1.out.own (by omega) hg2); have HO2 := Lib.hid ho2; clear hs2 hg2 ho2; have hbs : w.heap.size + 2 ≤ w2.heap.size := by have := World.ownsMap.lt HS2.out; have := HL2.out; omega) | (at_builtin; (refine wpList_append_ownAt _ rfl (.tmp 38) (.tmp 41) 35 rfl (w.heap.size + 2) 9 i0 (.string ⟨#[]⟩) 1 16 Tryz.underlying35 hi0 hz0 hz1 hz2 rfl (by decide) _ _ _ rfl (hown.alloc _) ⟨w2.heap.size, 0, none⟩ 1 1 ([s.data.toList].map encStr) rfl rfl (cells_new_str _ _ _ rfl) (enc_one _) (by unfold maxLen; omega) (by omega) (by simp; omega) (by decide) ?_); intro v3 w3 hown3 hg3 _ _))
        have hsz : (L ++ [s.data.toList]).length = q + 1 := by have := HO2.out.1; simp; omega
        have HO3 : Hid (OwnS w3 (w.heap.size + 2) v3 (q + 1) (L ++ [s.data.toList])) := ⟨hsz.symm, by rw [List.map_append]; exact hown3⟩
        have HS3 := Lib.hid ((HO2.out.ext ((Ext.refl w2).alloc (.cells #[.string s] 9))).setKeep hg3 (by omega) (HS2.out.ext ((Ext.refl w2).alloc (.cells #[.string s] 9))))
        have HX3 := Lib.hid (OwnS.extOwn (HX2.out.alloc (.cells #[.string s] 9)) (HO2.out.ext ((Ext.refl w2).alloc (.cells #[.string s] 9))) (by omega) hg3)
        clear hown3 hg3
        go_roundw
        case rel => exact ⟨k + 1, q + 1, L ++ [s.data.toList], by omega, by omega, by go_num, by unfold Hid; rw [HE.out, HL.out], HO3.out, HS3.out, HX3.out⟩
        case measure => simp [intOf]; omega
    · have HE : Hid (L = R) := by
        unfold Hid
        rw [HL.out, HR.out, List.take_of_length_le (by have := HNR.out; omega)]
      go_wp2_with fail
      go_ret
      exact ⟨HK.out.2.2, _, _, rfl, by rw [← HE.out]; exact HK.out.1.mono (by omega)⟩

end Go.Proofs.YtjimgkefacnamaaGreatDoor

/- The reference's Needs. -/
namespace Go.Proofs.YtjimgkefacnamaaGreatDoor
open Go.RowKit Go.Maps Go.ChangeMaps Go.Sort

theorem has_step {l : List C.Bs} {k : Nat} {x s : ByteArray} (h : ¬ s.data.toList ∈ l.take k) (hk : k < l.length) (hx : l[k]? = some x.data.toList) :
    ((x.toList == s.toList) = true ∧ Hid (decide (s.data.toList ∈ l) = true)) ∨ ((x.toList == s.toList) = false ∧ Hid (¬ s.data.toList ∈ l.take (k + 1))) := by
  have e : l[k] = x.data.toList := by rw [List.getElem?_eq_getElem hk] at hx; exact Option.some.inj hx
  rw [eq_dec]
  by_cases he : x.data.toList = s.data.toList
  · exact .inl ⟨decide_eq_true he, decide_eq_true (by rw [← he, ← e]; exact List.getElem_mem hk)⟩
  · refine .inr ⟨decide_eq_false he, ?_⟩
    unfold Hid
    rw [List.take_succ_eq_append_getElem hk, List.mem_append, List.mem_singleton, e]
    rintro (h1 | h1)
    · exact h h1
    · exact he h1.symm
set_option maxHeartbeats 1000000 in
theorem Has_own (l : List C.Bs) (v : Value) (n base : Nat) (s : ByteArray) (w : World) (h : OwnS w base v n l) (hn2 : n ≤ 9000000000000000000) :
    Calls Tryz.prog 48 #[v, .string s] w fun e w' => e = .returned (.bool (decide (s.data.toList ∈ l))) ∧ w = w' := by
  have HN := Lib.hid h.1
  obtain ⟨A, c, rfl, _, hcs⟩ := h.form
  have HCS := Lib.hid hcs
  obtain ⟨R, hR⟩ : ∃ R, R = decide (s.data.toList ∈ l) := ⟨_, rfl⟩
  rw [← hR]
  have HR := Lib.hid hR
  have H0 : Hid (¬ s.data.toList ∈ l.take 0) := by unfold Hid; simp
  clear h hcs hR
  go_enter Tryz.func48, Tryz.ntmps48
  go_wp2_with fail
  go_loop [9] (fun i => ∃ k : Nat, k ≤ n ∧ i = .int .i64 k ∧ Hid (¬ s.data.toList ∈ l.take k)) (fun i => n - (intOf i).toNat)
  case atStart => exact ⟨0, Nat.zero_le _, rfl, H0⟩
  case round =>
    obtain ⟨k, hk, rfl, HK⟩ := hrel
    by_cases hlt : k < n
    · have hkz : k < l.length := by rw [← HN.out]; exact hlt
      obtain ⟨g, off, x, rfl, hg, hc⟩ := HCS.out k hkz
      have c1 := hc w (Ext.refl w)
      have hw := has_step HK.out hkz hg
      clear hc hg
      rcases hw with ⟨e1, H9⟩ | ⟨e1, H9⟩
      · go_wp2_with fail
        go_ret
        exact ⟨by rw [HR.out, H9.out]; rfl, rfl⟩
      · go_wp2_with fail
        go_round
        case rel => exact ⟨k + 1, by omega, by go_num, H9⟩
        case measure => simp [intOf]; omega
    · have HE : Hid (R = false) := by
        unfold Hid
        rw [HR.out]
        have := HK.out
        rw [List.take_of_length_le (by have := HN.out; omega)] at this
        exact decide_eq_false this
      go_wp2_with fail
      go_ret
      exact ⟨by rw [HE.out]; rfl, rfl⟩

set_option maxRecDepth 8000 in
set_option maxHeartbeats 4000000 in
theorem rNeeds_any (secs : List C.Sec) (A B : Option Addr) (c d n m : Nat) (i : Int) (w : World) (hm : m = secs.length) (hB : SliceAt secR w (Old w) B d secs) (hi : (Lit.int .i64 i).wf = true) (hr : ∀ s ∈ secs, s.2.2.length ≤ 100000) :
    Calls Tryz.prog 20 #[.agg #[.slice A n c, .slice B m d], .int .i64 i] w (RetS w (needsL secs i)) := by
  obtain ⟨i0, hi0, hz0, hz1, hz2⟩ := info_parts str_info
  have hm2 : m ≤ 9223372036854775807 := by have := hB.1; have := hB.2.1; omega
  obtain ⟨hi1, hi2⟩ := wf_i64 hi
  have b1 : (w.alloc (.cells #[.slice A n c, .slice B m d] 25)).cell? ⟨w.heap.size, 1, none⟩ = some (.slice B m d) := cell_new w #[.slice A n c, .slice B m d] 25 1
  by_cases h0 : i < 0
  · have hR := needsL_out (secs := secs) (i := i) (by omega)
    rw [hR]
    clear hm hB hR hr
    go_enter Tryz.func20, Tryz.ntmps20
    go_wp2_with fail
    go_ret
    exact ⟨(Ext.refl w).alloc _, _, 0, rfl, OwnS.nil _ _⟩
  by_cases h1 : i ≥ (m : Int)
  · have hR := needsL_out (secs := secs) (i := i) (by omega)
    rw [hR]
    clear hm hB hR hr
    go_enter Tryz.func20, Tryz.ntmps20
    go_wp2_with fail
    go_ret
    exact ⟨(Ext.refl w).alloc _, _, 0, rfl, OwnS.nil _ _⟩
  have hin : i.toNat < secs.length := by omega
  have hin2 : i.toNat < m := by omega
  obtain ⟨b, off, kd, dd, rs, A2, c2, rfl, hgk, hwk, hds, hrs, hcs⟩ := sec_get hB hin
  have hR := needsL_in (by omega) hin hgk
  have hrl : rs.length ≤ 100000 := by have := hr _ (List.getElem_mem hin); rw [hgk] at this; exact this
  obtain ⟨nr, hnr⟩ : ∃ nr, nr = rs.length := ⟨_, rfl⟩
  rw [← hnr] at hcs hrl
  obtain ⟨R, hRR⟩ : ∃ R, R = needsL secs i := ⟨_, rfl⟩
  rw [← hRR] at hR ⊢
  have HR := Lib.hid hR
  have HNR := Lib.hid hnr
  have HRS := Lib.hid hrs
  obtain ⟨c1, c2', c3⟩ := hcs (w.alloc (.cells #[.slice A n c, .slice (some ⟨b, off, none⟩) m d] 25)) ((Ext.refl w).alloc _)
  clear hm hB hR hr hcs hgk hRR hnr hrs hin
  go_enter Tryz.func20, Tryz.ntmps20
  go_wp2_with fail
  go_loopw [5, 24] (fun v i wr => ∃ (k q : Nat) (L : List C.Bs), k ≤ nr ∧ q ≤ k ∧ i = .int .i64 k ∧ Hid (L = ddp (relNm (rs.take k))) ∧ Hid (OwnS wr w.heap.size v q L ∧ Ext w wr)) (fun _ i _ => nr - (intOf i).toNat)
  case atStart => exact ⟨0, 0, [], Nat.zero_le _, Nat.le_refl _, rfl, rfl, OwnS.nil _ _, (Ext.refl w).alloc _⟩
  case round =>
    obtain ⟨k, q, L, hk, hq, rfl, HL, HK⟩ := hrel
    by_cases hlt : k < nr
    · have hkz : k < rs.length := by rw [← HNR.out]; exact hlt
      obtain ⟨b3, off3, a, s, rfl, hgk, hwa, hs, hc⟩ := rel_get HRS.out hkz
      obtain ⟨c1, c2⟩ := hc wr HK.out.2
      have ho1 := HK.out.1.ext ((Ext.refl wr).alloc (.cells #[.int .i64 a, .string s] 87))
      have HO1 := Lib.hid ho1
      have HX1 := Lib.hid (HK.out.2.alloc (.cells #[.int .i64 a, .string s] 87))
      have x1 := cell_new wr #[.int .i64 a, .string s] 87 1
      have HH := Lib.hid (Has_own L u5 q w.heap.size s _ ho1 (by omega))
      have hown := ho1.2
      have hbs := HX1.out.size
      clear ho1
      by_cases hd : s.data.toList ∈ L
      · have HE := Lib.hid (need_in hkz hgk (by rw [← HL.out]; exact hd))
        rw [decide_eq_true hd] at HH
        clear hc hgk hd HK
        go_wp2_with fail
        refine HH.out.mono ?_
        rintro e w1 ⟨rfl, rfl⟩
        go_wp2_with fail
        go_roundw
        case rel => exact ⟨k + 1, q, L, by omega, by omega, by go_num, by unfold Hid; rw [HE.out]; exact HL.out, HO1.out, HX1.out⟩
        case measure => simp [intOf]; omega
      · have HE := Lib.hid (need_out hkz hgk (by rw [← HL.out]; exact hd))
        rw [decide_eq_false hd] at HH
        clear hc hgk hd HK
        go_wp2_with fail
        refine HH.out.mono ?_
        rintro e w1 ⟨rfl, rfl⟩
        go_wp2_with (at_builtin; (refine wpList_append_ownAt _ rfl (.tmp 33) (.tmp 36) 35 rfl w.heap.size 9 i0 (.string ⟨#[]⟩) 1 16 Tryz.underlying35 hi0 hz0 hz1 hz2 rfl (by decide) _ _ _ rfl (hown.alloc _) ⟨wr.heap.size + 1, 0, none⟩ 1 1 ([s.data.toList].map encStr) rfl rfl (cells_new_str _ _ _ (by simp)) (enc_one _) (by unfold maxLen; omega) (by omega) (by simp at hbs ⊢; omega) (by decide) ?_); intro v3 w3 hown3 hg3 _ _)
        have hsz : (L ++ [s.data.toList]).length = q + 1 := by have := HO1.out.1; simp; omega
        have HO3 : Hid (OwnS w3 w.heap.size v3 (q + 1) (L ++ [s.data.toList])) := ⟨hsz.symm, by rw [List.map_append]; exact hown3⟩
        have HX3 := Lib.hid (OwnS.extOwn (HX1.out.alloc (.cells #[.string s] 9)) (HO1.out.ext ((Ext.refl _).alloc (.cells #[.string s] 9))) (Nat.le_refl _) hg3)
        clear hown3 hg3
        go_roundw
        case rel => exact ⟨k + 1, q + 1, L ++ [s.data.toList], by omega, by omega, by go_num, by unfold Hid; rw [HE.out, HL.out], HO3.out, HX3.out⟩
        case measure => simp [intOf]; omega
    · have HE : Hid (L = R) := by
        unfold Hid
        rw [HL.out, HR.out, List.take_of_length_le (by have := HNR.out; omega)]
      go_wp2_with fail
      go_ret
      exact ⟨HK.out.2, _, _, rfl, by rw [← HE.out]; exact HK.out.1⟩

end Go.Proofs.YtjimgkefacnamaaGreatDoor

/- Encode: its bytes piece by piece; what stands while a writer writes. -/
namespace Go.Proofs.YtjimgkefacnamaaGreatDoor
open Go.RowKit Go.Maps Go.ChangeMaps Go.Sort

theorem flat_len {α : Type} (f : α → C.Bs) (c : Nat) : ∀ l : List α, (∀ a ∈ l, (f a).length ≤ c) → (l.flatMap f).length ≤ l.length * c
  | [], _ => by simp
  | a :: l, h => by
    have h1 := h a List.mem_cons_self
    have h2 := flat_len f c l fun x hx => h x (List.mem_cons_of_mem _ hx)
    rw [List.flatMap_cons, List.length_append, List.length_cons, Nat.add_mul]
    omega
theorem flat_take {α : Type} (f : α → C.Bs) (l : List α) {k : Nat} (hk : k < l.length) : (l.take (k + 1)).flatMap f = (l.take k).flatMap f ++ f l[k] := by
  rw [List.take_succ_eq_append_getElem hk, List.flatMap_append, List.flatMap_singleton]
theorem flat_full {α : Type} (f : α → C.Bs) (l : List α) {k : Nat} (hk : l.length ≤ k) : (l.take k).flatMap f = l.flatMap f := by rw [List.take_of_length_le hk]
theorem numB_in {n : Int} (h : 0 ≤ n ∧ n ≤ 281474976710656) : (numB n).data.toList = C.num n.toNat := by unfold numB; rw [if_pos h]; rfl
theorem txtB_in {s : ByteArray} (h : s.size ≤ 65536) : (txtB s).data.toList = C.txt s.data.toList := by unfold txtB; rw [if_pos h]; rfl
theorem nums1 (n : Int) : numsL [n] = (numB n).data.toList := by simp [numsL]
theorem nums2 (n m : Int) : numsL [n, m] = (numB n).data.toList ++ (numB m).data.toList := by simp [numsL]
theorem numB_len (n : Int) : (numB n).data.toList.length ≤ 17 := by
  have := numB_size n
  have h : (numB n).data.toList.length = (numB n).size := by simp
  omega
theorem txtB_len (s : ByteArray) : (txtB s).data.toList.length ≤ s.size + 18 := by
  unfold txtB
  split
  · rw [mkB_data]
    unfold C.txt
    have hl : s.data.toList.length = s.size := by simp
    have := dec_len 15 s.data.toList.length (by omega)
    simp at this ⊢
    omega
  · simp
/-- The parts of valid objects. -/
structure ValidO (o : C.Obj) : Prop where
  ln : o.1.length ≤ 128
  ls : o.2.length ≤ 128
  names : C.namesB okN o.1 = true
  sym : ∀ k (h : k < o.1.length), o.1[k].1.size ≤ 32 ∧ 0 ≤ o.1[k].2.1 ∧ o.1[k].2.1 ≤ 3 ∧ -1 ≤ o.1[k].2.2 ∧ o.1[k].2.2 ≤ 128
  sec : ∀ k (h : k < o.2.length), 0 ≤ o.2[k].1 ∧ o.2[k].1 ≤ 2 ∧ o.2[k].2.1.size ≤ 8192 ∧ o.2[k].2.2.length ≤ 2048 ∧ ∀ j (h' : j < o.2[k].2.2.length), 0 ≤ o.2[k].2.2[j].1 ∧ o.2[k].2.2[j].1 ≤ 8192 ∧ (C.idx o.1 o.2[k].2.2[j].2.data.toList).isSome = true
theorem name_len {s : ByteArray} (h : okN s = true) : s.size ≤ 32 := by
  have hl : s.data.toList.length = s.size := by simp
  unfold okN K.name at h
  simp only [Bool.and_eq_true] at h
  have hv := h.2
  unfold K.valid at hv
  have hv := of_decide_eq_true hv
  rw [hl] at hv
  cases e : s.data.toList with
  | nil => rw [e] at hl; simp at hl; omega
  | cons c l =>
    rw [e] at hv
    rw [K.nxt] at hv
    by_cases h1 : K.letter c = true
    · rw [if_pos h1] at hv
      by_cases h2 : 32 < K.run true (c :: l)
      · rw [if_pos h2] at hv; simp at hv
      · rw [if_neg h2] at hv
        simp at hv
        omega
    · rw [if_neg h1] at hv
      by_cases h2 : K.digit c = true
      · rw [if_pos h2] at hv
        repeat' split at hv
        all_goals simp at hv
      · rw [if_neg h2] at hv
        repeat' split at hv
        all_goals simp at hv
theorem validO {o : C.Obj} (h : C.checkB okN o = true) : ValidO o := by
  unfold C.checkB at h
  simp only [Bool.and_eq_true, decide_eq_true_eq] at h
  obtain ⟨⟨⟨hl, hn⟩, hs⟩, hw⟩ := h
  refine ⟨hl.1, hl.2, hn, fun k hk => ?_, fun k hk => ?_⟩
  · have h1 := name_len ((C.namesB_iff okN o.1).1 hn k hk).1
    have h2 := List.all_eq_true.1 hs _ (List.getElem_mem hk)
    unfold C.symB at h2
    simp only [Bool.and_eq_true, decide_eq_true_eq] at h2
    have := h2.1.1.2
    exact ⟨h1, h2.1.1.1.1, h2.1.1.1.2, by omega, by omega⟩
  · have h1 := ((C.ownedB_iff o).1 hw k hk).2
    unfold C.secB at h1
    simp only [Bool.and_eq_true, decide_eq_true_eq] at h1
    obtain ⟨⟨hkd, hr⟩, hd⟩ := h1
    have hk' : o.2[k].1 = 1 ∨ o.2[k].1 = 2 := by
      unfold C.kindB at hkd
      simp only [Bool.or_eq_true, Bool.and_eq_true, decide_eq_true_eq] at hkd
      omega
    obtain ⟨h2, h3⟩ := C.rels_range hr (Int.le_refl _)
    have hdl : o.2[k].2.1.data.toList.length = o.2[k].2.1.size := by simp
    refine ⟨by omega, by omega, hd, by omega, fun j hj => ?_⟩
    have := h2 _ (List.getElem_mem hj)
    exact ⟨this.1, by omega, this.2.2⟩
theorem num_len {n : Nat} (h : n ≤ 281474976710656) : (C.num n).length ≤ 17 := by
  have := numB_len (n : Int)
  rw [numB_in ⟨by omega, by omega⟩, Int.toNat_natCast] at this
  exact this
theorem txt_len (s : ByteArray) (h : s.size ≤ 65536) : (C.txt s.data.toList).length ≤ s.size + 18 := by
  have := txtB_len s
  rwa [txtB_in h] at this
theorem encSym_len {o : C.Obj} (h : ValidO o) : ∀ a ∈ o.1, (C.encSym a).length ≤ 120 := by
  intro a ha
  obtain ⟨k, hk, rfl⟩ := List.getElem_of_mem ha
  obtain ⟨h1, h2, h3, h4, h5⟩ := h.sym k hk
  unfold C.encSym C.nm
  have e1 := txt_len o.1[k].1 (by omega)
  have e2 := num_len (n := o.1[k].2.1.toNat) (by omega)
  have e3 := num_len (n := (o.1[k].2.2 + 1).toNat) (by omega)
  rw [List.length_append, List.length_append]
  omega
theorem idx_getD {o : C.Obj} (h : ValidO o) (x : C.Bs) : (C.idx o.1 x).getD 0 ≤ 128 := by
  cases e : C.idx o.1 x with
  | none => simp
  | some i =>
    obtain ⟨h1, _⟩ := C.idx_lt e
    have := h.ln
    simp
    omega
theorem encRel_len {o : C.Obj} (h : ValidO o) {k : Nat} (hk : k < o.2.length) : ∀ a ∈ o.2[k].2.2, (C.encRel o.1 a).length ≤ 34 := by
  intro a ha
  obtain ⟨j, hj, rfl⟩ := List.getElem_of_mem ha
  obtain ⟨h1, h2, h3⟩ := (h.sec k hk).2.2.2.2 j hj
  unfold C.encRel
  have e2 := num_len (n := o.2[k].2.2[j].1.toNat) (by omega)
  have e3 := num_len (n := (C.idx o.1 o.2[k].2.2[j].2.data.toList).getD 0) (by have := idx_getD h o.2[k].2.2[j].2.data.toList; omega)
  rw [List.length_append]
  omega
theorem encSec_len {o : C.Obj} (h : ValidO o) : ∀ a ∈ o.2, (C.encSec o.1 a).length ≤ 80000 := by
  intro a ha
  obtain ⟨k, hk, rfl⟩ := List.getElem_of_mem ha
  obtain ⟨h1, h2, h3, h4, h5⟩ := h.sec k hk
  unfold C.encSec
  have e1 := txt_len o.2[k].2.1 (by omega)
  have e2 := num_len (n := o.2[k].1.toNat) (by omega)
  have e3 := num_len (n := o.2[k].2.2.length) (by omega)
  have e4 := flat_len (C.encRel o.1) 34 _ (encRel_len h hk)
  rw [List.length_append, List.length_append, List.length_append]
  omega

/-- What is written when the symbols begin, and when the sections do. -/
def encA (o : C.Obj) : C.Bs := C.txt C.wObject ++ C.num o.1.length
def encB (o : C.Obj) : C.Bs := encA o ++ o.1.flatMap C.encSym ++ C.num o.2.length
theorem enc_all (o : C.Obj) : encB o ++ o.2.flatMap (C.encSec o.1) = C.encObj o := by unfold encB encA C.encObj; simp
theorem encA_len {o : C.Obj} (h : ValidO o) : (encA o).length ≤ 100 := by
  unfold encA
  have e1 : (C.txt C.wObject).length ≤ 50 := by
    have := txt_len ⟨#[111, 98, 106, 101, 99, 116]⟩ (by decide)
    exact Nat.le_trans this (by decide)
  have e2 := num_len (n := o.1.length) (by have := h.ln; omega)
  rw [List.length_append]
  omega
theorem encB_len {o : C.Obj} (h : ValidO o) : (encB o).length ≤ 20000 := by
  unfold encB
  have e1 := encA_len h
  have e2 := num_len (n := o.2.length) (by have := h.ls; omega)
  have e3 := flat_len C.encSym 120 _ (encSym_len h)
  have := h.ln
  rw [List.length_append, List.length_append]
  omega
/-- What is written in front of symbol k, of section k; in front of relocation j of it. -/
def encS (o : C.Obj) (k : Nat) : C.Bs := encA o ++ (o.1.take k).flatMap C.encSym
def encT (o : C.Obj) (k : Nat) : C.Bs := encB o ++ (o.2.take k).flatMap (C.encSec o.1)
theorem encS_len {o : C.Obj} (h : ValidO o) (k : Nat) : (encS o k).length ≤ 20000 := by
  unfold encS
  have e1 := encA_len h
  have e3 := flat_len C.encSym 120 (o.1.take k) fun a ha => encSym_len h a (List.mem_of_mem_take ha)
  have := h.ln
  rw [List.length_append]
  simp only [List.length_take] at e3
  have : min k o.1.length ≤ 128 := by omega
  omega
theorem encT_len {o : C.Obj} (h : ValidO o) (k : Nat) : (encT o k).length ≤ 20000000 := by
  unfold encT
  have e1 := encB_len h
  have e3 := flat_len (C.encSec o.1) 80000 (o.2.take k) fun a ha => encSec_len h a (List.mem_of_mem_take ha)
  have := h.ls
  rw [List.length_append]
  simp only [List.length_take] at e3
  have : min k o.2.length ≤ 128 := by omega
  omega
theorem encS_zero (o : C.Obj) : encS o 0 = encA o := by simp [encS]
theorem encT_zero (o : C.Obj) : encT o 0 = encB o := by simp [encT]
theorem encS_end {o : C.Obj} {k : Nat} (h : o.1.length ≤ k) : encS o k ++ C.num o.2.length = encB o := by unfold encS encB; rw [flat_full _ _ h]
theorem encT_end {o : C.Obj} {k : Nat} (h : o.2.length ≤ k) : encT o k = C.encObj o := by unfold encT; rw [flat_full _ _ h, enc_all]
theorem encS_step {o : C.Obj} (h : ValidO o) {k : Nat} (hk : k < o.1.length) {s : ByteArray} {m q : Int} (hg : o.1[k] = (s, m, q)) : encS o k ++ (txtB s).data.toList ++ numsL [m, q + 1] = encS o (k + 1) := by
  obtain ⟨h1, h2, h3, h4, h5⟩ := h.sym k hk
  rw [hg] at h1 h2 h3 h4 h5
  simp only at h1 h2 h3 h4 h5
  unfold encS
  rw [flat_take _ _ hk, hg, txtB_in (by omega), nums2, numB_in (by omega), numB_in (by omega)]
  unfold C.encSym C.nm
  simp
/-- The front of a section; its relocations. -/
def encHd (s : C.Sec) : C.Bs := C.num s.1.toNat ++ (C.txt s.2.1.data.toList ++ C.num s.2.2.length)
def encU (o : C.Obj) (k : Nat) (s : C.Sec) (j : Nat) : C.Bs := encT o k ++ encHd s ++ (s.2.2.take j).flatMap (C.encRel o.1)
theorem encU_zero {o : C.Obj} (h : ValidO o) {k : Nat} (hk : k < o.2.length) {kd : Int} {d : ByteArray} {rs : List C.Rel} (hg : o.2[k] = (kd, d, rs)) :
    encT o k ++ numsL [kd] ++ (txtB d).data.toList ++ numsL [(rs.length : Int)] = encU o k (kd, d, rs) 0 := by
  obtain ⟨h1, h2, h3, h4, _⟩ := h.sec k hk
  rw [hg] at h1 h2 h3 h4
  simp only at h1 h2 h3 h4
  unfold encU encHd
  rw [txtB_in (by omega), nums1, nums1, numB_in (by omega), numB_in (by omega)]
  simp
theorem encU_step {o : C.Obj} (h : ValidO o) {k : Nat} (hk : k < o.2.length) {kd : Int} {d : ByteArray} {rs : List C.Rel} (hg : o.2[k] = (kd, d, rs)) {j : Nat} (hj : j < rs.length) {a : Int} {s : ByteArray} (hr : rs[j] = (a, s)) :
    encU o k (kd, d, rs) j ++ numsL [a, (((C.idx o.1 s.data.toList).getD 0 : Nat) : Int)] = encU o k (kd, d, rs) (j + 1) := by
  have h5 := (h.sec k hk).2.2.2.2
  rw [hg] at h5
  obtain ⟨h1, h2, h3⟩ := h5 j hj
  have hi := idx_getD h s.data.toList
  simp only [hr] at h1 h2
  unfold encU
  simp only
  rw [flat_take _ _ hj, hr, nums2, numB_in (by omega), numB_in (by omega)]
  unfold C.encRel
  simp
theorem encU_end {o : C.Obj} {k : Nat} (hk : k < o.2.length) {kd : Int} {d : ByteArray} {rs : List C.Rel} (hg : o.2[k] = (kd, d, rs)) {j : Nat} (hj : rs.length ≤ j) : encU o k (kd, d, rs) j = encT o (k + 1) := by
  unfold encU encT encHd
  simp only
  rw [flat_full _ _ hj, flat_take _ _ hk, hg]
  unfold C.encSec
  simp
theorem encU_len {o : C.Obj} (h : ValidO o) {k : Nat} (hk : k < o.2.length) {kd : Int} {d : ByteArray} {rs : List C.Rel} (hg : o.2[k] = (kd, d, rs)) (j : Nat) : (encU o k (kd, d, rs) j).length ≤ 30000000 := by
  have e1 := encT_len h k
  obtain ⟨h1, h2, h3, h4, _⟩ := h.sec k hk
  have e4 := encRel_len h hk
  rw [hg] at h1 h2 h3 h4 e4
  simp only at h1 h2 h3 h4 e4
  have e5 := flat_len (C.encRel o.1) 34 (rs.take j) fun a ha => e4 a (List.mem_of_mem_take ha)
  have e6 := txt_len d (by omega)
  have e7 := num_len (n := kd.toNat) (by omega)
  have e8 := num_len (n := rs.length) (by omega)
  simp only [List.length_take] at e5
  have e9 : min j rs.length ≤ 2048 := by omega
  unfold encU encHd
  simp only [List.length_append]
  omega

/-! ### What index maps to -/
theorem idx_name {o : C.Obj} (h : C.namesB okN o.1 = true) {k : Nat} (hk : k < o.1.length) : C.idx (o.1.take k) (C.nm o.1[k]) = none := by
  cases e : C.idx (o.1.take k) (C.nm o.1[k]) with
  | none => rfl
  | some i =>
    obtain ⟨h1, h2⟩ := idx_take e
    have := ((C.namesB_iff okN o.1).1 h k hk).2
    rw [h1] at this
    cases this
    omega
theorem mapD_at {o : C.Obj} (h : C.namesB okN o.1 = true) (x : C.Bs) : ∀ k, k ≤ o.1.length → (mapD o.1 k).atKey (.string x) (.lit (.int .i64 0)) = .lit (.int .i64 (((C.idx (o.1.take k) x).getD 0 : Nat) : Int))
  | 0, _ => rfl
  | k + 1, hk => by
    have hg : o.1[k]? = some o.1[k] := List.getElem?_eq_getElem (by omega)
    have ih := mapD_at h x k (by omega)
    rw [mapD_succ _ _ _ hg, List.take_succ_eq_append_getElem (by omega), idx_snoc]
    by_cases e : C.nm o.1[k] = x
    · subst e
      rw [atKey_put_same (mapD_map _ _) (show Go.WideAt.IsKeyLit (Lit.string _) from trivial), idx_name h (by omega)]
      have : min k o.1.length = k := by omega
      simp [this]
    · rw [atKey_put_other (by intro h; cases h; exact e rfl), ih]
      cases C.idx (o.1.take k) x with
      | some i => rfl
      | none => simp [e]
theorem mapD_all {o : C.Obj} (h : C.namesB okN o.1 = true) (x : C.Bs) : (mapD o.1 o.1.length).atKey (.string x) (.lit (.int .i64 0)) = .lit (.int .i64 (((C.idx o.1 x).getD 0 : Nat) : Int)) := by
  have := mapD_at h x o.1.length (Nat.le_refl _)
  rwa [List.take_length] at this

end Go.Proofs.YtjimgkefacnamaaGreatDoor
