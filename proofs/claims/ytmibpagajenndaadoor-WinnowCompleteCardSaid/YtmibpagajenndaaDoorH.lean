/- Grams and its reference. -/
import Derived.Test.YtmibpagajenndaaDoorG
import Derived.Test.YtmibpagajenndaaDoorLex
namespace Go.Proofs.YtmibpagajenndaaDoor
open Go.RowKit

theorem int_info : (Tryd.prog.info? 3).map (fun i => (i.zero, i.size, i.bytes)) = some (some (.int .i64 0), 1, 8) := by kernel_rfl
def ints (l : List Int) : List Value := l.map (Value.int .i64)
theorem ints_one (l : List Int) : ∀ u ∈ ints l, u.oneCell' = true := by intro u hu; obtain ⟨n, _, rfl⟩ := List.mem_map.1 hu; rfl
theorem ints_append (l m : List Int) : ints (l ++ m) = ints l ++ ints m := List.map_append
/-- A slice of the call's own holds these numbers. -/
def OwnInts (w : World) (base : Nat) (v : Value) (l : List Int) : Prop := OwnAt w base 3 1 v l.length (ints l)

theorem refHash_n (l : List (ByteArray × Int)) (A : Option Addr) (c n : Nat) (w : World) (hn : l.length = n) (hA : SliceAt lexR w (Old w) A c l) :
    Calls Tryd.prog 43 #[.slice A n c] w (Qu (.int .i64 (M.hash (texts l))) w) := hn ▸ refHash_q l A c w hA
theorem Hash_n (l : List (ByteArray × Int)) (A : Option Addr) (c n : Nat) (w : World) (hn : l.length = n) (hA : SliceAt lexR w (Old w) A c l) :
    Calls Tryd.prog 9 #[.slice A n c] w (Al (.int .i64 (M.hash (texts l))) w) := hn ▸ Hash_a l A c w hA
theorem cells_new_ints (w : World) (l : List Int) : ∀ j u, (ints l)[j]? = some u → (w.alloc (.cells (ints l).toArray 3)).cell? ((⟨w.heap.size, 0, none⟩ : Addr).add j) = some u := by
  intro j u hj
  rw [Addr.add_lit, Nat.zero_add, cell_new]
  simpa using hj
theorem own_snoc {w : World} {base : Nat} {v : Value} {l : List Int} {x : Int} (h : OwnAt w base 3 1 v (l.length + 1) (ints l ++ ints [x])) : OwnInts w base v (l ++ [x]) := by
  unfold OwnInts
  rw [ints_append, List.length_append]
  exact h
theorem own_one {w0 w : World} {x y : Int} (h : Ext w0 w) (hxy : x = y) : OwnInts (w.alloc (.cells #[.int .i64 x] 3)) w0.heap.size (.slice (some ⟨w.heap.size, 0, none⟩) 1 1) [y] := by
  subst hxy
  exact ⟨rfl, .inr ⟨_, 0, 1, _, rfl, h.size, heap_alloc_new w _, Nat.le_refl _, by omega, by simp, fun j hj => by
    obtain rfl : j = 0 := by simp at hj; omega
    rfl⟩⟩
theorem own_empty (w : World) (g : Nat) (hg : g = w.heap.size) : OwnInts (w.alloc (.cells #[] 3)) w.heap.size (.slice (some ⟨g, 0, none⟩) 0 0) [] := by
  subst hg
  exact ⟨rfl, .inr ⟨_, 0, 0, #[], rfl, Nat.le_refl _, heap_alloc_new w _, Nat.le_refl _, by omega, by simp, fun j hj => by simp at hj⟩⟩

/-- The hashes of all runs of k words. -/
def grams (l : List (ByteArray × Int)) (k : Nat) : Nat → List Int
  | 0 => []
  | n + 1 => grams l k n ++ [M.hash (texts ((l.drop n).take k))]
theorem grams_length (l : List (ByteArray × Int)) (k : Nat) : ∀ n, (grams l k n).length = n
  | 0 => rfl
  | n + 1 => by rw [grams, List.length_append, grams_length l k n]; rfl

theorem SliceAt.cut {α : Type} {r : Rep α} {w : World} {S : Nat → Prop} {A : Option Addr} {c : Nat} {l : List α} (h : SliceAt r w S A c l) (i j : Nat) (hij : i ≤ j) (hj : j ≤ l.length) (A' : Option Addr)
    (hA : i < j → ∀ b off, A = some ⟨b, off, none⟩ → A' = some ⟨b, off + i * r.size, none⟩) : SliceAt r w S A' (c - i) ((l.drop i).take (j - i)) := by
  obtain ⟨h1, h2, h3⟩ := h
  have hlen : ((l.drop i).take (j - i)).length = j - i := by simp; omega
  refine ⟨by omega, by omega, fun hne => ?_⟩
  have hlt : i < j := by
    rcases Nat.lt_or_ge i j with h | h
    · exact h
    · exact absurd (List.eq_nil_of_length_eq_zero (by omega)) hne
  obtain ⟨b, off, hb, hS, hr⟩ := h3 (by intro h; rw [h] at hj; simp at hj; omega)
  refine ⟨b, off + i * r.size, hA hlt b off hb, hS, fun q hq => ?_⟩
  obtain ⟨us, g1, g2⟩ := hr (i + q) (by omega)
  refine ⟨us, by simpa using g1, fun p u hp => ?_⟩
  have := g2 p u hp
  rwa [show off + i * r.size + (q * r.size + p) = off + ((i + q) * r.size + p) by rw [Nat.add_mul]; omega]

set_option maxHeartbeats 1000000 in
theorem refGrams_walk (l : List (ByteArray × Int)) (A : Option Addr) (c : Nat) (k : Nat) (w : World) (hA : SliceAt lexR w (Old w) A c l) (h1 : 1 ≤ k) (h2 : k ≤ 8192) (hl : l.length ≤ 8192) :
    Calls Tryd.prog 29 #[.slice A l.length c, .int .i64 (k : Int)] w fun e w' => ∃ v, e = .returned (.tuple #[v, .int .i64 0]) ∧ OwnInts w' w.heap.size v (grams l k (l.length + 1 - k)) ∧ Ext w w' := by
  obtain ⟨i0, hi, hz0, hz1, hz2⟩ := info_parts int_info
  have hlc := hA.1
  have hcc := hA.2.1
  go_enter Tryd.func29, Tryd.ntmps29
  go_wp2
  go_loopw [6, 7] (fun v i wr => ∃ n : Nat, (n = 0 ∨ n + k ≤ l.length + 1) ∧ i = .int .i64 n ∧ OwnInts wr w.heap.size v (grams l k n) ∧ Ext w wr) (fun _ i _ => l.length + 1 - (intOf i).toNat)
  case atStart => exact ⟨0, .inl rfl, rfl, own_empty _ _ rfl, (Ext.refl _).alloc _⟩
  case round =>
    obtain ⟨n, hn, rfl, hown, hd⟩ := hrel
    by_cases hlt : n + k ≤ l.length
    · have hcut := (hA.ext hd).cut n (n + k) (by omega) hlt (Option.map (fun x => x.add (n * 2)) A) (fun _ b off h => by rw [h]; simp [Addr.add_lit]; rfl)
      have hlen : ((l.drop n).take (n + k - n)).length = k := by simp; omega
      rw [show n + k - n = k by omega] at hcut hlen
      have hg : Hid (grams l k (n + 1) = grams l k n ++ [M.hash (texts ((l.drop n).take k))]) := rfl
      have hgl := grams_length l k n
      have HL := Lib.hid hgl
      clear hgl
      go_wp2_with (first | (go_at_call 43; refine (refHash_n _ _ _ _ _ hlen hcut).mono ?_; rintro e w1 ⟨rfl, hd1⟩) | (at_builtin; refine wpList_append_ownAt _ rfl (.tmp 26) (.tmp 34) 53 rfl w.heap.size 3 i0 (.int .i64 0) 1 8 Tryd.underlying53 hi hz0 hz1 hz2 rfl (by decide) _ _ _ rfl ((hown.dr hd1).alloc _) ⟨w1.heap.size, 0, none⟩ 1 1 (ints [M.hash (texts ((l.drop n).take k))]) rfl rfl (cells_new_ints w1 _) (ints_one _) (by rw [HL.out]; unfold maxLen; omega) (by rw [HL.out]; omega) (by have := hd.size; have := hd1.size; simp; omega) (by decide) ?_; intro v2 w2 hown2 hg2 _ _))
      go_roundw
      case rel => exact ⟨n + 1, .inr (by omega), by go_num, by rw [hg.out]; exact own_snoc hown2, ((hd.dr hd1).alloc _).grown hown hg2⟩
      case measure => simp [intOf]; omega
    · go_wp2_with fail
      go_ret2
      exact ⟨u6, rfl, by rw [show l.length + 1 - k = n by omega]; exact hown, hd⟩

theorem hash_roll (l : List (ByteArray × Int)) (n k : Nat) (hk : 1 ≤ k) (h : n + k < l.length) :
    M.roll (M.hash (texts ((l.drop n).take k))) (l[n]).1.data.toList (l[n + k]).1.data.toList (M.pw 1000003 (k - 1)) = M.hash (texts ((l.drop (n + 1)).take k)) := by
  obtain ⟨k, rfl⟩ : ∃ q, k = q + 1 := ⟨k - 1, by omega⟩
  have e1 : (l.drop n).take (k + 1) = l[n] :: (l.drop (n + 1)).take k := by
    rw [List.drop_eq_getElem_cons (by omega), List.take_succ_cons]
  have e2 : (l.drop (n + 1)).take (k + 1) = (l.drop (n + 1)).take k ++ [l[n + (k + 1)]] := by
    rw [List.take_succ_eq_append_getElem (by simp; omega)]
    congr 2
    rw [List.getElem_drop]
    congr 1
    omega
  rw [e1, e2]
  have hl : ((texts ((l.drop (n + 1)).take k)).length) = k := by unfold texts; simp; omega
  have := M.roll_hash l[n].1.data.toList (l[n + (k + 1)]).1.data.toList (texts ((l.drop (n + 1)).take k))
  rw [hl] at this
  rw [show texts (l[n] :: (l.drop (n + 1)).take k) = l[n].1.data.toList :: texts ((l.drop (n + 1)).take k) from rfl,
    show texts ((l.drop (n + 1)).take k ++ [l[n + (k + 1)]]) = texts ((l.drop (n + 1)).take k) ++ [(l[n + (k + 1)]).1.data.toList] by unfold texts; rw [List.map_append]; rfl]
  exact this

set_option maxHeartbeats 1000000 in
theorem Grams_walk (l : List (ByteArray × Int)) (A : Option Addr) (c : Nat) (k : Nat) (w : World) (hA : SliceAt lexR w (Old w) A c l) (h1 : 1 ≤ k) (h2 : k ≤ l.length) (hl : l.length ≤ 8192) :
    Calls Tryd.prog 26 #[.slice A l.length c, .int .i64 (k : Int)] w fun e w' => ∃ v, e = .returned (.tuple #[v, .int .i64 0]) ∧ OwnInts w' w.heap.size v (grams l k (l.length + 1 - k)) ∧ Ext w w' := by
  obtain ⟨i0, hi, hz0, hz1, hz2⟩ := info_parts int_info
  have hlc := hA.1
  have hcc := hA.2.1
  have hcut := hA.cut 0 k (Nat.zero_le _) h2 A (fun _ b off h => by rw [h, Nat.zero_mul, Nat.add_zero])
  rw [Nat.sub_zero, Nat.sub_zero, List.drop_zero] at hcut
  have hlen : (l.take k).length = k := by simp; omega
  have hp := M.pw_range 1000003 (k - 1)
  have hpk : ((k : Int) - 1).toNat = k - 1 := by omega
  by_cases hkl : k < l.length
  · obtain ⟨b, off, rfl, hb, hr⟩ := hA.2.2 (by intro h; rw [h] at hkl; simp at hkl)
    have hb' : b < w.heap.size := hb
    go_enter Tryd.func26, Tryd.ntmps26
    go_wp2_with (first | (go_at_call 9; refine (Hash_n _ _ _ _ _ hlen hcut).mono ?_; rintro e w1 ⟨rfl, hd1⟩) | (go_at_call 39; refine (power_int _ _ (by omega) (by omega)).mono ?_; rintro e w' ⟨rfl, rfl⟩))
    go_loopw [6, 38] (fun v i wr => ∃ n : Nat, n + k ≤ l.length ∧ i = .int .i64 n ∧ OwnInts wr w.heap.size v (grams l k (n + 1)) ∧ Ext w wr) (fun _ i _ => l.length - (intOf i).toNat)
    case atStart => exact ⟨0, by omega, rfl, own_one hd1 (by rw [List.drop_zero]), hd1.alloc _⟩
    case round =>
      obtain ⟨n, hn, rfl, hown, hd⟩ := hrel
      by_cases hlt : n + k < l.length
      · obtain ⟨c0, c1, hs⟩ := lex_cells hr (n + k) hlt
        obtain ⟨c2, _, hs2⟩ := lex_cells hr n (by omega)
        have hx : (⟨b, off + k * 2 + n * 2, none⟩ : Addr) = ⟨b, off + (n + k) * 2, none⟩ := by congr 1; omega
        rw [← hx] at c0
        rw [show (⟨b, off + (n + k) * 2 + 1, none⟩ : Addr) = ⟨b, off + k * 2 + n * 2 + 1, none⟩ by congr 1; omega] at c1
        rw [← hd.cell (p := ⟨b, _, none⟩) hb] at c0
        rw [← hd.cell (p := ⟨b, _, none⟩) hb] at c1
        clear hx
        rw [← hd.cell (p := ⟨b, _, none⟩) hb] at c2
        have hgl := grams_length l k (n + 1)
        obtain ⟨g, o, cap, rfl, hgb, hgw, hgc, hcap, hcell⟩ := OwnAt.cells hown (by rw [hgl]; omega)
        have hgn := hcell n (.int .i64 (M.hash (texts ((l.drop n).take k)))) (by simp [ints, grams, grams_length])
        have hrr := hash_roll l n k h1 (by omega)
        have hgr : Hid (grams l k (n + 2) = grams l k (n + 1) ++ [M.hash (texts ((l.drop (n + 1)).take k))]) := rfl
        have hhr := M.hash_range (texts ((l.drop n).take k))
        have HR := Lib.hid hrr
        have HC := Lib.hid hcell
        have hown' : OwnAt wr w.heap.size 3 1 (.slice (some ⟨g, o, none⟩) (n + 1) cap) (n + 1) (ints (grams l k (n + 1))) := by unfold OwnInts at hown; rwa [hgl] at hown
        rw [hgl] at hgc ⊢
        have HGL := Lib.hid hgl
        clear hcell hrr hgl
        go_wp2_with fail
        obtain ⟨Φ, hΦ⟩ : ∃ Φ : World → Prop, ∀ x, Φ x ↔ OwnAt x w.heap.size 3 1 (.slice (some ⟨g, o, none⟩) (n + 1) cap) (n + 1) (ints (grams l k (n + 1))) ∧ x.cell? ⟨b, off + n * 2, none⟩ = some (.string l[n].1) ∧ x.cell? ⟨wr.heap.size, 0, none⟩ = some (.string l[n + k].1) := ⟨_, fun _ => Iff.rfl⟩
        have h0 : Φ (wr.alloc (.cells #[.string l[n + k].1, .int .i64 l[n + k].2] 49)).drew := (hΦ _).2 ⟨(hown'.alloc _).dr ⟨1, rfl⟩, (World.cell?_alloc_lt wr _ ⟨b, off + n * 2, none⟩ (Nat.lt_of_lt_of_le hb hd.size)).trans c2, cell_new _ _ _ 0⟩
        have fx0 : ∀ x : Lat Φ, x.w'.cell? ⟨g, o + n, none⟩ = some (.int .i64 (M.hash (texts ((l.drop n).take k)))) := fun x => by
          have h := ((hΦ _).1 x.h).1
          obtain ⟨g', o', cap', e, _, _, _, _, hcc⟩ := OwnAt.cells h (by omega)
          cases e
          exact hcc n _ (by simp [ints, grams, grams_length])
        have fx1 : ∀ x : Lat Φ, x.w'.cell? ⟨b, off + n * 2, none⟩ = some (.string l[n].1) := fun x => ((hΦ _).1 x.h).2.1
        have fx2 : ∀ x : Lat Φ, x.w'.cell? ⟨wr.heap.size, 0, none⟩ = some (.string l[n + k].1) := fun x => ((hΦ _).1 x.h).2.2
        have HΦ := Lib.hid hΦ
        clear hΦ
        have hne := Lat.some h0
        refine wp_region_lat [13, 14, 15] Φ h0 (by kernel_rfl) (by kernel_rfl) (by kernel_rfl) ?_
        repeat (refine lex_pure rfl rfl rfl ?_; intro K hK; go_big_quiet_op; go_big_quiet_on)
        refine lex_eff rfl ?_
        go_wp2_with (go_at_call 40; refine (roll_q _ _ _ _ _ hhr hp hs2 hs).mono ?_; rintro e w3 ⟨rfl, hd3⟩)
        obtain ⟨q0, q1, q2⟩ := (HΦ.out _).1 h0
        have r0 := q0.dr hd3
        have r1 := hd3.keepc q1
        have r2 := hd3.keepc q2
        have e3 : Ext w w3 := ((hd.alloc _).drew).dr hd3
        refine ⟨⟨⟨w3, (HΦ.out _).2 ⟨r0, r1, r2⟩⟩, rfl⟩, ?_⟩
        refine lex_eff rfl ?_
        rw [HR.out]
        go_wp2_with fail
        refine ⟨⟨⟨_, (HΦ.out _).2 ⟨r0.alloc _, alloc_keepc _ r1, alloc_keepc _ r2⟩⟩, rfl⟩, ?_⟩
        refine lex_eff rfl ?_
        refine wpList_append_ownAt _ rfl (.tmp 43) (.tmp 57) 53 rfl w.heap.size 3 i0 (.int .i64 0) 1 8 Tryd.underlying53 hi hz0 hz1 hz2 rfl (by decide) _ _ _ rfl (r0.alloc _) ⟨w3.heap.size, 0, none⟩ 1 1 (ints [M.hash (texts ((l.drop (n + 1)).take k))]) rfl rfl (cells_new_ints w3 _) (ints_one _) (by unfold maxLen; omega) (by omega) (by have := e3.size; simp; omega) (by decide) ?_
        intro v4 w4 hown4 hg4 hold4 _
        go_wp2_with fail
        refine ⟨⟨⟨_, (HΦ.out _).2 ⟨hold4, grown_keepc hg4 (alloc_keepc _ r1) (by show some g ≠ some b; intro h; cases h; omega), grown_keepc hg4 (alloc_keepc _ r2) (by show some g ≠ some wr.heap.size; intro h; cases h; omega)⟩⟩, rfl⟩, ?_⟩
        repeat (refine lex_pure rfl rfl rfl ?_; intro K hK; go_big_quiet_op; go_big_quiet_on)
        refine lex_nil ?_
        go_wp2_with fail
        go_roundw
        case rel => exact ⟨n + 1, by omega, by go_num, by rw [hgr.out]; exact own_snoc (by rw [HGL.out]; exact hown4), (e3.alloc _).grown r0 hg4⟩
        case measure => simp [intOf]; omega
      · have hn2 : n + k = l.length := by omega
        go_wp2_with fail
        go_ret2
        exact ⟨_, rfl, by rw [show l.length + 1 - k = n + 1 by omega]; exact hown, hd⟩
  · obtain rfl : k = l.length := by omega
    have hg1 : Hid (grams l l.length (l.length + 1 - l.length) = [M.hash (texts (l.take l.length))]) := by
      unfold Hid
      rw [show l.length + 1 - l.length = 1 by omega]
      simp [grams]
    by_cases hck : c = l.length
    · subst hck
      go_enter Tryd.func26, Tryd.ntmps26
      go_wp2_with (first | (go_at_call 9; refine (Hash_n _ _ _ _ _ hlen hcut).mono ?_; rintro e w1 ⟨rfl, hd1⟩) | (go_at_call 39; refine (power_int _ _ (by omega) (by omega)).mono ?_; rintro e w' ⟨rfl, rfl⟩))
      refine wp_loop_rounds 1 ?_
      rw [rounds_succ]
      go_wp2_with fail
      go_ret2
      exact ⟨_, rfl, by rw [hg1.out]; exact own_one hd1 (by rw [List.take_length]), hd1.alloc _⟩
    · have hck' : l.length < c := by omega
      go_enter Tryd.func26, Tryd.ntmps26
      go_wp2_with (first | (go_at_call 9; refine (Hash_n _ _ _ _ _ hlen hcut).mono ?_; rintro e w1 ⟨rfl, hd1⟩) | (go_at_call 39; refine (power_int _ _ (by omega) (by omega)).mono ?_; rintro e w' ⟨rfl, rfl⟩))
      refine wp_loop_rounds 1 ?_
      rw [rounds_succ]
      go_wp2_with fail
      go_ret2
      exact ⟨_, rfl, by rw [hg1.out]; exact own_one hd1 (by rw [List.take_length]), hd1.alloc _⟩

end Go.Proofs.YtmibpagajenndaaDoor
