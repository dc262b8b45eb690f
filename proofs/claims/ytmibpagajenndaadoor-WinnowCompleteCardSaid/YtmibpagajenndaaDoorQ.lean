/- The program's Select. -/
import Derived.Test.YtmibpagajenndaaDoorO
import Derived.Deep.DeepCutAuto
import Derived.Deep.CutBlock
namespace Go.Proofs.YtmibpagajenndaaDoor
open Go.RowKit

def nats (D : List Nat) : List Value := ints (D.map fun p : Nat => (p : Int))
def lenV : Value → Nat | .slice _ n _ => n | _ => 0
def OwnN (w : World) (base : Nat) (v : Value) (D : List Nat) : Prop := OwnAt w base 3 1 v D.length (nats D)
def Apart (v u : Value) : Prop := ∀ g, v.ownBlock = some g → u.ownBlock ≠ some g

theorem nats_length (D : List Nat) : (nats D).length = D.length := by simp [nats, ints]
theorem nats_get (D : List Nat) (i : Nat) (h : i < D.length) : (nats D)[i]? = some (.int .i64 (D[i] : Int)) := by simp [nats, ints, h]
theorem nats_append (D E : List Nat) : nats (D ++ E) = nats D ++ nats E := by simp [nats, ints]
theorem nats_one (l : List Nat) : ∀ u ∈ nats l, u.oneCell' = true := ints_one _
theorem own_form {w : World} {base : Nat} {e : TypeId} {size : Nat} {v : Value} {n : Nat} {xs : List Value} (h : OwnAt w base e size v n xs) : ∃ A c, v = .slice A n c := by
  obtain ⟨_, ⟨rfl, rfl⟩ | ⟨g, off, cap, cur, rfl, _⟩⟩ := h
  · exact ⟨_, _, rfl⟩
  · exact ⟨_, _, rfl⟩
theorem OwnAt.takeN {w : World} {base : Nat} {e : TypeId} {A : Option Addr} {n c : Nat} {xs : List Value} (h : OwnAt w base e 1 (.slice A n c) n xs) (k : Nat) (hk : k ≤ n) : OwnAt w base e 1 (.slice A k c) k (xs.take k) := by
  obtain ⟨h1, ⟨h2, h3⟩ | ⟨g, off, cap, cur, h2, hb, hh, hn, hc, hs, hx⟩⟩ := h
  · cases h2
    obtain rfl : k = 0 := by omega
    exact ⟨by simp, .inl ⟨rfl, rfl⟩⟩
  · cases h2
    refine ⟨by simp; omega, .inr ⟨g, off, c, cur, rfl, hb, hh, by omega, hc, hs, fun j hj => ?_⟩⟩
    rw [hx j (by omega), List.getElem?_take_of_lt (by omega)]
theorem OwnAt.tailN {w : World} {base : Nat} {e : TypeId} {g o n c : Nat} {x : Value} {xs : List Value} (h : OwnAt w base e 1 (.slice (some ⟨g, o, none⟩) (n + 1) c) (n + 1) (x :: xs)) : OwnAt w base e 1 (.slice (some ⟨g, o + 1, none⟩) n (c - 1)) n xs := by
  obtain ⟨h1, ⟨h2, h3⟩ | ⟨g, off, cap, cur, h2, hb, hh, hn, hc, hs, hx⟩⟩ := h
  · cases h2
  · cases h2
    refine ⟨by simpa using h1, .inr ⟨_, _, _, cur, rfl, hb, hh, by omega, by omega, by omega, fun j hj => ?_⟩⟩
    have := hx (j + 1) (by omega)
    rw [show o + 1 + j = o + (j + 1) by omega, this]
    rfl

theorem own_lt {w : World} {base : Nat} {v : Value} {l : List Int} {g : Nat} (h : OwnInts w base v l) (hg : v.ownBlock = some g) : g < w.heap.size := by
  obtain ⟨_, ⟨rfl, _⟩ | ⟨g', off, cap, cur, rfl, _, hh, _⟩⟩ := h
  · simp [Value.ownBlock] at hg
  · simp [Value.ownBlock] at hg
    subst hg
    rcases Nat.lt_or_ge g' w.heap.size with h | h
    · exact h
    · rw [Array.getElem?_eq_none h] at hh; cases hh
theorem nats_take (D : List Nat) (m : Nat) : (nats (D.take (m + 1))).take m = nats (D.take m) := by
  simp [nats, ints, ← List.map_take, List.take_take]
theorem ge_more {l : List Int} {D : List Nat} {k m d : Nat} (hm : m + 1 ≤ D.length) (hd : d = D[m]'(by omega)) (h : gt l k ≤ gt l d) (H : Hid (∀ i (h : i < D.length), m + 1 ≤ i → gt l k ≤ gt l D[i])) : Hid (∀ i (h : i < D.length), m ≤ i → gt l k ≤ gt l D[i]) := by
  intro i hi hmi
  by_cases e : i = m
  · subst e; rw [← hd]; exact h
  · exact H i hi (by omega)
theorem lt_left {l : List Int} {D : List Nat} {k m d : Nat} (hm : m + 1 ≤ D.length) (hd : d = D[m]'(by omega)) (h : gt l d < gt l k) : Hid (0 < m + 1 → ∀ (h : m + 1 - 1 < D.length), gt l D[m + 1 - 1] < gt l k) := by
  intro _ h'
  have e : D[m + 1 - 1] = d := hd.symm
  rw [e]; exact h

theorem W.Queue.ne {g : Nat → Int} {lo hi : Nat} {d : List Nat} (h : W.Queue g lo hi d) (h1 : lo < hi) (h2 : 0 < hi) : d ≠ [] := by
  rintro rfl
  have := (h.mem (hi - 1)).2 ⟨by omega, by omega, fun j _ _ => by omega⟩
  simp at this
theorem queue_in {g : Nat → Int} {k q p : Nat} {E : List Nat} (h : W.Queue g (k - q) (k + 1) (p :: E)) (hp : p + q ≤ k) : W.Queue g (k + 1 - q) (k + 1) E := by
  have := h.move
  rwa [if_pos (by omega), show k - q + 1 = k + 1 - q by omega] at this
theorem queue_out {g : Nat → Int} {k q p : Nat} {E : List Nat} (h : W.Queue g (k - q) (k + 1) (p :: E)) (hp : ¬ p + q ≤ k) : W.Queue g (k + 1 - q) (k + 1) (p :: E) := by
  by_cases hq : q ≤ k
  · have := h.move
    rwa [if_neg (by omega), show k - q + 1 = k + 1 - q by omega] at this
  · rwa [show k + 1 - q = k - q by omega]

theorem selA (l : List Int) {k q : Nat} (h : k + 1 < q) : selI l q (k + 1 + 1 - q) = selI l q (k + 1 - q) := by
  rw [show k + 1 + 1 - q = 0 by omega, show k + 1 - q = 0 by omega]
theorem selB0 (l : List Int) {k q : Nat} (h : k + 1 = q) : selI l q (k + 1 - q) = [] := by
  rw [show k + 1 - q = 0 by omega, selI_zero]
theorem selB (l : List Int) {k q p : Nat} (h : k + 1 = q) (hp : W.lst (gt l) (k + 1 - q) (k + 1 - (k + 1 - q)) = p) : selI l q (k + 1 + 1 - q) = [(p : Int)] := by
  rw [show k + 1 + 1 - q = 1 by omega, selI_one, ← hp, show k + 1 - q = 0 by omega, show k + 1 - 0 = q by omega]
theorem selC (l : List Int) {k q p N : Nat} (hq : 0 < q) (h : k = N + q) (hp : W.lst (gt l) (k + 1 - q) (k + 1 - (k + 1 - q)) = p) : selI l q (k + 1 + 1 - q) = if W.lst (gt l) N q < p then selI l q (k + 1 - q) ++ [(p : Int)] else selI l q (k + 1 - q) := by
  subst h
  rw [← hp, show N + q + 1 + 1 - q = N + 2 by omega, show N + q + 1 - q = N + 1 by omega, show N + q + 1 - (N + 1) = q by omega]
  exact selI_step l q N hq

theorem W.Queue.nil (g : Nat → Int) (lo : Nat) : W.Queue g lo 0 [] := ⟨fun j => ⟨fun h => by simp at h, fun h => by omega⟩, List.Pairwise.nil⟩
theorem Apart.fresh {v u u' : Value} {N N' M : Nat} (h : Apart v u) (hv : ∀ g, v.ownBlock = some g → g < N) (hn : u'.ownBlock = u.ownBlock ∨ ∃ g, u'.ownBlock = some g ∧ N' ≤ g ∧ g < M) (hN : N ≤ N') : Apart v u' := by
  intro g hg
  rcases hn with e | ⟨g2, e, h2, _⟩
  · rw [e]; exact h g hg
  · rw [e]
    have := hv g hg
    intro e3
    cases e3
    omega

set_option maxRecDepth 4000 in
set_option maxHeartbeats 1000000 in
theorem Select_walk (l : List Int) (A : Option Addr) (c n q : Nat) (w : World) (hA : IntsAt w A n l) (h1 : 1 ≤ q) (h2 : q ≤ 1024) (hl : n ≤ 8192) :
    Calls Tryd.prog 23 #[.slice A n c, .int .i64 (q : Int)] w (RetInts w (selI l q (n + 1 - q)) 0) := by
  obtain ⟨i0, hi, hz0, hz1, hz2⟩ := info_parts int_info
  have HA := Lib.hid hA
  clear hA
  go_enter Tryd.func23, Tryd.ntmps23
  go_wp2_with (go_at_call 25; refine (size_is _ true _ (by simp; omega)).mono ?_; rintro e w' ⟨rfl, rfl⟩)
  go_loopw [6, 7, 19] (fun vo vl i wr => ∃ (k : Nat) (D : List Nat), k ≤ n ∧ D.length ≤ k ∧ i = .int .i64 k ∧ OwnN wr w.heap.size vl D ∧ W.Queue (gt l) (k - q) k D ∧ OwnInts wr w.heap.size vo (selI l q (k + 1 - q)) ∧ Apart vl vo ∧ Ext w wr) (fun _ _ i _ => n - (intOf i).toNat)
  case atStart => exact ⟨0, [], Nat.zero_le _, Nat.le_refl _, rfl, ⟨rfl, .inl ⟨rfl, rfl⟩⟩, W.Queue.nil _ _, by rw [show 0 + 1 - q = 0 by omega, selI_zero]; exact ⟨rfl, .inl ⟨rfl, rfl⟩⟩, (fun g hg => nomatch hg), Ext.refl _⟩
  case round =>
    obtain ⟨k, D, hk, hDk, rfl, hl1, hQ, ho, hap, hd⟩ := hrel
    by_cases hlt : k < n
    · obtain ⟨b, off, rfl, hc⟩ := HA.out.gcell (by omega)
      have hck := hd.keepc (hc k hlt)
      have hcD : ∀ j, j ∈ D → wr.cell? ⟨b, off + j, none⟩ = some (.int .i64 (gt l j)) := fun j hj => hd.keepc (hc j (by have := (hQ.mem j).1 hj; omega))
      have HCD := Lib.hid hcD
      have HC := Lib.hid hc
      have HQ := Lib.hid hQ
      clear hcD hc hQ
      go_upto_block 3 with (fail)
      go_cut [7] (fun v w1 => ∃ (m : Nat) (A1 : Option Addr) (c1 : Nat), v = .slice A1 m c1 ∧ m ≤ D.length ∧ OwnAt w1 w.heap.size 3 1 v m (nats (D.take m)) ∧ Apart v u6 ∧ Hid (∀ i (h : i < D.length), m ≤ i → gt l k ≤ gt l D[i]) ∧ Hid (0 < m → ∀ (h : m - 1 < D.length), gt l D[m - 1] < gt l k) ∧ Dr wr w1)
      case first =>
        go_wp2_with fail
        go_loopw [7] (fun v w2 => ∃ (m : Nat) (A1 : Option Addr) (c1 : Nat), v = .slice A1 m c1 ∧ m ≤ D.length ∧ OwnAt w2 w.heap.size 3 1 v m (nats (D.take m)) ∧ Apart v u6 ∧ Hid (∀ i (h : i < D.length), m ≤ i → gt l k ≤ gt l D[i]) ∧ Dr wr w2) (fun v _ => lenV v)
        case atStart =>
          obtain ⟨A1, c1, e1⟩ := own_form hl1
          exact ⟨D.length, A1, c1, e1, Nat.le_refl _, by rw [List.take_length]; exact hl1, hap, fun i h1 h2 => absurd h1 (by omega), Dr.refl _⟩
        case round =>
          obtain ⟨m, A1, c1, rfl, hm, hown, hap1, HGE, hd2⟩ := hrel
          cases m with
          | zero =>
            go_wp2_with fail
            go_quiet (fail)
            go_wp2_with fail
            go_meet
            case rel => exact ⟨0, A1, c1, rfl, Nat.zero_le _, hown.dr ⟨_, rfl⟩, hap1, HGE, fun h => absurd h (by omega), hd2.drewN _⟩
          | succ m =>
            obtain ⟨g, o, cap, e1, hgb, hgw, hgc, hcap, hcell⟩ := OwnAt.cells hown (by omega)
            cases e1
            have hcd := hcell m _ (by rw [nats_get _ m (by rw [List.length_take]; omega), List.getElem_take])
            have hmem : D[m]'(by omega) ∈ D := List.getElem_mem _
            have hlc := hd2.keepc (HCD.out _ hmem)
            have hdn : (D[m]'(by omega) : Nat) < n := by have := (HQ.out.mem _).1 hmem; omega
            have hck2 := hd2.keepc hck
            have HOWN := Lib.hid hown
            clear hcell hmem hown
            obtain ⟨d, hdd⟩ : ∃ d, d = D[m]'(by omega) := ⟨_, rfl⟩
            rw [← hdd] at hcd hlc hdn
            have HDD := Lib.hid hdd
            clear hdd
            by_cases hge : gt l k ≤ gt l d
            · go_wp2_with fail
              go_quiet (fail)
              go_wp2_with fail
              go_roundw
              case rel => exact ⟨m, _, _, rfl, by omega, by rw [← nats_take]; exact (HOWN.out.takeN m (by omega)).dr ⟨_, rfl⟩, hap1, ge_more hm HDD.out hge HGE, hd2.drewN _⟩
              case measure => simp [lenV]
            · go_wp2_with fail
              go_quiet (fail)
              go_wp2_with fail
              go_meet
              case rel => exact ⟨m + 1, _, _, rfl, hm, HOWN.out.dr ⟨_, rfl⟩, hap1, HGE, lt_left hm HDD.out (by omega), hd2.drewN _⟩
      case rest =>
        obtain ⟨m, A1, c1, rfl, hm, hown, hap1, HGE, HLE, hd2⟩ := hcut
        have hQ2 := HQ.out.push (by omega) m hm (fun i h1 h2 => HGE.out i h1 h2) (fun h1 h2 => HLE.out h1 h2)
        have ho2 := ho.dr hd2
        have d3 : Ext w wc := hd.dr hd2
        have hml : (D.take m).length = m := by rw [List.length_take]; omega
        obtain ⟨p, E, hpE⟩ : ∃ p E, D.take m ++ [k] = p :: E := by
          cases hD : D.take m ++ [k] with
          | nil => simp at hD
          | cons p E => exact ⟨p, E, rfl⟩
        have hEl : E.length = m := by have := congrArg List.length hpE; simp at this; omega
        rw [hpE] at hQ2
        have hpk : p ≤ k := by have := (hQ2.mem p).1 (List.mem_cons_self); omega
        have HQ2 := Lib.hid hQ2
        have HPE := Lib.hid hpE
        have HEL := Lib.hid hEl
        have HAP := Lib.hid hap1
        have HO2 := Lib.hid ho2
        clear hQ2 hpE hEl hml hap1 ho2 hap ho hl1
        go_upto_if 56 with (first | (at_builtin; refine wpList_append_ownAt _ rfl (.tmp 46) (.tmp 48) 53 rfl w.heap.size 3 i0 (.int .i64 0) 1 8 Tryd.underlying53 hi hz0 hz1 hz2 rfl (by decide) _ _ _ rfl (hown.alloc _) ⟨wc.heap.size, 0, none⟩ 1 1 (nats [k]) rfl rfl (cells_new_ints wc _) (nats_one _) (by unfold maxLen; omega) (by omega) (by have := d3.size; simp; omega) (by decide) ?_; intro v2 w2 hown2 hg2 _ hnew2; obtain ⟨g2, o2, cap2, rfl, hgb2, hgw2, hgc2, hcap2, hcell2⟩ := OwnAt.cells hown2 (by omega); have hc0 := hcell2 0 (.int .i64 (p : Int)) (by rw [← nats_append, HPE.out, nats_get _ 0 (by simp)]; rfl); clear hcell2; try simp only [Nat.add_zero] at hc0))
        have hap2 : Apart (.slice (some ⟨g2, o2, none⟩) (m + 1) cap2) u6 := by
          intro g3 e3
          rcases hnew2 with h | ⟨g4, h, h5, _⟩
          · rw [h] at e3; exact HAP.out g3 e3
          · rw [h] at e3
            cases e3
            intro h6
            have := own_lt HO2.out h6
            simp at h5
            omega
        have HA2 := Lib.hid hap2
        have hout2 : OwnInts w2 w.heap.size u6 (selI l q (k + 1 - q)) := (HO2.out.alloc _).grown hg2 (fun g3 h3 h4 => by
          have e6 : Value.ownBlock (.slice A1 m c1) = some g3 := h4
          exact HAP.out g3 e6 h3)
        have HOUT := Lib.hid hout2
        have d4 : Ext w w2 := (d3.alloc _).grown hown hg2
        have hown3 : OwnAt w2 w.heap.size 3 1 (.slice (some ⟨g2, o2, none⟩) (m + 1) cap2) (m + 1) (nats (p :: E)) := by rw [← HPE.out, nats_append]; exact hown2
        have HOWN := Lib.hid hown3
        clear hown2 hap2 hnew2 hg2 hout2 hown3 hown
        go_cut [7] (fun v w3 => ∃ (D2 : List Nat) (g3 o3 c3 : Nat), v = .slice (some ⟨g3, o3, none⟩) D2.length c3 ∧ Hid (D2 ≠ []) ∧ D2.length ≤ k + 1 ∧ OwnN w3 w.heap.size v D2 ∧ Hid (W.Queue (gt l) (k + 1 - q) (k + 1) D2) ∧ Apart v u6 ∧ w2 = w3)
        case first =>
          by_cases hpq : p + q ≤ k
          · have hm0 : 0 < m := by
              have := List.length_pos_iff.2 (W.Queue.ne (queue_in HQ2.out hpq) (by omega) (by omega))
              rwa [HEL.out] at this
            go_wp2_with fail
            go_meet
            case rel => exact ⟨E, g2, o2 + 1, cap2 - 1, by rw [HEL.out], W.Queue.ne (queue_in HQ2.out hpq) (by omega) (by omega), by have := HEL.out; omega, by unfold OwnN; rw [HEL.out]; exact HOWN.out.tailN, queue_in HQ2.out hpq, HA2.out, rfl⟩
          · go_wp2_with fail
            go_meet
            case rel => exact ⟨p :: E, g2, o2, cap2, by rw [List.length_cons, HEL.out], List.cons_ne_nil _ _, by have := HEL.out; simp; omega, by unfold OwnN; rw [List.length_cons, HEL.out]; exact HOWN.out, queue_out HQ2.out hpq, HA2.out, rfl⟩
        case rest =>
          obtain ⟨D2, g3, o3, c3, rfl, hne, hDk2, hl3, hQ3, hap3, rfl⟩ := hcut
          obtain ⟨p2, E2, rfl⟩ : ∃ p E, D2 = p :: E := by
            cases hD : D2 with
            | nil => exact absurd hD hne.out
            | cons p E => exact ⟨p, E, rfl⟩
          have hp2 : p2 ≤ k := by have := (hQ3.out.mem p2).1 (List.mem_cons_self); omega
          obtain ⟨g5, o5, cap5, e5, hgb5, hgw5, hgc5, hcap5, hcell5⟩ := OwnAt.cells hl3 (Nat.succ_pos _)
          cases e5
          have hc5 := hcell5 0 (.int .i64 (p2 : Int)) (by rw [nats_get _ 0 (by simp)]; rfl)
          clear hcell5
          simp only [Nat.add_zero] at hc5
          have HL3 := Lib.hid hl3
          have hhead : W.lst (gt l) (k + 1 - q) (k + 1 - (k + 1 - q)) = p2 := hQ3.out.head
          have HHD := Lib.hid hhead
          clear hl3 hhead
          obtain ⟨L, A6, c6, hL, rfl⟩ : ∃ L A6 c6, L = (selI l q (k + 1 - q)).length ∧ u6 = .slice A6 L c6 := by
            obtain ⟨A6, c6, e6⟩ := own_form HOUT.out
            exact ⟨_, A6, c6, rfl, e6⟩
          have hout3 : OwnAt w2 w.heap.size 3 1 (.slice A6 L c6) L (ints (selI l q (k + 1 - q))) := by rw [hL]; have := HOUT.out; unfold OwnInts at this; rw [← hL] at this; rw [← hL]; exact this
          have HOUT3 := Lib.hid hout3
          have HLL := Lib.hid hL
          clear hout3 hL
          have hwr : IntKind.i64.wrap ((q : Int) - 1) = (q : Int) - 1 := IntWalk.i64_in _ (by omega)
          by_cases hk1 : k + 1 < q
          · go_wp2_with fail
            have hk3 : ¬ ((q : Int) - 1 ≤ (k : Int)) := by omega
            go_quiet (fail)
            go_wp2_with fail
            go_roundw
            case rel => exact ⟨k + 1, p2 :: E2, hlt, hDk2, by go_num, HL3.out.dr ⟨_, rfl⟩, hQ3.out, by rw [selA l hk1]; unfold OwnInts; rw [← HLL.out]; exact HOUT3.out.dr ⟨_, rfl⟩, hap3, d4.dr ⟨_, rfl⟩⟩
            case measure => simp [intOf]; omega
          · have hk3 : (q : Int) - 1 ≤ (k : Int) := by omega
            by_cases hk2 : k + 1 = q
            · obtain rfl : L = 0 := by rw [HLL.out, selB0 l hk2]; rfl
              have hsB := Lib.hid (selB l hk2 HHD.out)
              have hout4 : OwnAt w2 w.heap.size 3 1 (.slice A6 0 c6) 0 (ints []) := by have := HOUT3.out; rwa [selB0 l hk2] at this
              have HOUT4 := Lib.hid hout4
              clear hout4
              go_wp2_with fail
              go_quiet (fail)
              go_wp2_with (at_builtin; refine wpList_append_ownAt _ rfl (.tmp 80) (.tmp 84) 53 rfl w.heap.size 3 i0 (.int .i64 0) 1 8 Tryd.underlying53 hi hz0 hz1 hz2 rfl (by decide) _ _ _ rfl ((HOUT4.out.dr ⟨_, rfl⟩).alloc _) ⟨w2.heap.size, 0, none⟩ 1 1 (ints [(p2 : Int)]) rfl rfl (cells_new_ints _ _) (ints_one _) (by unfold maxLen; omega) (by omega) (by have := d4.size; simp; omega) (by decide) ?_; intro v4 w4 hown4 hg4 _ hnew4)
              go_roundw
              case rel => exact ⟨k + 1, p2 :: E2, hlt, hDk2, by go_num, ((HL3.out.dr ⟨_, rfl⟩).alloc _).grown hg4 (fun g8 h8 h9 => hap3 g8 h8 h9), hQ3.out, by rw [hsB.out]; exact hown4, hap3.fresh (fun g8 h8 => by cases h8; exact hgw5) hnew4 (by simp), ((d4.dr ⟨_, rfl⟩).alloc _).grown HOUT4.out hg4⟩
              case measure => simp [intOf]; omega
            · obtain ⟨N, hN⟩ : ∃ N, k = N + q := ⟨k - q, by omega⟩
              have hsC := Lib.hid (selC l (p := p2) h1 hN HHD.out)
              have hpos : 0 < L := by rw [HLL.out, show k + 1 - q = N + 1 by omega]; exact selI_pos l q N h1
              have hlast : (selI l q (k + 1 - q))[L - 1]? = some ((W.lst (gt l) N q : Nat) : Int) := by rw [HLL.out, show k + 1 - q = N + 1 by omega]; exact selI_last l q N h1
              have hlen : L ≤ k + 1 - q := by rw [HLL.out]; exact selI_len l q _ h1
              have hle : W.lst (gt l) N q ≤ p2 := by
                have h5 := W.lst_mono (gt l) N q h1
                have h6 := HHD.out
                rw [show k + 1 - q = N + 1 by omega, show k + 1 - (N + 1) = q by omega] at h6
                rwa [h6] at h5
              clear hN
              have hz : ((L : Int) == 0) = false := by simp; omega
              obtain ⟨g7, o7, cap7, e7, hgb7, hgw7, hgc7, hcap7, hcell7⟩ := OwnAt.cells HOUT3.out hpos
              cases e7
              have hcl := hcell7 (L - 1) (.int .i64 ((W.lst (gt l) N q : Nat) : Int)) (by unfold ints; rw [List.getElem?_map, hlast]; rfl)
              clear hcell7 hlast
              obtain ⟨P, hP⟩ : ∃ P, P = W.lst (gt l) N q := ⟨_, rfl⟩
              rw [← hP] at hcl hle
              have HPP := Lib.hid hP
              clear hP
              by_cases hpp : P = p2
              · have heq : ((P : Int) == (p2 : Int)) = true := by simp [hpp]
                go_wp2_with fail
                go_quiet (fail)
                go_wp2_with fail
                go_roundw
                case rel => exact ⟨k + 1, p2 :: E2, hlt, hDk2, by go_num, HL3.out.dr ⟨_, rfl⟩, hQ3.out, by rw [hsC.out, if_neg (by rw [← HPP.out]; omega)]; unfold OwnInts; rw [← HLL.out]; exact HOUT3.out.dr ⟨_, rfl⟩, hap3, d4.dr ⟨_, rfl⟩⟩
                case measure => simp [intOf]; omega
              · have heq : ((P : Int) == (p2 : Int)) = false := by simp; omega
                go_wp2_with fail
                go_quiet (fail)
                clear hwr hz heq hcl hpos hk3
                go_wp2_with (at_builtin; refine wpList_append_ownAt _ rfl (.tmp 80) (.tmp 84) 53 rfl w.heap.size 3 i0 (.int .i64 0) 1 8 Tryd.underlying53 hi hz0 hz1 hz2 rfl (by decide) _ _ _ rfl ((HOUT3.out.dr ⟨_, rfl⟩).alloc _) ⟨w2.heap.size, 0, none⟩ 1 1 (ints [(p2 : Int)]) rfl rfl (cells_new_ints _ _) (ints_one _) (by unfold maxLen; omega) (by omega) (by have := d4.size; simp; omega) (by decide) ?_; intro v4 w4 hown4 hg4 _ hnew4)
                go_roundw
                case rel => exact ⟨k + 1, p2 :: E2, hlt, hDk2, by go_num, ((HL3.out.dr ⟨_, rfl⟩).alloc _).grown hg4 (fun g8 h8 h9 => hap3 g8 h8 h9), hQ3.out, by rw [hsC.out, if_pos (by rw [← HPP.out]; omega)]; exact own_snoc (by rw [← HLL.out]; exact hown4), hap3.fresh (fun g8 h8 => by cases h8; exact hgw5) hnew4 (by simp), ((d4.dr ⟨_, rfl⟩).alloc _).grown HOUT3.out hg4⟩
                case measure => simp [intOf]; omega
    · go_wp2_with fail
      go_ret2
      exact ⟨_, rfl, by rw [show n + 1 - q = k + 1 - q by omega]; exact ho, hd⟩

end Go.Proofs.YtmibpagajenndaaDoor
