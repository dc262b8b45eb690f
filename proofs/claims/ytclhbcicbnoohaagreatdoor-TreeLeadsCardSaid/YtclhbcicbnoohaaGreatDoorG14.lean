/- The texts Ne Nd Ng Trl Xh Xi Fw Xj Jf of the seat, joined. -/
import Derived.Test.YtclhbcicbnoohaaGreatDoorG13
import Derived.Laws.StructEq
import Derived.BigQuiet
import Derived.KernelRfl
namespace Go.Proofs.YtclhbcicbnoohaaGreatDoor
open Go.RowKit
theorem neq_file (w : World) (a b c d : ByteArray) : (Go.binOp .neq 25 (.agg #[.string a, .string b]) (.agg #[.string c, .string d])).run Tryz.prog w = .ok (.bool (!((a.toList == c.toList) && (b.toList == d.toList)))) w := by
  have h1 : Tryz.prog.underlying 25 = some (.struct (Tryz.prog.fieldsOf 25)) := by kernel_rfl
  have h2 : Tryz.prog.stoodInHeld 25 = false := by kernel_rfl
  have h9 : Tryz.prog.underlying 9 = some .string := by kernel_rfl
  rw [run_neq_struct, run_equalIn_agg _ _ _ _ _ h1 h2]
  have hm : (Tryz.prog.fieldsOf 25).toList.map (fun f => (decide (f.name ≠ "_"), f.type, f.offset)) = [(true, 9, 0), (true, 9, 1)] := by kernel_rfl
  generalize (Tryz.prog.fieldsOf 25).toList = l at hm
  obtain ⟨f, l1, rfl, ef, hm1⟩ := List.map_eq_cons_iff.1 hm
  obtain ⟨g, l2, rfl, eg, hm2⟩ := List.map_eq_cons_iff.1 hm1
  have hl2 := List.map_eq_nil_iff.1 hm2
  subst hl2
  clear hm hm1 hm2
  simp only [Prod.mk.injEq] at ef eg
  obtain ⟨a1, a2, a3⟩ := ef
  obtain ⟨b1, b2, b3⟩ := eg
  have a1' := of_decide_eq_true a1
  have b1' := of_decide_eq_true b1
  have hp : ∀ (x y : ByteArray), (part 9 #[.string x, .string y] 0).run Tryz.prog w = .ok (.string x) w ∧ (part 9 #[.string x, .string y] 1).run Tryz.prog w = .ok (.string y) w := fun x y => ⟨by simp [part], by simp [part]⟩
  have hs := fun (d : Nat) (x y : ByteArray) => run_equalIn_string (P := Tryz.prog) w d 9 x y h9
  cases hx : (a.toList == c.toList) <;> cases hy : (b.toList == d.toList) <;> simp [Op.eqFields, a1', a2, a3, b1', b2, b3, hp, hs, hx, hy]
end Go.Proofs.YtclhbcicbnoohaaGreatDoor

/- The reference's Same. -/
namespace Go.Proofs.YtclhbcicbnoohaaGreatDoor
open Go.RowKit

theorem bytes_of {a b : ByteArray} (h : a.data.toList = b.data.toList) : a = b := by rw [← T.mkF_eq a, ← T.mkF_eq b, h]
set_option maxRecDepth 100000 in
theorem rSame_any (t s : T.Tr) (A B : Option Addr) (c c' n m : Nat) (w : World) (hn : n = t.length) (hm : m = s.length) (hA : SliceAt fileR w (Old w) A c t) (hB : SliceAt fileR w (Old w) B c' s) :
    Calls Tryz.prog 21 #[.slice A n c, .slice B m c'] w (Al (.bool (decide (t = s))) w) := by
  have hn63 : n ≤ 9223372036854775807 := by have := hA.1; have := hA.2.1; omega
  have hm63 : m ≤ 9223372036854775807 := by have := hB.1; have := hB.2.1; omega
  obtain ⟨R, hR⟩ : ∃ R, R = decide (t = s) := ⟨_, rfl⟩
  rw [← hR]
  have HR := Lib.hid hR
  have HN := Lib.hid hn
  have HM := Lib.hid hm
  have HA := Lib.hid hA
  have HB := Lib.hid hB
  clear hR hn hA hm hB
  by_cases hnm : n = m
  · subst hnm
    go_enter Tryz.func21, Tryz.ntmps21
    go_wp2_with fail
    go_loopw [13] (fun i wr => ∃ k : Nat, k ≤ n ∧ i = .int .i64 k ∧ Hid (t.take k = s.take k) ∧ Hid (Ext w wr)) (fun i _ => n - (intOf i).toNat)
    case atStart => exact ⟨0, Nat.zero_le _, rfl, rfl, Ext.refl _⟩
    case round =>
      obtain ⟨k, hk, rfl, HK, HX⟩ := hrel
      by_cases hlt : k < n
      · have hkl : k < t.length := by rw [← HN.out]; exact hlt
        have hll : k < s.length := by rw [← HM.out]; exact hlt
        obtain ⟨b, off, hAe, hb, ca0, ca1, za1, za2⟩ := file_get (HA.out.ext HX.out) hkl
        obtain ⟨b2, off2, hBe, hb2, cb0, cb1, zb1, zb2⟩ := file_get (HB.out.ext HX.out) hll
        subst hAe hBe
        rw [← Nat.add_assoc] at ca1 cb1
        have ht1 := List.take_succ_eq_append_getElem hkl
        have ht2 := List.take_succ_eq_append_getElem hll
        have HT1 := Lib.hid ht1
        have HT2 := Lib.hid ht2
        clear ht1 ht2
        generalize t[k] = f at *
        generalize s[k] = g at *
        obtain ⟨fp, fd⟩ := f
        obtain ⟨gp, gd⟩ := g
        simp only at ca0 ca1 cb0 cb1 za1 za2 zb1 zb2
        have hne := fun W => neq_file W fp fd gp gd
        by_cases he : fp = gp ∧ fd = gd
        · obtain ⟨rfl, rfl⟩ := he
          have hbb : ((fp.toList == fp.toList) && (fd.toList == fd.toList)) = true := by simp
          simp only [hbb, Bool.not_true] at hne
          clear hbb
          have HK2 : Hid (t.take (k + 1) = s.take (k + 1)) := by unfold Hid; rw [HT1.out, HT2.out, HK.out]
          go_wp2_with fail
          go_quiet (fail)
          go_wp2_with fail
          go_roundw
          case rel => exact ⟨k + 1, by omega, by go_num, HK2.out, HX.out.drewN _⟩
          case measure => simp [intOf]; omega
        · have hbb : ((fp.toList == gp.toList) && (fd.toList == gd.toList)) = false := by
            cases h : ((fp.toList == gp.toList) && (fd.toList == gd.toList)) with
            | false => rfl
            | true =>
              rw [Bool.and_eq_true] at h
              refine absurd ⟨?_, ?_⟩ he
              · have := h.1; rw [eq_dec] at this; exact bytes_of (of_decide_eq_true this)
              · have := h.2; rw [eq_dec] at this; exact bytes_of (of_decide_eq_true this)
          simp only [hbb, Bool.not_false] at hne
          clear hbb
          have HF : Hid (R = false) := by
            unfold Hid
            rw [HR.out]
            refine decide_eq_false fun e => he ?_
            have h1 := HT1.out
            rw [e, HT2.out, ← e, HK.out] at h1
            have h2 := List.append_cancel_left h1
            simp at h2
            exact ⟨h2.1.symm, h2.2.symm⟩
          go_wp2_with fail
          go_quiet (fail)
          go_wp2_with fail
          go_ret
          exact ⟨by rw [HF.out]; rfl, HX.out.drewN _⟩
      · obtain rfl : k = n := by omega
        have HT : Hid (R = true) := by
          have := HK.out
          rw [HN.out, List.take_length, ← HN.out, HM.out, List.take_length] at this
          unfold Hid
          rw [HR.out, this]
          simp
        go_wp2_with fail
        go_ret
        exact ⟨by rw [HT.out]; rfl, HX.out⟩
  · have HF : Hid (R = false) := by
      unfold Hid
      rw [HR.out]
      exact decide_eq_false fun e => hnm (by rw [HN.out, HM.out, e])
    have hd : ((n : Int) == (m : Int)) = false := by simp; omega
    have hd2 : (!((n : Int) == (m : Int))) = true := by rw [hd]; rfl
    go_enter Tryz.func21, Tryz.ntmps21
    go_wp2_with fail
    go_ret
    exact ⟨by rw [HF.out]; rfl, Ext.refl _⟩
end Go.Proofs.YtclhbcicbnoohaaGreatDoor

/- Changes as they lie in memory; slices.Equal of changes. -/
namespace Go.Proofs.YtclhbcicbnoohaaGreatDoor
open Go.RowKit

def chR : Rep T.Ch := prodR strR (prodR (intR .i64) (prodR strR strR))
theorem chR_is {w : World} {B : Nat → Prop} {f : T.Ch} {us : List Value} (h : chR.is w B f us) : us = chV f := by
  obtain ⟨x, y, rfl, ⟨rfl, _⟩, x1, y1, rfl, ⟨rfl, _⟩, x2, y2, rfl, ⟨rfl, _⟩, ⟨rfl, _⟩⟩ := h
  rfl
/-- Change k's cells. -/
theorem ch_get {w : World} {B : Nat → Prop} {A : Option Addr} {c : Nat} {t : List T.Ch} (h : SliceAt chR w B A c t) {k : Nat} (hk : k < t.length) :
    ∃ b off, A = some ⟨b, off, none⟩ ∧ B b ∧ w.cell? ⟨b, off + k * 4, none⟩ = some (.string t[k].1) ∧ w.cell? ⟨b, off + (k * 4 + 1), none⟩ = some (.int .i64 t[k].2.1) ∧ w.cell? ⟨b, off + (k * 4 + 2), none⟩ = some (.string t[k].2.2.1) ∧ w.cell? ⟨b, off + (k * 4 + 3), none⟩ = some (.string t[k].2.2.2) := by
  obtain ⟨_, _, h3⟩ := h
  obtain ⟨b, off, hA, hb, hr⟩ := h3 (by intro e; rw [e] at hk; exact absurd hk (Nat.not_lt_zero _))
  obtain ⟨us, hu, hc⟩ := hr k hk
  have := chR_is hu
  subst this
  exact ⟨b, off, hA, hb, hc 0 _ rfl, hc 1 _ rfl, hc 2 _ rfl, hc 3 _ rfl⟩
/-- Changes that a machine can hold. -/
def SzC (l : List T.Ch) : Prop := ∀ f ∈ l, f.1.size ≤ 9223372036854775807 ∧ (Lit.int .i64 f.2.1).wf = true ∧ f.2.2.1.size ≤ 9223372036854775807 ∧ f.2.2.2.size ≤ 9223372036854775807
theorem own_ch_slice {w : World} {base : Nat} {v : Value} {l : List T.Ch} (h : OwnCh w base v l) (hz : SzC l) : ∃ A c, v = .slice A l.length c ∧ SliceAt chR w (Old w) A c l := by
  rcases Nat.eq_zero_or_pos l.length with h0 | h0
  · have hl : l = [] := List.eq_nil_of_length_eq_zero h0
    subst hl
    obtain ⟨A, c, rfl, h1, h2⟩ := own_ch_form h
    exact ⟨A, c, rfl, SliceAt.nil _ _ _ _ _ h2⟩
  · obtain ⟨g, off, cap, rfl, hb, hlt, hnc, hcap, hc⟩ := OwnAt.cells h h0
    refine ⟨_, cap, rfl, hnc, hcap, fun _ => ⟨g, off, rfl, hlt, fun i hi => ⟨chV l[i], ?_, fun j u hj => ?_⟩⟩⟩
    · obtain ⟨z1, z2, z3, z4⟩ := hz _ (List.getElem_mem hi)
      exact ⟨[.string l[i].1], _, rfl, ⟨rfl, z1⟩, [.int .i64 l[i].2.1], _, rfl, ⟨rfl, z2⟩, [.string l[i].2.2.1], [.string l[i].2.2.2], rfl, ⟨rfl, z3⟩, ⟨rfl, z4⟩⟩
    · have hg := ccells_get l i hi
      match j with
      | 0 => simp [chV] at hj; subst hj; exact hc _ _ hg.1
      | 1 => simp [chV] at hj; subst hj; exact hc _ _ hg.2.1
      | 2 => simp [chV] at hj; subst hj; exact hc _ _ hg.2.2.1
      | 3 => simp [chV] at hj; subst hj; exact hc _ _ hg.2.2.2
      | j + 4 => simp [chV] at hj
theorem neq_ch (w : World) (a b : ByteArray) (x y : Int) (a1 a2 b1 b2 : ByteArray) : (Go.binOp .neq 59 (.agg #[.string a, .int .i64 x, .string a1, .string a2]) (.agg #[.string b, .int .i64 y, .string b1, .string b2])).run Tryz.prog w = .ok (.bool (!((a.toList == b.toList) && ((x == y) && ((a1.toList == b1.toList) && (a2.toList == b2.toList)))))) w := by
  have h1 : Tryz.prog.underlying 59 = some (.struct (Tryz.prog.fieldsOf 59)) := by kernel_rfl
  have h2 : Tryz.prog.stoodInHeld 59 = false := by kernel_rfl
  have h9 : Tryz.prog.underlying 9 = some .string := by kernel_rfl
  rw [run_neq_struct, run_equalIn_agg _ _ _ _ _ h1 h2]
  have hT : Tryz.prog.underlying 3 = some (.int .i64) := by kernel_rfl
  have hm : (Tryz.prog.fieldsOf 59).toList.map (fun f => (decide (f.name ≠ "_"), f.type, f.offset)) = [(true, 9, 0), (true, 3, 1), (true, 9, 2), (true, 9, 3)] := by kernel_rfl
  generalize (Tryz.prog.fieldsOf 59).toList = l at hm
  obtain ⟨f, l1, rfl, ef, hm1⟩ := List.map_eq_cons_iff.1 hm
  obtain ⟨g, l2, rfl, eg, hm2⟩ := List.map_eq_cons_iff.1 hm1
  obtain ⟨h, l3, rfl, eh, hm3⟩ := List.map_eq_cons_iff.1 hm2
  obtain ⟨i, l4, rfl, ei, hm4⟩ := List.map_eq_cons_iff.1 hm3
  have hl2 := List.map_eq_nil_iff.1 hm4
  subst hl2
  clear hm hm1 hm2 hm3 hm4
  simp only [Prod.mk.injEq] at ef eg eh ei
  obtain ⟨p1, p2, p3⟩ := ef
  obtain ⟨q1, q2, q3⟩ := eg
  obtain ⟨r1, r2, r3⟩ := eh
  obtain ⟨s1, s2, s3⟩ := ei
  have p1' := of_decide_eq_true p1
  have q1' := of_decide_eq_true q1
  have r1' := of_decide_eq_true r1
  have s1' := of_decide_eq_true s1
  have hp : ∀ (x : ByteArray) (n : Int) (y z : ByteArray), (part 9 #[.string x, .int .i64 n, .string y, .string z] 0).run Tryz.prog w = .ok (.string x) w ∧ (part 3 #[.string x, .int .i64 n, .string y, .string z] 1).run Tryz.prog w = .ok (.int .i64 n) w ∧ (part 9 #[.string x, .int .i64 n, .string y, .string z] 2).run Tryz.prog w = .ok (.string y) w ∧ (part 9 #[.string x, .int .i64 n, .string y, .string z] 3).run Tryz.prog w = .ok (.string z) w := fun x n y z => ⟨by simp [part], by simp [part], by simp [part], by simp [part]⟩
  have hs := fun (d : Nat) (x y : ByteArray) => run_equalIn_string (P := Tryz.prog) w d 9 x y h9
  have hi := fun (d : Nat) (x y : Int) => run_equalIn_int (P := Tryz.prog) w d 3 .i64 .i64 x y hT
  cases hx : (a.toList == b.toList) <;> cases hy : (x == y) <;> cases hz : (a1.toList == b1.toList) <;> cases hv : (a2.toList == b2.toList) <;> simp [Op.eqFields, p1', p2, p3, q1', q2, q3, r1', r2, r3, s1', s2, s3, hp, hs, hi, hx, hy, hz, hv]
end Go.Proofs.YtclhbcicbnoohaaGreatDoor

/- Plain facts on differences: dropping what is removed and putting what is added or changed leads from one tree to the other. No program in sight. -/
namespace Go.Proofs.YtclhbcicbnoohaaGreatDoor.T

theorem srt_inj {t : Tr} (h : Srt t) {f g : File} (hf : f ∈ t) (hg : g ∈ t) (he : pth f = pth g) : f = g := by
  obtain ⟨i, hi, rfl⟩ := List.getElem_of_mem hf
  obtain ⟨j, hj, rfl⟩ := List.getElem_of_mem hg
  rcases Nat.lt_trichotomy i j with h1 | h1 | h1
  · exact absurd (srt_lt h hi hj h1) (by rw [he]; exact lt_irrefl _)
  · subst h1; rfl
  · exact absurd (srt_lt h hj hi h1) (by rw [he]; exact lt_irrefl _)
theorem mem_find {t : Tr} (h : Srt t) {p : Bs} {f : File} : findT t p = some f ↔ f ∈ t ∧ pth f = p := by
  constructor
  · intro h1
    unfold findT at h1
    exact ⟨List.mem_of_find?_eq_some h1, by simpa using List.find?_some h1⟩
  · rintro ⟨h1, h2⟩
    cases hf : findT t p with
    | none =>
      have := List.find?_eq_none.1 hf f h1
      simp [h2] at this
    | some g =>
      unfold findT at hf
      have h3 := List.mem_of_find?_eq_some hf
      have h4 : pth g = p := by simpa using List.find?_some hf
      rw [srt_inj h h3 h1 (by rw [h4, h2])]
theorem find_no {t : Tr} {p : Bs} : findT t p = none ↔ ∀ f ∈ t, pth f ≠ p := by
  unfold findT
  rw [List.find?_eq_none]
  simp
theorem sorted_ext : ∀ {l m : Tr}, Srt l → Srt m → (∀ g, g ∈ l ↔ g ∈ m) → l = m
  | [], [], _, _, _ => rfl
  | [], y :: m, _, _, h => absurd ((h y).2 List.mem_cons_self) (by simp)
  | x :: l, [], _, _, h => absurd ((h x).1 List.mem_cons_self) (by simp)
  | x :: l, y :: m, hl, hm, h => by
    obtain ⟨l1, l2⟩ := List.pairwise_cons.1 hl
    obtain ⟨m1, m2⟩ := List.pairwise_cons.1 hm
    have e : x = y := by
      rcases List.mem_cons.1 ((h x).1 List.mem_cons_self) with h1 | h1
      · exact h1
      · rcases List.mem_cons.1 ((h y).2 List.mem_cons_self) with h2 | h2
        · exact h2.symm
        · exact absurd (lt_trans (l1 y h2) (m1 x h1)) (lt_irrefl _)
    subst e
    rw [sorted_ext l2 m2 fun g => ?_]
    constructor
    · intro hg
      rcases List.mem_cons.1 ((h g).1 (List.mem_cons_of_mem _ hg)) with h1 | h1
      · subst h1; exact absurd (l1 g hg) (lt_irrefl _)
      · exact h1
    · intro hg
      rcases List.mem_cons.1 ((h g).2 (List.mem_cons_of_mem _ hg)) with h1 | h1
      · subst h1; exact absurd (m1 g hg) (lt_irrefl _)
      · exact h1
theorem mem_ins {t : Tr} {f g : File} : g ∈ insT t f ↔ g = f ∨ (g ∈ t ∧ pth g ≠ pth f) := by
  unfold insT
  rw [List.mem_append, List.mem_cons, List.mem_filter, List.mem_filter, decide_eq_true_eq, decide_eq_true_eq]
  constructor
  · rintro (⟨h1, h2⟩ | h1 | ⟨h1, h2⟩)
    · exact .inr ⟨h1, fun e => lt_irrefl _ (e ▸ h2)⟩
    · exact .inl h1
    · exact .inr ⟨h1, fun e => lt_irrefl _ (e ▸ h2)⟩
  · rintro (h1 | ⟨h1, h2⟩)
    · exact .inr (.inl h1)
    · rcases lt_ways (pth g) (pth f) with h3 | h3 | h3
      · exact .inl ⟨h1, h3⟩
      · exact absurd h3 h2
      · exact .inr (.inr ⟨h1, h3⟩)
theorem srt_ins {t : Tr} (h : Srt t) (f : File) : Srt (insT t f) := by
  unfold insT
  refine List.pairwise_append.2 ⟨h.filter _, List.pairwise_cons.2 ⟨fun g hg => of_decide_eq_true (List.mem_filter.1 hg).2, h.filter _⟩, fun g hg k hk => ?_⟩
  have h5 : pth g < pth f := of_decide_eq_true (List.mem_filter.1 hg).2
  rcases List.mem_cons.1 hk with h6 | h6
  · subst h6; exact h5
  · exact lt_trans h5 (of_decide_eq_true (List.mem_filter.1 h6).2)
theorem mem_drop' {t : Tr} {p : Bs} {g : File} : g ∈ dropT t p ↔ g ∈ t ∧ pth g ≠ p := by
  unfold dropT
  rw [List.mem_filter, decide_eq_true_eq]
/-- The paths of t are paths of b. -/
def Within (b t : Tr) : Prop := ∀ g ∈ t, ∃ y ∈ b, pth g = pth y
theorem within_length : ∀ {b t : Tr}, Srt b → Srt t → Within b t → t.length ≤ b.length
  | _, [], _, _, _ => Nat.zero_le _
  | [], x :: t, _, _, h => by
    obtain ⟨y, hy, _⟩ := h x List.mem_cons_self
    cases hy
  | y :: b, x :: t, hb, ht, h => by
    obtain ⟨b1, b2⟩ := List.pairwise_cons.1 hb
    obtain ⟨t1, t2⟩ := List.pairwise_cons.1 ht
    have : t.length ≤ b.length := by
      refine within_length b2 t2 fun g hg => ?_
      obtain ⟨z, hz, e⟩ := h g (List.mem_cons_of_mem _ hg)
      rcases List.mem_cons.1 hz with h1 | h1
      · subst h1
        obtain ⟨z', hz', e'⟩ := h x List.mem_cons_self
        have hx : pth x < pth g := t1 g hg
        rw [e, e'] at hx
        rcases List.mem_cons.1 hz' with h2 | h2
        · subst h2; exact absurd hx (lt_irrefl _)
        · exact absurd (lt_trans hx (b1 z' h2)) (lt_irrefl _)
      · exact ⟨z, h1, e⟩
    simp only [List.length_cons]
    omega
section
variable (okP : ByteArray → Bool)
/-- A tree on the way to b. -/
structure Way (b t : Tr) : Prop where
  srt : Srt t
  path : ∀ f ∈ t, okP f.1 = true
  size : ∀ f ∈ t, f.2.size ≤ 65536
  within : Within b t
theorem Way.ok {b t : Tr} (hb : Ok okP b) (h : Way okP b t) : Ok okP t := by
  refine ⟨Nat.le_trans (within_length hb.sorted h.srt h.within) hb.few, h.path, h.size, h.srt, fun f hf g hg => ?_⟩
  obtain ⟨y, hy, e⟩ := h.within f hf
  obtain ⟨z, hz, e'⟩ := h.within g hg
  rw [e, e']
  exact hb.apart y hy z hz
theorem Way.ins {b t : Tr} (hb : Ok okP b) (h : Way okP b t) {y : File} (hy : y ∈ b) : Way okP b (insT t y) ∧ putE okP t y = (insT t y, 0) := by
  have hw : Way okP b (insT t y) := by
    refine ⟨srt_ins h.srt y, fun f hf => ?_, fun f hf => ?_, fun f hf => ?_⟩
    all_goals rcases mem_ins.1 hf with h1 | h1
    · subst h1; exact hb.path f hy
    · exact h.path f h1.1
    · subst h1; exact hb.size f hy
    · exact h.size f h1.1
    · exact ⟨y, hy, by rw [h1]⟩
    · exact h.within f h1.1
  refine ⟨hw, putE_is okP (h.ok okP hb) (hb.path y hy) (hb.size y hy) ?_ (hw.ok okP hb).few⟩
  refine List.any_eq_false.2 fun g hg => ?_
  obtain ⟨z, hz, e⟩ := h.within g hg
  rw [e, hb.apart y hy z hz, hb.apart z hz y hy]
  simp
end

/-! ### The changes -/
section
variable (sid : Bs → ByteArray)
def gone (a b : Tr) : List Bs := (a.filter fun x => (findT b (pth x)).isNone).map pth
def came (a b : Tr) : Tr := b.filter fun y => decide (findT a (pth y) ≠ some y)
def isRem (c : Ch) : Bool := decide (c.2.1 = 2)
def cpth (c : Ch) : Bs := c.1.data.toList
theorem find_lt {t : Tr} {p : Bs} (h : ∀ f ∈ t, p < pth f) : findT t p = none := find_no.2 fun f hf e => lt_irrefl p (by have := h f hf; rwa [e] at this)
theorem find_skip {x : File} {t : Tr} {p : Bs} (h : pth x ≠ p) : findT (x :: t) p = findT t p := by
  unfold findT
  rw [List.find?_cons_of_neg (by simpa using h)]
theorem filter_skip_a {x : File} {a b : Tr} (h : ∀ y ∈ b, pth x ≠ pth y) : (b.filter fun y => decide (findT (x :: a) (pth y) ≠ some y)) = b.filter fun y => decide (findT a (pth y) ≠ some y) :=
  List.filter_congr fun y hy => by rw [find_skip (h y hy)]
theorem filter_skip_b {y : File} {a b : Tr} (h : ∀ x ∈ a, pth y ≠ pth x) : (a.filter fun x => (findT (y :: b) (pth x)).isNone) = a.filter fun x => (findT b (pth x)).isNone :=
  List.filter_congr fun x hx => by rw [find_skip (h x hx)]
theorem diff_parts : ∀ {a b : Tr}, Srt a → Srt b → ((diffT sid a b).filter isRem).map cpth = gone a b ∧ ((diffT sid a b).filter fun c => !isRem c).map cpth = (came a b).map pth
  | [], [], _, _ => by unfold diffT; exact ⟨rfl, rfl⟩
  | x :: a, [], ha, hb => by
    obtain ⟨_, a2⟩ := List.pairwise_cons.1 ha
    obtain ⟨h1, h2⟩ := diff_parts a2 hb
    unfold diffT
    refine ⟨?_, ?_⟩
    · rw [List.filter_cons, if_pos (show isRem (remC sid x) = true from rfl), List.map_cons, h1]
      unfold gone
      rw [List.filter_cons, if_pos (show (findT [] (pth x)).isNone = true from rfl)]
      rfl
    · rw [List.filter_cons, if_neg (by simp [isRem, remC]), h2]
      rfl
  | [], y :: b, ha, hb => by
    obtain ⟨_, b2⟩ := List.pairwise_cons.1 hb
    obtain ⟨h1, h2⟩ := diff_parts ha b2
    unfold diffT
    refine ⟨?_, ?_⟩
    · rw [List.filter_cons, if_neg (by simp [isRem, addC]), h1]
      rfl
    · rw [List.filter_cons, if_pos (by simp [isRem, addC]), List.map_cons, h2]
      unfold came
      rw [List.filter_cons, if_pos (by simp [findT])]
      rfl
  | x :: a, y :: b, ha, hb => by
    obtain ⟨a1, a2⟩ := List.pairwise_cons.1 ha
    obtain ⟨b1, b2⟩ := List.pairwise_cons.1 hb
    unfold diffT
    by_cases hxy : pth x < pth y
    · rw [if_pos hxy]
      obtain ⟨h1, h2⟩ := diff_parts a2 hb
      have hxb : ∀ z ∈ y :: b, pth x < pth z := fun z hz => by
        rcases List.mem_cons.1 hz with h | h
        · rw [h]; exact hxy
        · exact lt_trans hxy (b1 z h)
      refine ⟨?_, ?_⟩
      · rw [List.filter_cons, if_pos (show isRem (remC sid x) = true from rfl), List.map_cons, h1]
        unfold gone
        rw [List.filter_cons, if_pos (by rw [find_lt hxb]; rfl)]
        rfl
      · rw [List.filter_cons, if_neg (by simp [isRem, remC]), h2]
        unfold came
        rw [filter_skip_a fun z hz e => lt_irrefl _ (e ▸ hxb z hz)]
    · rw [if_neg hxy]
      by_cases hyx : pth y < pth x
      · rw [if_pos hyx]
        obtain ⟨h1, h2⟩ := diff_parts ha b2
        have hya : ∀ z ∈ x :: a, pth y < pth z := fun z hz => by
          rcases List.mem_cons.1 hz with h | h
          · rw [h]; exact hyx
          · exact lt_trans hyx (a1 z h)
        refine ⟨?_, ?_⟩
        · rw [List.filter_cons, if_neg (by simp [isRem, addC]), h1]
          unfold gone
          rw [filter_skip_b fun z hz e => lt_irrefl _ (e ▸ hya z hz)]
        · rw [List.filter_cons, if_pos (by simp [isRem, addC]), List.map_cons, h2]
          unfold came
          rw [List.filter_cons, if_pos (by rw [find_lt hya]; simp)]
          rfl
      · rw [if_neg hyx]
        have he : pth x = pth y := by
          rcases lt_ways (pth x) (pth y) with h | h | h
          · exact absurd h hxy
          · exact h
          · exact absurd h hyx
        obtain ⟨h1, h2⟩ := diff_parts a2 b2
        have hya : ∀ z ∈ a, pth y ≠ pth z := fun z hz e => lt_irrefl _ (by have := a1 z hz; rwa [he, e] at this)
        have hxb : ∀ z ∈ b, pth x ≠ pth z := fun z hz e => lt_irrefl _ (by have := b1 z hz; rwa [← he, e] at this)
        have hg : gone (x :: a) (y :: b) = gone a b := by
          unfold gone
          rw [List.filter_cons, if_neg (by unfold findT; rw [List.find?_cons_of_pos (by simp [he])]; simp), filter_skip_b hya]
        have hfx : findT (x :: a) (pth y) = some x := by unfold findT; rw [List.find?_cons_of_pos (by simp [he])]
        rw [List.filter_append, List.filter_append, List.map_append, List.map_append, h1, h2, hg]
        unfold came
        rw [List.filter_cons, filter_skip_a hxb, hfx]
        by_cases hd : dat x = dat y
        · have hxe : x = y := file_eq he hd
          rw [if_pos hd, if_neg (by simp [hxe])]
          exact ⟨rfl, rfl⟩
        · have hxe : x ≠ y := fun e => hd (by rw [e])
          rw [if_neg hd, if_pos (by simp [hxe])]
          refine ⟨by simp [isRem, chgC], ?_⟩
          rw [List.filter_cons, if_pos (by simp [isRem, chgC])]
          show cpth (chgC sid x y) :: _ = _
          rw [List.map_cons, ← he]
          rfl
termination_by a b => a.length + b.length
theorem diff_self : ∀ (a : Tr), diffT sid a a = []
  | [] => by unfold diffT; rfl
  | x :: a => by
    unfold diffT
    rw [if_neg (lt_irrefl _), if_neg (lt_irrefl _), if_pos rfl, diff_self a]
    rfl
end
/-- Behind the drops. -/
def left (a : Tr) (ps : List Bs) : Tr := a.filter fun x => decide (pth x ∉ ps)
theorem left_nil (a : Tr) : left a [] = a := filter_all fun _ _ => by simp
theorem left_snoc (a : Tr) (ps : List Bs) (p : Bs) : left a (ps ++ [p]) = dropT (left a ps) p := by
  unfold left dropT
  rw [List.filter_filter]
  refine List.filter_congr fun x _ => ?_
  by_cases h1 : pth x ∈ ps <;> by_cases h2 : pth x = p <;> simp [h1, h2]
theorem left_find {a : Tr} {ps : List Bs} {p : Bs} (h1 : p ∉ ps) (h2 : ∃ x ∈ a, pth x = p) : findT (left a ps) p ≠ none := by
  obtain ⟨x, hx, e⟩ := h2
  intro h
  exact find_no.1 h x (List.mem_filter.2 ⟨hx, by rw [e]; exact decide_eq_true h1⟩) e
theorem gone_nodup {a b : Tr} (h : Srt a) : (gone a b).Pairwise (· ≠ ·) := by
  unfold gone
  rw [List.pairwise_map]
  exact (h.filter _).imp fun {x y} (h1 : pth x < pth y) (e : pth x = pth y) => lt_irrefl (pth y) (by rwa [e] at h1)
theorem gone_mem {a b : Tr} {p : Bs} (h : p ∈ gone a b) : ∃ x ∈ a, pth x = p := by
  obtain ⟨x, hx, e⟩ := List.mem_map.1 h
  exact ⟨x, (List.mem_filter.1 hx).1, e⟩
/-- Behind all drops, the tree is on its way. -/
theorem left_way {okP : ByteArray → Bool} {a b : Tr} (ha : Ok okP a) : Way okP b (left a (gone a b)) := by
  refine ⟨ha.sorted.filter _, fun f hf => ha.path f (List.mem_filter.1 hf).1, fun f hf => ha.size f (List.mem_filter.1 hf).1, fun f hf => ?_⟩
  obtain ⟨h1, h2⟩ := List.mem_filter.1 hf
  have h2 := of_decide_eq_true h2
  cases hb : findT b (pth f) with
  | none => exact absurd (List.mem_map.2 ⟨f, List.mem_filter.2 ⟨h1, by rw [hb]; rfl⟩, rfl⟩) h2
  | some y =>
    unfold findT at hb
    exact ⟨y, List.mem_of_find?_eq_some hb, by have := List.find?_some hb; simp at this; exact this.symm⟩
/-- Behind the puts. -/
def laid (t : Tr) (ys : Tr) : Tr := ys.foldl insT t
theorem laid_snoc (t ys : Tr) (y : File) : laid t (ys ++ [y]) = insT (laid t ys) y := by unfold laid; rw [List.foldl_append]; rfl
theorem laid_mem {t : Tr} : ∀ {ys : Tr}, Srt ys → ∀ {g : File}, g ∈ laid t ys ↔ g ∈ ys ∨ (g ∈ t ∧ ∀ y ∈ ys, pth g ≠ pth y) := by
  intro ys
  induction ys generalizing t with
  | nil => intro _ g; simp [laid]
  | cons y ys ih =>
    intro hs g
    obtain ⟨s1, s2⟩ := List.pairwise_cons.1 hs
    have := ih (t := insT t y) s2 (g := g)
    unfold laid at this ⊢
    rw [List.foldl_cons, this, mem_ins]
    constructor
    · rintro (h | ⟨h | ⟨h1, h2⟩, h3⟩)
      · exact .inl (List.mem_cons_of_mem _ h)
      · exact .inl (by rw [h]; exact List.mem_cons_self)
      · refine .inr ⟨h1, fun z hz => ?_⟩
        rcases List.mem_cons.1 hz with h4 | h4
        · rw [h4]; exact h2
        · exact h3 z h4
    · rintro (h | ⟨h1, h2⟩)
      · rcases List.mem_cons.1 h with h4 | h4
        · exact .inr ⟨.inl h4, fun z hz e => lt_irrefl _ (by have := s1 z hz; rwa [← e, h4] at this)⟩
        · exact .inl h4
      · exact .inr ⟨.inr ⟨h1, h2 y List.mem_cons_self⟩, fun z hz => h2 z (List.mem_cons_of_mem _ hz)⟩
theorem srt_laid {t : Tr} (h : Srt t) : ∀ ys : Tr, Srt (laid t ys) := by
  intro ys
  induction ys generalizing t with
  | nil => exact h
  | cons y ys ih => exact ih (srt_ins h y)
theorem laid_end {a b : Tr} (ha : Srt a) (hb : Srt b) : laid (left a (gone a b)) (came a b) = b := by
  have hs : Srt (came a b) := hb.filter _
  refine sorted_ext (srt_laid (ha.filter _) _) hb fun g => ?_
  rw [laid_mem hs]
  constructor
  · rintro (h | ⟨h1, h2⟩)
    · exact (List.mem_filter.1 h).1
    · obtain ⟨h3, h4⟩ := List.mem_filter.1 h1
      have h4 := of_decide_eq_true h4
      cases hf : findT b (pth g) with
      | none => exact absurd (List.mem_map.2 ⟨g, List.mem_filter.2 ⟨h3, by rw [hf]; rfl⟩, rfl⟩) h4
      | some y =>
        obtain ⟨h5, h6⟩ := (mem_find hb).1 hf
        by_cases hy : findT a (pth y) = some y
        · obtain ⟨h7, _⟩ := (mem_find ha).1 hy
          rw [srt_inj ha h3 h7 h6.symm]
          exact h5
        · exact absurd h6.symm (h2 y (List.mem_filter.2 ⟨h5, decide_eq_true hy⟩))
  · intro h
    by_cases hy : findT a (pth g) = some g
    · obtain ⟨h7, _⟩ := (mem_find ha).1 hy
      refine .inr ⟨List.mem_filter.2 ⟨h7, decide_eq_true fun hm => ?_⟩, fun y hym e => ?_⟩
      · obtain ⟨x, hx, e⟩ := List.mem_map.1 hm
        obtain ⟨h8, h9⟩ := List.mem_filter.1 hx
        rw [e, (mem_find hb).2 ⟨h, rfl⟩] at h9
        cases h9
      · obtain ⟨h8, h9⟩ := List.mem_filter.1 hym
        have := srt_inj hb h h8 e
        subst this
        exact (of_decide_eq_true h9) hy
    · exact .inl (List.mem_filter.2 ⟨h, decide_eq_true hy⟩)

end Go.Proofs.YtclhbcicbnoohaaGreatDoor.T

/- What the functions give: nothing and an error, or a right tree; a line that is replaced; changes. No walk. -/
namespace Go.Proofs.YtclhbcicbnoohaaGreatDoor
open Go.RowKit

theorem ok_szF {t : T.Tr} (h : T.Ok okB t) : SzF t := fun f hf => ⟨by have := okB_size (h.path f hf); omega, by have := h.size f hf; omega⟩
theorem nil_szF : SzF [] := fun _ h => by cases h
/-- A tree comes back, and an error; as the callers use it. -/
theorem retTr_any {w w' : World} {r : T.Tr × Int} {e : Ending} (h : RetTr w r e w') (hz : SzF r.1) : ∃ A n c, e = .returned (.tuple #[.slice A n c, .int .i64 r.2]) ∧ n = r.1.length ∧ SliceAt fileR w' (Old w') A c r.1 ∧ Ext w w' := by
  obtain ⟨v, rfl, ho, hx⟩ := h
  obtain ⟨A, c, rfl, hs⟩ := own_files_slice ho hz
  exact ⟨A, _, c, rfl, rfl, hs, hx⟩
theorem retT_any {w w' : World} {r : T.Tr} {e : Ending} (h : RetT w r e w') (hz : SzF r) : ∃ A n c, e = .returned (.slice A n c) ∧ n = r.length ∧ SliceAt fileR w' (Old w') A c r ∧ Ext w w' := by
  obtain ⟨v, rfl, ho, hx⟩ := h
  obtain ⟨A, c, rfl, hs⟩ := own_files_slice ho hz
  exact ⟨A, _, c, rfl, rfl, hs, hx⟩
theorem retCh_any {w w' : World} {r : List T.Ch × Int} {e : Ending} (h : RetCh w r e w') (hz : SzC r.1) : ∃ A n c, e = .returned (.tuple #[.slice A n c, .int .i64 r.2]) ∧ n = r.1.length ∧ SliceAt chR w' (Old w') A c r.1 ∧ Ext w w' := by
  obtain ⟨v, rfl, ho, hx⟩ := h
  obtain ⟨A, c, rfl, hs⟩ := own_ch_slice ho hz
  exact ⟨A, _, c, rfl, rfl, hs, hx⟩
theorem retL_any {w w' : World} {r : List ByteArray × Int} {e : Ending} (h : RetL w r e w') (hz : ∀ s ∈ r.1, s.size ≤ 9223372036854775807) : ∃ A n c, e = .returned (.tuple #[.slice A n c, .int .i64 r.2]) ∧ n = r.1.length ∧ SliceAt strR w' (Old w') A c r.1 ∧ Ext w w' := by
  obtain ⟨v, rfl, ho, hx⟩ := h
  obtain ⟨A, c, rfl, hs⟩ := own_strs_slice ho hz
  exact ⟨A, _, c, rfl, rfl, hs, hx⟩

/-- Nothing and an error, or a right tree and none. -/
theorem put_cases (t : T.Tr) (f : T.File) : (∃ e : Int, T.putE okB t f = ([], e) ∧ e ≠ 0) ∨ (T.putE okB t f = (T.insT t f, 0) ∧ T.Ok okB t ∧ okB f.1 = true ∧ f.2.size ≤ 65536 ∧ T.Ok okB (T.insT t f)) := by
  by_cases h : (T.putE okB t f).2 = 0
  · obtain ⟨h1, h2, h3, h4, h5, h6⟩ := T.putE_ok okB h
    exact .inr ⟨Prod.ext h6 h, h1, h2, h3, T.ok_ins okB h1 h2 h3 h4 h5⟩
  · refine .inl ⟨(T.putE okB t f).2, ?_, h⟩
    refine Prod.ext ?_ rfl
    revert h
    unfold T.putE
    repeat' split
    all_goals first | (intro _; rfl) | (intro h; exact absurd rfl h)
theorem put_szF (t : T.Tr) (f : T.File) : SzF (T.putE okB t f).1 := by
  rcases put_cases t f with ⟨e, h, _⟩ | ⟨h, _, _, _, h1⟩
  · rw [h]; exact nil_szF
  · rw [h]; exact ok_szF h1
theorem drop_cases (t : T.Tr) (p : T.Bs) : (∃ e : Int, T.dropE okB t p = ([], e) ∧ e ≠ 0) ∨ (T.dropE okB t p = (T.dropT t p, 0) ∧ T.Ok okB t ∧ T.findT t p ≠ none) := by
  unfold T.dropE
  by_cases h : T.checkE okB t = 0
  · rw [if_neg (by rw [h]; simp)]
    by_cases h1 : T.findT t p = none
    · rw [if_pos h1]; exact .inl ⟨7, rfl, by decide⟩
    · rw [if_neg h1]; exact .inr ⟨rfl, checkE_ok h, h1⟩
  · rw [if_pos h]; exact .inl ⟨1, rfl, by decide⟩
theorem drop_szF (t : T.Tr) (p : T.Bs) : SzF (T.dropE okB t p).1 := by
  rcases drop_cases t p with ⟨e, h, _⟩ | ⟨h, h1, _⟩
  · rw [h]; exact nil_szF
  · rw [h]; exact ok_szF (T.ok_drop okB h1 p)
theorem mount_cases (t : T.Tr) (d : ByteArray) (h : T.Ok okB t) : T.mountE okB t d = ([], 2) ∨ (T.mountE okB t d = (T.mountT t d.data.toList, 0) ∧ okB d = true ∧ T.Ok okB (T.mountT t d.data.toList)) := by
  unfold T.mountE
  rw [if_neg (by rw [(T.ok_iff okB).2 h]; simp)]
  by_cases h1 : okB d = false
  · rw [if_pos h1]; exact .inl rfl
  · rw [if_neg h1]
    by_cases h2 : (t.all fun f => okB (T.inD d.data.toList f).1) = true
    · rw [if_pos h2]
      exact .inr ⟨rfl, by simpa using h1, T.ok_mount h fun f hf => List.all_eq_true.1 h2 f hf⟩
    · rw [if_neg h2]; exact .inl rfl
theorem mount_szF (t : T.Tr) (d : ByteArray) : SzF (T.mountE okB t d).1 := by
  by_cases h : T.checkE okB t = 0
  · rcases mount_cases t d (checkE_ok h) with h1 | ⟨h1, _, h2⟩
    · rw [h1]; exact nil_szF
    · rw [h1]; exact ok_szF h2
  · unfold T.mountE; rw [if_pos h]; exact nil_szF
theorem under_szF (t : T.Tr) (d : ByteArray) (hz : SzF t) : SzF (T.underE okB t d) := by
  unfold T.underE
  split
  · exact nil_szF
  · split
    · exact hz
    · split
      · unfold T.underT
        split
        · exact hz
        · intro f hf
          obtain ⟨g, hg, he⟩ := List.mem_filterMap.1 hf
          unfold T.cutF at he
          split at he
          · have := Option.some.inj he
            subst this
            obtain ⟨h1, h2⟩ := hz g hg
            refine ⟨?_, h2⟩
            have e : g.1.size = g.1.data.toList.length := by rw [Array.length_toList]; rfl
            show (T.mkF _).size ≤ _
            have e2 : ∀ l : T.Bs, (T.mkF l).size = l.length := fun l => by simp [T.mkF, ByteArray.size]
            rw [e2, List.length_drop]
            unfold T.pth
            omega
          · cases he
      · exact nil_szF
theorem lines_szs (s : ByteArray) : ∀ x ∈ (linesE s).1, x.size ≤ s.size := by
  unfold linesE
  split
  · intro x hx; cases hx
  · exact parts_sizes 10 s
theorem lines_len (s : ByteArray) : (linesE s).1.length ≤ 1024 := by
  unfold linesE
  split
  · exact Nat.zero_le _
  · rename_i h; show (partsB 10 s).length ≤ 1024; omega
theorem lines_cases (s : ByteArray) : linesE s = ([], 10) ∨ (linesE s = (partsB 10 s, 0) ∧ s.size ≤ 65536 ∧ (partsB 10 s).length ≤ 1024) := by
  unfold linesE
  split
  · exact .inl rfl
  · rename_i h; exact .inr ⟨rfl, by omega, by omega⟩
theorem join_form (l : List ByteArray) : ∃ s e, joinV l = .tuple #[.string s, .int .i64 e] := ⟨_, _, rfl⟩
theorem clean_of {x : ByteArray} (h : hasNl x = false) : ∀ b ∈ x.data.toList, b ≠ 10 := by
  unfold hasNl at h
  intro b hb e
  have := List.any_eq_false.1 h b hb
  simp [e] at this
theorem clean_iff {x : ByteArray} (h : ∀ b ∈ x.data.toList, b ≠ 10) : hasNl x = false := by
  unfold hasNl
  rw [List.any_eq_false]
  intro b hb
  simp [h b hb]
theorem parts_clean (s : ByteArray) : ∀ x ∈ partsB 10 s, hasNl x = false := by
  intro x hx
  unfold partsB at hx
  obtain ⟨y, hy, rfl⟩ := List.mem_map.1 hx
  refine clean_iff fun b hb => ?_
  rw [mkB_data] at hb
  exact T.segs_clean _ y hy b hb
theorem parts_ne (s : ByteArray) : partsB 10 s ≠ [] := by
  unfold partsB
  intro h
  exact Seg.segs_ne 10 _ (List.map_eq_nil_iff.1 h)
/-- The lines of joined lines are these lines. -/
theorem parts_join {l : List ByteArray} (h0 : l ≠ []) (h : ∀ x ∈ l, hasNl x = false) : partsB 10 (joinB l) = l := by
  unfold partsB joinB
  rw [mkB_data, T.segs_join]
  · rw [List.map_map]
    conv => rhs; rw [← List.map_id l]
    exact List.map_congr_left fun x _ => mkB_self x
  · intro e; exact h0 (List.map_eq_nil_iff.1 e)
  · intro x hx
    obtain ⟨y, hy, rfl⟩ := List.mem_map.1 hx
    exact clean_of (h y hy)
theorem join_parts (s : ByteArray) : joinB (partsB 10 s) = s := by
  unfold partsB joinB
  rw [List.map_map]
  have : ((fun s : ByteArray => s.data.toList) ∘ mkB) = id := by funext x; exact mkB_data x
  rw [this, List.map_id, T.join_segs]
  exact mkB_self s
/-- Joined, without an error. -/
theorem join_ok {l : List ByteArray} (h : (joinE l).2 = 0) : l ≠ [] ∧ (∀ x ∈ l, hasNl x = false) ∧ l.length ≤ 1024 ∧ (joinB l).size ≤ 65536 ∧ joinE l = (joinB l, 0) := by
  have hd := joinE_data h
  unfold joinE at h hd ⊢
  split at h
  · cases h
  · rename_i h1
    split at h
    · cases h
    · rename_i h2
      rw [if_neg h1, if_neg h2] at hd ⊢
      refine ⟨fun e => h1 (.inl e), fun x hx => ?_, by omega, hd, rfl⟩
      rw [Bool.eq_false_iff]
      exact fun e => h1 (.inr (List.any_eq_true.2 ⟨x, hx, e⟩))
theorem join_back {l : List ByteArray} (h0 : l ≠ []) (h1 : ∀ x ∈ l, hasNl x = false) (h2 : l.length ≤ 1024) (h3 : (joinB l).size ≤ 65536) : joinE l = (joinB l, 0) := by
  unfold joinE
  rw [if_neg, if_neg]
  · rw [joinB_size l h0] at h3; omega
  · rintro (h | h)
    · exact h0 h
    · obtain ⟨x, hx, he⟩ := List.any_eq_true.1 h
      rw [h1 x hx] at he
      cases he
theorem lines_join {l : List ByteArray} (h : (joinE l).2 = 0) : linesE (joinE l).1 = (l, 0) := by
  obtain ⟨h0, h1, h2, h3, h4⟩ := join_ok h
  rw [h4]
  show linesE (joinB l) = _
  unfold linesE
  rw [parts_join h0 h1, if_neg (by omega)]
theorem join_lines {s : ByteArray} {l : List ByteArray} (h : linesE s = (l, 0)) : joinE l = (s, 0) ∧ l = partsB 10 s ∧ s.size ≤ 65536 ∧ l.length ≤ 1024 := by
  rcases lines_cases s with h1 | ⟨h1, h2, h3⟩
  · rw [h1] at h; cases h
  · rw [h1] at h
    obtain rfl : partsB 10 s = l := (Prod.mk.inj h).1
    refine ⟨?_, rfl, h2, h3⟩
    rw [join_back (parts_ne s) (parts_clean s) h3 (by rw [join_parts]; exact h2), join_parts]
/-- What Replace gives: nothing and an error, or a tree with the line. -/
theorem repl_cases (t : T.Tr) (p : ByteArray) (N : Int) (x : ByteArray) : (∃ e : Int, replE t p N x = ([], e) ∧ e ≠ 0) ∨
    (T.Ok okB t ∧ ∃ (f : T.File) (L : List ByteArray) (k : Nat) (d : ByteArray), T.findT t p.data.toList = some f ∧ f.1 = p ∧ linesE f.2 = (L, 0) ∧ N = k ∧ k < L.length ∧ hasNl x = false ∧ joinE (L.set k x) = (d, 0) ∧ d.size ≤ 65536 ∧ replE t p N x = (T.insT t (p, d), 0) ∧ T.Ok okB (T.insT t (p, d))) := by
  unfold replE
  by_cases h : T.checkE okB t = 0
  · rw [if_neg (by rw [h]; simp)]
    have hok := checkE_ok h
    cases hf : T.findT t p.data.toList with
    | none => exact .inl ⟨7, rfl, by decide⟩
    | some f =>
      simp only
      obtain ⟨hm, hp⟩ := find_path hf
      by_cases h1 : (linesE f.2).2 = 0
      · rw [if_neg (by rw [h1]; simp)]
        by_cases h2 : N < 0 ∨ ((linesE f.2).1.length : Int) ≤ N
        · rw [if_pos h2]; exact .inl ⟨3, rfl, by decide⟩
        · rw [if_neg h2]
          by_cases h3 : hasNl x = true
          · rw [if_pos h3]; exact .inl ⟨1, rfl, by decide⟩
          · rw [if_neg h3]
            by_cases h4 : (joinE ((linesE f.2).1.set N.toNat x)).2 = 0
            · rw [if_neg (by rw [h4]; simp)]
              have hd := joinE_data h4
              refine .inr ⟨hok, f, (linesE f.2).1, N.toNat, (joinE ((linesE f.2).1.set N.toNat x)).1, rfl, hp, Prod.ext rfl h1, by omega, by omega, by simpa using h3, Prod.ext rfl h4, hd, rfl, ?_⟩
              have := repl_put hok hm hd
              rw [hp] at this
              rcases put_cases t (p, (joinE ((linesE f.2).1.set N.toNat x)).1) with ⟨e, h5, h6⟩ | ⟨_, _, _, _, h7⟩
              · rw [this] at h5; exact absurd (Prod.mk.inj h5).2.symm h6
              · exact h7
            · rw [if_pos h4]; exact .inl ⟨_, rfl, h4⟩
      · rw [if_pos h1]; exact .inl ⟨_, rfl, h1⟩
  · rw [if_pos h]; exact .inl ⟨1, rfl, by decide⟩
theorem repl_szF (t : T.Tr) (p : ByteArray) (N : Int) (x : ByteArray) : SzF (replE t p N x).1 := by
  rcases repl_cases t p N x with ⟨e, h, _⟩ | ⟨_, f, L, k, d, _, _, _, _, _, _, _, _, h, h1⟩
  · rw [h]; exact nil_szF
  · rw [h]; exact ok_szF h1
theorem id_form (t : T.Tr) : ∃ s e, (Value.tuple #[.string (T.idE t).1, .int .i64 (T.idE t).2]) = .tuple #[.string s, .int .i64 e] := ⟨_, _, rfl⟩
/-- What Differ gives. -/
theorem diff_szC {K : Nat} (hK : K ≤ 9223372036854775807) (sid : T.Bs → ByteArray) (hs : ∀ l, (sid l).size ≤ 32) : ∀ (a b : T.Tr), (∀ f ∈ a, f.1.size ≤ K) → (∀ f ∈ b, f.1.size ≤ K) → SzC (T.diffT sid a b) := by
  have hr : ∀ x : T.File, x.1.size ≤ K → ∀ c ∈ [T.remC sid x], c.1.size ≤ 9223372036854775807 ∧ (Lit.int .i64 c.2.1).wf = true ∧ c.2.2.1.size ≤ 9223372036854775807 ∧ c.2.2.2.size ≤ 9223372036854775807 := fun x hx c hc => by
    rw [List.mem_singleton] at hc; subst hc
    exact ⟨Nat.le_trans hx hK, (by decide : (Lit.int .i64 2).wf = true), Nat.le_trans (hs _) (by decide), (by decide : (⟨#[]⟩ : ByteArray).size ≤ 9223372036854775807)⟩
  have ha : ∀ x : T.File, x.1.size ≤ K → ∀ c ∈ [T.addC sid x], c.1.size ≤ 9223372036854775807 ∧ (Lit.int .i64 c.2.1).wf = true ∧ c.2.2.1.size ≤ 9223372036854775807 ∧ c.2.2.2.size ≤ 9223372036854775807 := fun x hx c hc => by
    rw [List.mem_singleton] at hc; subst hc
    exact ⟨Nat.le_trans hx hK, (by decide : (Lit.int .i64 1).wf = true), (by decide : (⟨#[]⟩ : ByteArray).size ≤ 9223372036854775807), Nat.le_trans (hs _) (by decide)⟩
  have hc : ∀ x y : T.File, x.1.size ≤ K → ∀ c ∈ [T.chgC sid x y], c.1.size ≤ 9223372036854775807 ∧ (Lit.int .i64 c.2.1).wf = true ∧ c.2.2.1.size ≤ 9223372036854775807 ∧ c.2.2.2.size ≤ 9223372036854775807 := fun x y hx c hc => by
    rw [List.mem_singleton] at hc; subst hc
    exact ⟨Nat.le_trans hx hK, (by decide : (Lit.int .i64 3).wf = true), Nat.le_trans (hs _) (by decide), Nat.le_trans (hs _) (by decide)⟩
  intro a b
  induction a, b using T.diffT.induct with
  | case1 => intro _ _; rw [T.diffT]; exact fun _ h => by cases h
  | case2 x a ih =>
    intro h1 h2
    rw [T.diffT]
    intro c hcm
    rcases List.mem_cons.1 hcm with h | h
    · exact hr x (h1 x List.mem_cons_self) c (by rw [h]; exact List.mem_singleton_self _)
    · exact ih (fun f hf => h1 f (List.mem_cons_of_mem _ hf)) h2 c h
  | case3 y b ih =>
    intro h1 h2
    rw [T.diffT]
    intro c hcm
    rcases List.mem_cons.1 hcm with h | h
    · exact ha y (h2 y List.mem_cons_self) c (by rw [h]; exact List.mem_singleton_self _)
    · exact ih h1 (fun f hf => h2 f (List.mem_cons_of_mem _ hf)) c h
  | case4 x a y b h0 ih =>
    intro h1 h2
    rw [T.diffT, if_pos h0]
    intro c hcm
    rcases List.mem_cons.1 hcm with h | h
    · exact hr x (h1 x List.mem_cons_self) c (by rw [h]; exact List.mem_singleton_self _)
    · exact ih (fun f hf => h1 f (List.mem_cons_of_mem _ hf)) h2 c h
  | case5 x a y b h0 h0' ih =>
    intro h1 h2
    rw [T.diffT, if_neg h0, if_pos h0']
    intro c hcm
    rcases List.mem_cons.1 hcm with h | h
    · exact ha y (h2 y List.mem_cons_self) c (by rw [h]; exact List.mem_singleton_self _)
    · exact ih h1 (fun f hf => h2 f (List.mem_cons_of_mem _ hf)) c h
  | case6 x a y b h0 h0' ih =>
    intro h1 h2
    rw [T.diffT, if_neg h0, if_neg h0']
    intro c hcm
    rcases List.mem_append.1 hcm with h | h
    · split at h
      · cases h
      · exact hc x y (h1 x List.mem_cons_self) c h
    · exact ih (fun f hf => h1 f (List.mem_cons_of_mem _ hf)) (fun f hf => h2 f (List.mem_cons_of_mem _ hf)) c h
theorem differ_cases (a b : T.Tr) : T.differE a b = ([], 1) ∨ (T.Ok okB a ∧ T.Ok okB b ∧ T.differE a b = (T.diffT (fun l => fidB (T.mkF l)) a b, 0)) := by
  unfold T.differE
  by_cases h : T.checkE okB a = 0 ∧ T.checkE okB b = 0
  · rw [if_pos h]; exact .inr ⟨checkE_ok h.1, checkE_ok h.2, rfl⟩
  · rw [if_neg h]; exact .inl rfl
theorem differ_szC (a b : T.Tr) : SzC (T.differE a b).1 := by
  rcases differ_cases a b with h | ⟨h1, h2, h⟩
  · rw [h]; exact fun _ h => by cases h
  · rw [h]
    exact diff_szC (K := 128) (by decide) _ (fun _ => Nat.le_of_eq (fidB_size _)) a b (fun f hf => okB_size (h1.path f hf)) (fun f hf => okB_size (h2.path f hf))
end Go.Proofs.YtclhbcicbnoohaaGreatDoor

/- The example of chapter 3: its lines, its changes, its identifiers (six digests by the kernel). -/
namespace Go.Proofs.YtclhbcicbnoohaaGreatDoor
open Go.RowKit

def exA : T.File := (⟨#[97, 45, 98]⟩, ⟨#[49]⟩)
def exX : T.File := (⟨#[97, 47, 120]⟩, ⟨#[50, 10]⟩)
def exY : T.File := (⟨#[97, 47, 120]⟩, ⟨#[50, 10, 51]⟩)
def exB : T.File := (⟨#[98]⟩, ⟨#[]⟩)
def exT : T.Tr := [exA, exX, exB]
def exU : T.Tr := [exA, exY, exB]
def exS : T.Tr := [(⟨#[120]⟩, ⟨#[50, 10]⟩)]
theorem ex_ok : T.checkE okB exT = 0 := by decide +kernel
theorem ex_ok2 : T.checkE okB exU = 0 := by decide +kernel
theorem ex_nil : T.checkE okB [] = 0 := by decide +kernel
theorem ex_lines : linesE ⟨#[120, 10]⟩ = ([⟨#[120]⟩, ⟨#[]⟩], 0) := by decide +kernel
theorem ex_repl : replE exT ⟨#[97, 47, 120]⟩ 1 ⟨#[51]⟩ = (exU, 0) := by decide +kernel
theorem ex_find : T.findT exU [97, 47, 120] = some exY := by decide +kernel
theorem ex_bad : okB ⟨#[97, 47, 47, 98]⟩ = false := by decide +kernel
theorem ex_path : okB ⟨#[97, 47, 98, 46, 115, 114, 99]⟩ = true := by decide +kernel
theorem ex_differ : ∃ c : T.Ch, T.differE exT exU = ([c], 0) ∧ c.2.1 = 3 ∧ c.1.size ≤ 300 ∧ c.2.2.1.size ≤ 32 ∧ c.2.2.2.size ≤ 32 := by
  unfold T.differE
  rw [if_pos ⟨ex_ok, ex_ok2⟩]
  generalize hs : (fun l => fidB (T.mkF l)) = sid
  have hz : ∀ l, (sid l).size ≤ 32 := fun l => by rw [← hs]; exact Nat.le_of_eq (fidB_size _)
  refine ⟨T.chgC sid exX exY, ?_, rfl, (by decide : exX.1.size ≤ 300), hz _, hz _⟩
  have n1 : ¬ T.pth exA < T.pth exA := T.lt_irrefl _
  have n2 : ¬ T.pth exX < T.pth exY := T.lt_irrefl _
  have n3 : ¬ T.pth exY < T.pth exX := T.lt_irrefl _
  have n4 : ¬ T.pth exB < T.pth exB := T.lt_irrefl _
  have d2 : ¬ T.dat exX = T.dat exY := by decide +kernel
  unfold exT exU
  rw [T.diffT, if_neg n1, if_neg n1, if_pos rfl, T.diffT, if_neg n2, if_neg n3, if_neg d2, T.diffT, if_neg n4, if_neg n4, if_pos rfl, T.diffT]
  rfl

def dg_f1 : List UInt8 := [222, 153, 91, 3, 116, 159, 255, 230, 226, 164, 253, 84, 209, 196, 27, 39, 42, 5, 149, 241, 229, 5, 233, 40, 194, 48, 122, 106, 216, 222, 227, 91]
theorem sha_f1 : D.sha [102, 49] = dg_f1 := by rw [← D.shaF_eq (by decide +kernel)]; kernel_rfl
def dg_f2 : List UInt8 := [7, 177, 136, 0, 18, 182, 81, 183, 154, 246, 100, 116, 11, 68, 135, 211, 91, 132, 121, 163, 163, 30, 230, 139, 144, 199, 243, 66, 2, 138, 99, 236]
theorem sha_f2 : D.sha [102, 50, 10] = dg_f2 := by rw [← D.shaF_eq (by decide +kernel)]; kernel_rfl
def dg_f0 : List UInt8 := [160, 179, 123, 139, 250, 232, 231, 19, 48, 189, 142, 39, 142, 74, 69, 202, 145, 109, 0, 71, 93, 216, 184, 94, 147, 82, 83, 52, 84, 201, 254, 200]
theorem sha_f0 : D.sha [102] = dg_f0 := by rw [← D.shaF_eq (by decide +kernel)]; kernel_rfl
def dg_sub : List UInt8 := [0, 143, 194, 218, 92, 215, 116, 27, 154, 217, 211, 53, 100, 117, 35, 250, 250, 123, 206, 161, 129, 196, 94, 191, 43, 4, 192, 180, 136, 49, 1, 8]
theorem sha_sub : D.sha [100, 50, 59, 49, 58, 120, 44, 51, 50, 58, 7, 177, 136, 0, 18, 182, 81, 183, 154, 246, 100, 116, 11, 68, 135, 211, 91, 132, 121, 163, 163, 30, 230, 139, 144, 199, 243, 66, 2, 138, 99, 236, 44] = dg_sub := by rw [← D.shaF_eq (by decide +kernel)]; kernel_rfl
def dg_nil : List UInt8 := [205, 224, 110, 193, 129, 223, 224, 229, 209, 224, 22, 242, 202, 156, 253, 185, 231, 64, 28, 226, 28, 240, 58, 3, 179, 45, 131, 199, 6, 102, 100, 225]
theorem sha_nil : D.sha [100, 48, 59] = dg_nil := by rw [← D.shaF_eq (by decide +kernel)]; kernel_rfl
def dg_ex : List UInt8 := [138, 188, 98, 64, 221, 198, 51, 145, 76, 133, 238, 22, 192, 210, 33, 106, 180, 88, 132, 182, 215, 239, 202, 116, 121, 193, 248, 86, 238, 116, 230, 234]
theorem sha_ex : D.sha [100, 54, 59, 49, 58, 97, 44, 51, 50, 58, 0, 143, 194, 218, 92, 215, 116, 27, 154, 217, 211, 53, 100, 117, 35, 250, 250, 123, 206, 161, 129, 196, 94, 191, 43, 4, 192, 180, 136, 49, 1, 8, 44, 51, 58, 97, 45, 98, 44, 51, 50, 58, 222, 153, 91, 3, 116, 159, 255, 230, 226, 164, 253, 84, 209, 196, 27, 39, 42, 5, 149, 241, 229, 5, 233, 40, 194, 48, 122, 106, 216, 222, 227, 91, 44, 49, 58, 98, 44, 51, 50, 58, 160, 179, 123, 139, 250, 232, 231, 19, 48, 189, 142, 39, 142, 74, 69, 202, 145, 109, 0, 71, 93, 216, 184, 94, 147, 82, 83, 52, 84, 201, 254, 200, 44] = dg_ex := by rw [← D.shaF_eq (by decide +kernel)]; kernel_rfl
theorem dec_32 : C.dec 32 = [51, 50] := by rw [C.dec_big (by decide), C.dec_small (by decide)]; rfl
theorem txt_32 {s : List UInt8} (h : s.length = 32) : C.txt s = [51, 50, 58] ++ (s ++ [44]) := by unfold C.txt; rw [h, dec_32]; rfl
theorem txt_of {s : List UInt8} {n : Nat} (h : s.length = n) (hn : n < 10) : C.txt s = [UInt8.ofNat (48 + n), 58] ++ (s ++ [44]) := by unfold C.txt; rw [h, C.dec_small hn]; rfl
theorem num_of {n : Nat} (hn : n < 10) : C.num n = [UInt8.ofNat (48 + n), 59] := by unfold C.num; rw [C.dec_small hn]; rfl
theorem dig_data (b : ByteArray) : (dig b).data.toList = D.sha b.data.toList := by unfold dig; simp
theorem fid_data (b : ByteArray) : (fidB b).data.toList = D.sha (102 :: b.data.toList) := by unfold fidB; rw [dig_data]; congr 1
theorem idS_data (n : Nat) (t : T.Tr) : (T.idS (n + 1) t).data.toList = D.sha (100 :: txsL (T.listK (T.idS n) t (T.names t))) := by
  rw [T.idS, dig_data]
  congr 1
theorem id_nil : (T.idT []).data.toList = dg_nil := by
  unfold T.idT
  rw [idS_data, show T.names [] = [] from rfl]
  unfold txsL T.listK
  rw [List.flatMap_nil, List.length_nil, num_of (by decide), List.flatMap_nil]
  exact sha_nil
theorem ex_names : T.names exT = [[97], [97, 45, 98], [98]] := by decide +kernel
theorem ex_names2 : T.names exS = [[120]] := by decide +kernel
theorem ex_sub : T.subT exT [97] = exS := by decide +kernel
theorem ex_v1 : T.findT exT [97] = none := by decide +kernel
theorem ex_v2 : T.findT exT [97, 45, 98] = some exA := by decide +kernel
theorem ex_v3 : T.findT exT [98] = some exB := by decide +kernel
theorem ex_v4 : T.findT exS [120] = some (⟨#[120]⟩, ⟨#[50, 10]⟩) := by decide +kernel
theorem id_sub : (T.idS 8 exS).data.toList = dg_sub := by
  rw [idS_data, ex_names2]
  unfold txsL T.listK T.valT
  rw [List.flatMap_cons, List.flatMap_nil, ex_v4]
  simp only [List.append_nil, List.length_cons, List.length_nil, List.flatMap_cons, List.flatMap_nil, T.mkF_data, fid_data]
  rw [sha_f2, num_of (by decide), txt_of (n := 1) rfl (by decide), txt_32 rfl]
  exact sha_sub
theorem id_ex : (T.idT exT).data.toList = dg_ex := by
  unfold T.idT
  rw [idS_data, ex_names]
  unfold txsL T.listK T.valT
  rw [List.flatMap_cons, List.flatMap_cons, List.flatMap_cons, List.flatMap_nil, ex_v1, ex_v2, ex_v3, ex_sub]
  simp only [List.append_nil, List.length_cons, List.length_nil, List.flatMap_cons, List.flatMap_nil, List.cons_append, List.nil_append, T.mkF_data, fid_data, id_sub]
  rw [show exA.2.data.toList = [49] from rfl, show exB.2.data.toList = [] from rfl, sha_f1, sha_f0, num_of (by decide), txt_of (s := [97]) (n := 1) rfl (by decide), txt_of (s := [97, 45, 98]) (n := 3) rfl (by decide), txt_of (s := [98]) (n := 1) rfl (by decide), txt_32 (s := dg_sub) rfl, txt_32 (s := dg_f1) rfl, txt_32 (s := dg_f0) rfl]
  exact sha_ex
theorem ids_differ : (T.idT exT).toList ≠ (T.idT []).toList := by
  rw [ByteArray.toList_eq, ByteArray.toList_eq, id_ex, id_nil]
  decide +kernel
end Go.Proofs.YtclhbcicbnoohaaGreatDoor

/- Few, few: a bool; where it is true, the trees are small. -/
namespace Go.Proofs.YtclhbcicbnoohaaGreatDoor
open Go.RowKit

def BdT (t : T.Tr) : Prop := t.length ≤ 140737488351232 ∧ ∀ f ∈ t, f.1.size ≤ 140737488351232 ∧ f.2.size ≤ 140737488351232
def FewT (t : T.Tr) : Prop := t.length ≤ 70 ∧ ∀ f ∈ t, f.1.size ≤ 300 ∧ f.2.size ≤ 3000
/-- It returns a bool; where it is true, P. -/
def RetB (w : World) (P : Prop) (e : Ending) (w' : World) : Prop := Ext w w' ∧ ∃ b, e = .returned (.bool b) ∧ (b = true → P)
theorem retB_false {w w' : World} {P : Prop} (h : Ext w w') : RetB w P (.returned (.bool false)) w' := ⟨h, false, rfl, fun h => by cases h⟩
theorem retB_true {w w' : World} {P : Prop} (h : Ext w w') (hp : P) : RetB w P (.returned (.bool true)) w' := ⟨h, true, rfl, fun _ => hp⟩
def fewTo (t : T.Tr) (k : Nat) : Prop := ∀ i (h : i < t.length), i < k → t[i].1.size ≤ 300 ∧ t[i].2.size ≤ 3000
theorem fewTo_succ {t : T.Tr} {k : Nat} (h : fewTo t k) (hk : k < t.length) (h1 : t[k].1.size ≤ 300 ∧ t[k].2.size ≤ 3000) : fewTo t (k + 1) := by
  intro i hi hik
  by_cases e : i = k
  · subst e; exact h1
  · exact h i hi (by omega)
theorem fewT_of {t : T.Tr} (h1 : fewTo t t.length) (h2 : t.length ≤ 70) : FewT t :=
  ⟨h2, fun s hs => by obtain ⟨i, hi, rfl⟩ := List.getElem_of_mem hs; exact h1 i hi hi⟩

set_option maxRecDepth 8000 in
set_option maxHeartbeats 4000000 in
theorem Few_any (t : T.Tr) (A : Option Addr) (c n : Nat) (w : World) (hn : n = t.length) (hA : SliceAt fileR w (Old w) A c t) (hb : BdT t) :
    Calls Tryz.prog 43 #[.slice A n c, .int .i64 70, .int .i64 3000] w (RetB w (FewT t)) := by
  have hn2 : n ≤ 140737488351232 := by have := hb.1; omega
  have HF := Lib.hid (@fewT_of t)
  obtain ⟨P, hP⟩ : ∃ P, P = FewT t := ⟨_, rfl⟩
  rw [← hP] at HF ⊢
  have HN := Lib.hid hn
  have HA := Lib.hid hA
  have HD := Lib.hid hb.2
  clear hn hA hb hP
  go_enter Tryz.func43, Tryz.ntmps43
  by_cases h70 : 70 < n
  · go_wp2_with fail
    go_ret
    exact retB_false (Ext.refl _)
  go_wp2_with fail
  go_loopw [16, 7] (fun i zv wr => ∃ (k : Nat) (z : Int), k ≤ n ∧ i = .int .i64 k ∧ zv = .int .i64 z ∧ 0 ≤ z ∧ z ≤ 3000 ∧ Hid (fewTo t k ∧ Ext w wr)) (fun i _ _ => n - (intOf i).toNat)
  case atStart => exact ⟨0, 0, Nat.zero_le _, rfl, rfl, by omega, by omega, fun _ _ h => absurd h (Nat.not_lt_zero _), Ext.refl _⟩
  case round =>
    obtain ⟨k, z, hk, rfl, rfl, hz0, hz1, HK⟩ := hrel
    by_cases hlt : k < n
    · have hkz : k < t.length := by rw [← HN.out]; exact hlt
      obtain ⟨b, off, hAe, hB, ca0, ca1, za1, za2⟩ := file_get (HA.out.ext HK.out.2) hkz
      subst hAe
      rw [← Nat.add_assoc] at ca1
      obtain ⟨hd1, hd2⟩ := HD.out _ (List.getElem_mem hkz)
      have H9 := Lib.hid (fun h1 => fewTo_succ HK.out.1 hkz h1)
      generalize t[k] = f at *
      obtain ⟨fp, fd⟩ := f
      simp only at ca0 ca1 za1 za2 hd1 hd2 H9
      by_cases h1 : 300 < fp.size
      · go_wp2_with fail
        go_ret
        exact retB_false (HK.out.2.alloc _)
      by_cases h2 : 3000 < z + fd.size
      · go_wp2_with fail
        go_ret
        exact retB_false (HK.out.2.alloc _)
      have H8 := Lib.hid (H9.out ⟨by omega, by omega⟩)
      go_wp2_with fail
      go_roundw
      case rel => exact ⟨k + 1, z + fd.size, by omega, by go_num, rfl, by omega, by omega, H8.out, HK.out.2.alloc _⟩
      case measure => simp [intOf]; omega
    · have HS := Lib.hid (show fewTo t t.length by have := HK.out.1; rwa [show k = t.length by have := HN.out; omega] at this)
      go_wp2_with fail
      go_ret
      exact retB_true HK.out.2 (HF.out HS.out (by have := HN.out; omega))

/-- Trees lie behind this address. -/
def TreesAt (w : World) (A : Option Addr) (L : List T.Tr) : Prop :=
  ∀ k (h : k < L.length), ∃ b off A' n' c', A = some ⟨b, off, none⟩ ∧ w.cell? ⟨b, off + k, none⟩ = some (.slice A' n' c') ∧ n' = L[k].length ∧ SliceAt fileR w (Old w) A' c' L[k]
theorem TreesAt.ext {w w' : World} {A : Option Addr} {L : List T.Tr} (h : TreesAt w A L) (e : Ext w w') : TreesAt w' A L := fun k hk => by
  obtain ⟨b, off, A', n', c', h1, h2, h3, h4⟩ := h k hk
  exact ⟨b, off, A', n', c', h1, e.keepc h2, h3, h4.ext e⟩
def treesTo (L : List T.Tr) (k : Nat) : Prop := ∀ i (h : i < L.length), i < k → FewT L[i]
theorem treesTo_succ {L : List T.Tr} {k : Nat} (h : treesTo L k) (hk : k < L.length) (h1 : FewT L[k]) : treesTo L (k + 1) := by
  intro i hi hik
  by_cases e : i = k
  · subst e; exact h1
  · exact h i hi (by omega)
theorem trees_of {L : List T.Tr} (h1 : treesTo L L.length) : ∀ t ∈ L, FewT t := fun s hs => by obtain ⟨i, hi, rfl⟩ := List.getElem_of_mem hs; exact h1 i hi hi
set_option maxRecDepth 8000 in
set_option maxHeartbeats 4000000 in
theorem few_any (L : List T.Tr) (A : Option Addr) (c n : Nat) (w : World) (hn : n = L.length) (hn2 : n ≤ 100) (hA : TreesAt w A L) (hb : ∀ t ∈ L, BdT t) :
    Calls Tryz.prog 12 #[.slice A n c] w (RetB w (∀ t ∈ L, FewT t)) := by
  have HF := Lib.hid (@trees_of L)
  obtain ⟨P, hP⟩ : ∃ P : Prop, P = ∀ t ∈ L, FewT t := ⟨_, rfl⟩
  rw [← hP] at HF ⊢
  have HN := Lib.hid hn
  have HA := Lib.hid hA
  have HD := Lib.hid hb
  clear hn hA hb hP
  go_enter Tryz.func12, Tryz.ntmps12
  go_wp2_with fail
  go_loopw [7] (fun i wr => ∃ k : Nat, k ≤ n ∧ i = .int .i64 k ∧ Hid (treesTo L k ∧ Ext w wr)) (fun i _ => n - (intOf i).toNat)
  case atStart => exact ⟨0, Nat.zero_le _, rfl, fun _ _ h => absurd h (Nat.not_lt_zero _), Ext.refl _⟩
  case round =>
    obtain ⟨k, hk, rfl, HK⟩ := hrel
    by_cases hlt : k < n
    · have hkz : k < L.length := by rw [← HN.out]; exact hlt
      obtain ⟨b, off, A', n', c', hAe, c1, hn', hS⟩ := HA.out.ext HK.out.2 k hkz
      subst hAe
      have H9 := Lib.hid (fun h1 => treesTo_succ HK.out.1 hkz h1)
      have HFW := Lib.hid (fun W (h : Ext wr W) => Few_any L[k] A' c' n' W hn' (hS.ext h) (HD.out _ (List.getElem_mem hkz)))
      clear hn' hS
      go_wp2_with fail
      refine (HFW.out _ (by first | exact Ext.refl _ | exact (Ext.refl _).drewN _)).mono ?_
      rintro e w2 ⟨d2, bb, rfl, hbb⟩
      have HX2 := Lib.hid (HK.out.2.trans d2)
      clear d2 c1
      cases bb with
      | false =>
        clear hbb
        go_wp2_with fail
        go_ret
        exact retB_false HX2.out
      | true =>
        have H8 := Lib.hid (H9.out (hbb rfl))
        clear hbb
        go_wp2_with fail
        go_roundw
        case rel => exact ⟨k + 1, by omega, by go_num, H8.out, HX2.out⟩
        case measure => simp [intOf]; omega
    · have HS := Lib.hid (show treesTo L L.length by have := HK.out.1; rwa [show k = L.length by have := HN.out; omega] at this)
      go_wp2_with fail
      go_ret
      exact retB_true HK.out.2 (HF.out HS.out)
end Go.Proofs.YtclhbcicbnoohaaGreatDoor

/- Rows that were just made; slices.Equal of the same strings; the example. -/
namespace Go.Proofs.YtclhbcicbnoohaaGreatDoor
open Go.RowKit

theorem files_new {w w' : World} {t : T.Tr} {g : Nat} (hg : g = w.heap.size) (hz : SzF t) (hl : t.length ≤ 100) (hk : Ext (w.alloc (.cells (fcells t).toArray 25)) w') : SliceAt fileR w' (Old w') (some ⟨g, 0, none⟩) t.length t := by
  subst hg
  have hlt : w.heap.size < w'.heap.size := by have := hk.size; simp at this; omega
  refine ⟨Nat.le_refl _, by omega, fun _ => ⟨_, 0, rfl, hlt, fun i hi => ⟨[.string t[i].1, .string t[i].2], ⟨[.string t[i].1], [.string t[i].2], rfl, ⟨rfl, (hz _ (List.getElem_mem hi)).1⟩, ⟨rfl, (hz _ (List.getElem_mem hi)).2⟩⟩, fun j u hj => ?_⟩⟩⟩
  refine hk.keepc ?_
  rw [cell_new, List.getElem?_toArray, Nat.zero_add]
  have hg := fcells_get t i hi
  match j with
  | 0 => simp at hj; subst hj; exact hg.1
  | 1 => simp at hj; subst hj; exact hg.2
  | j + 2 => simp at hj
theorem strs_new {w w' : World} {l : List ByteArray} {g : Nat} (hg : g = w.heap.size) (hz : ∀ s ∈ l, s.size ≤ 9223372036854775807) (hl : l.length ≤ 100) (hk : Ext (w.alloc (.cells (strs l).toArray 9)) w') : SliceAt strR w' (Old w') (some ⟨g, 0, none⟩) l.length l := by
  subst hg
  have hlt : w.heap.size < w'.heap.size := by have := hk.size; simp at this; omega
  refine ⟨Nat.le_refl _, by omega, fun _ => ⟨_, 0, rfl, hlt, fun i hi => ⟨[.string l[i]], ⟨rfl, hz _ (List.getElem_mem hi)⟩, fun j u hj => ?_⟩⟩⟩
  refine hk.keepc ?_
  rw [cell_new, List.getElem?_toArray, Nat.zero_add]
  match j with
  | 0 => simp at hj; subst hj; simp [strs, strR, hi]
  | j + 1 => simp at hj
/-- Trees as arguments of few. -/
theorem trees_one {w w' : World} {t : T.Tr} {A : Option Addr} {n c g : Nat} (hg : g = w.heap.size) (hn : n = t.length) (hA : SliceAt fileR w (Old w) A c t) (hk : Ext (w.alloc (.cells #[.slice A n c] 23)) w') : TreesAt w' (some ⟨g, 0, none⟩) [t] := by
  subst hg
  intro k h
  obtain rfl : k = 0 := by simp at h; omega
  exact ⟨_, 0, A, n, c, rfl, hk.keepc (cell_new w #[.slice A n c] 23 0), hn, hA.ext (((Ext.refl w).alloc _).trans hk)⟩
theorem trees_two {w w' : World} {t s : T.Tr} {A B : Option Addr} {n c m d g : Nat} (hg : g = w.heap.size) (hn : n = t.length) (hA : SliceAt fileR w (Old w) A c t) (hm : m = s.length) (hB : SliceAt fileR w (Old w) B d s) (hk : Ext (w.alloc (.cells #[.slice A n c, .slice B m d] 23)) w') : TreesAt w' (some ⟨g, 0, none⟩) [t, s] := by
  subst hg
  intro k h
  match k with
  | 0 => exact ⟨_, 0, A, n, c, rfl, hk.keepc (cell_new w #[.slice A n c, .slice B m d] 23 0), hn, hA.ext (((Ext.refl w).alloc _).trans hk)⟩
  | 1 => exact ⟨_, 0, B, m, d, rfl, hk.keepc (cell_new w #[.slice A n c, .slice B m d] 23 1), hm, hB.ext (((Ext.refl w).alloc _).trans hk)⟩
  | k + 2 => simp at h; omega

set_option maxRecDepth 100000 in
theorem EqS_same (l : List ByteArray) (A B : Option Addr) (c c' n m : Nat) (w : World) (hn : n = l.length) (hm : m = l.length) (hA : SliceAt strR w (Old w) A c l) (hB : SliceAt strR w (Old w) B c' l) :
    Calls Tryz.prog 37 #[.slice A n c, .slice B m c'] w (Al (.bool true) w) := by
  have hn63 : n ≤ 9223372036854775807 := by have := hA.1; have := hA.2.1; omega
  obtain rfl : n = m := hn.trans hm.symm
  have HN := Lib.hid hn
  have HA := Lib.hid hA
  have HB := Lib.hid hB
  clear hn hA hm hB
  go_enter Tryz.func37, Tryz.ntmps37
  go_wp2_with fail
  go_loopw [13] (fun i wr => ∃ k : Nat, k ≤ n ∧ i = .int .i64 k ∧ Hid (Ext w wr)) (fun i _ => n - (intOf i).toNat)
  case atStart => exact ⟨0, Nat.zero_le _, rfl, Ext.refl _⟩
  case round =>
    obtain ⟨k, hk, rfl, HX⟩ := hrel
    by_cases hlt : k < n
    · have hkl : k < l.length := by rw [← HN.out]; exact hlt
      obtain ⟨b, off, hAe, hb, ca0, za1⟩ := str_get (HA.out.ext HX.out) hkl
      obtain ⟨b2, off2, hBe, hb2, cb0, zb1⟩ := str_get (HB.out.ext HX.out) hkl
      subst hAe hBe
      generalize l[k] = x at *
      go_wp2_with fail
      go_quiet (fail)
      go_wp2_with fail
      go_roundw
      case rel => exact ⟨k + 1, by omega, by go_num, HX.out.drewN _⟩
      case measure => simp [intOf]; omega
    · go_wp2_with fail
      go_ret
      exact ⟨rfl, HX.out⟩

/-- The example comes back. -/
def RetEx (w : World) (e : Ending) (w' : World) : Prop := Ext w w' ∧ ∃ A, e = .returned (.slice A 3 3) ∧ SliceAt fileR w' (Old w') A 3 exT
theorem retEx_of (w : World) : RetEx w (.returned (.slice (some ⟨w.heap.size, 0, none⟩) 3 3)) (w.alloc (.cells #[.string ⟨#[97, 45, 98]⟩, .string ⟨#[49]⟩, .string ⟨#[97, 47, 120]⟩, .string ⟨#[50, 10]⟩, .string ⟨#[98]⟩, .string ⟨#[]⟩] 25)) :=
  ⟨(Ext.refl w).alloc _, _, rfl, files_new (w := w) (t := exT) rfl (ok_szF (checkE_ok ex_ok)) (by decide) (Ext.refl _)⟩
set_option maxRecDepth 8000 in
set_option maxHeartbeats 2000000 in
theorem example_any (w : World) : Calls Tryz.prog 42 #[] w (RetEx w) := by
  go_enter Tryz.func42, Tryz.ntmps42
  go_wp2_with fail
  go_ret
  exact retEx_of w
end Go.Proofs.YtclhbcicbnoohaaGreatDoor

/- The reference's Replace. -/
namespace Go.Proofs.YtclhbcicbnoohaaGreatDoor
open Go.RowKit
set_option linter.unusedVariables false

set_option maxRecDepth 100000 in
set_option maxHeartbeats 8000000 in
theorem rReplace_any (t : T.Tr) (A : Option Addr) (c n : Nat) (lp x : ByteArray) (N : Int) (w : World) (hn : n = t.length) (hA : SliceAt fileR w (Old w) A c t) (hp : ∀ f ∈ t, f.1.size ≤ 9000000) (hlp : lp.size ≤ 9000000) (hx : x.size ≤ 100000) (hN1 : -9223372036854775808 ≤ N) (hN2 : N ≤ 9223372036854775807) :
    Calls Tryz.prog 36 #[.slice A n c, .agg #[.string lp, .int .i64 N], .string x] w (RetTr w (replE t lp N x)) := by
  have hX0 : Ext w (w.alloc (.cells #[.string lp, .int .i64 N] 45)) := (Ext.refl w).alloc _
  have hck : Hid (Calls Tryz.prog 29 #[.slice A n c] (w.alloc (.cells #[.string lp, .int .i64 N] 45)) (Al (.int .i64 (T.checkE okB t)) (w.alloc (.cells #[.string lp, .int .i64 N] 45)))) := rCheck_any t A c n _ hn (hA.ext hX0) hp
  have HFD : Hid (∀ W, Ext w W → Calls Tryz.prog 14 #[.slice A n c, .string lp] W (Al (findV t lp) W)) := fun W hW => rFind_any t A c n lp W hn (hA.ext hW)
  obtain ⟨Z, hZ⟩ : ∃ Z, Z = replE t lp N x := ⟨_, rfl⟩
  rw [← hZ]
  have HZ := Lib.hid hZ
  have HN := Lib.hid hn
  have HA := Lib.hid hA
  have HX0 := Lib.hid hX0
  have HP := Lib.hid hp
  clear hZ hn hA hp hX0
  by_cases h0 : T.checkE okB t = 0
  · rw [h0] at hck
    have hok := checkE_ok h0
    cases hf : T.findT t lp.data.toList with
    | none =>
      have HF : Hid (Z = ([], 7)) := by unfold Hid; rw [HZ.out, replE, if_neg (by rw [h0]; simp), hf]
      have hfv : findV t lp = .tuple #[.string ⟨#[]⟩, .bool false] := by unfold findV; rw [hf]
      rw [hfv] at HFD
      clear HZ hok h0 hf hfv
      go_enter Tryz.func36, Tryz.ntmps36
      go_wp2_with fail
      refine hck.out.mono ?_
      rintro e w1 ⟨rfl, d1⟩
      have e0 := d1.keepc (cell_new w #[.string lp, .int .i64 N] 45 0)
      go_wp2_with fail
      refine (HFD.out _ (HX0.out.trans d1)).mono ?_
      rintro e w2 ⟨rfl, d2⟩
      go_wp2_with fail
      go_ret2
      exact ⟨_, by rw [HF.out]; rfl, by rw [HF.out]; exact own_files_nil _ _, HX0.out.trans (d1.trans d2)⟩
    | some f =>
      obtain ⟨hfm, hfp⟩ := find_path hf
      have hfd : f.2.size ≤ 65536 := hok.size f hfm
      have hfv : findV t lp = .tuple #[.string f.2, .bool true] := by unfold findV; rw [hf]
      rw [hfv] at HFD
      have HZ2 : Hid (Z = if (linesE f.2).2 ≠ 0 then ([], (linesE f.2).2) else if N < 0 ∨ ((linesE f.2).1.length : Int) ≤ N then ([], 3) else if hasNl x = true then ([], 1)
          else if (joinE ((linesE f.2).1.set N.toNat x)).2 ≠ 0 then ([], (joinE ((linesE f.2).1.set N.toNat x)).2) else (T.insT t (lp, (joinE ((linesE f.2).1.set N.toNat x)).1), 0)) := by
        unfold Hid
        rw [HZ.out, replE, if_neg (by rw [h0]; simp), hf]
      have HLN : Hid (∀ W, Calls Tryz.prog 32 #[.string f.2] W (RetL W (linesE f.2))) := fun W => rLines_any f.2 W (by omega)
      have HPUT : Hid (∀ d : ByteArray, d.size ≤ 65536 → ∀ W, Ext w W → Calls Tryz.prog 16 #[.slice A n c, .agg #[.string lp, .string d]] W (RetTr W (T.insT t (lp, d), 0))) := fun d hd W hW => by
        have h3 := rPut_any t A c n lp d W HN.out (HA.out.ext hW) HP.out hlp (by omega)
        rw [← hfp] at h3 ⊢
        rwa [repl_put hok hfm hd] at h3
      have hlz : ∀ s ∈ (linesE f.2).1, s.size ≤ 65536 := fun s hs => by
        unfold linesE at hs
        split at hs
        · cases hs
        · have := parts_sizes 10 f.2 s hs; omega
      have hlc : (linesE f.2).1.length ≤ 1024 := by
        unfold linesE
        split
        · simp
        · rename_i h; exact Nat.le_of_not_lt fun h2 => h (.inr h2)
      have hle : (linesE f.2).2 = 10 ∨ (linesE f.2).2 = 0 := by
        unfold linesE
        split
        · exact .inl rfl
        · exact .inr rfl
      clear HZ hok h0 hf hfv hfm hfp
      generalize f.2 = fd at *
      generalize hLL : linesE fd = R at *
      obtain ⟨ls, er⟩ := R
      clear hLL
      simp only at hlz hlc hle HZ2
      rcases hle with rfl | rfl
      · have HF : Hid (Z = ([], 10)) := by unfold Hid; rw [HZ2.out, if_pos (by simp)]
        clear HZ2
        go_enter Tryz.func36, Tryz.ntmps36
        go_wp2_with fail
        refine hck.out.mono ?_
        rintro e w1 ⟨rfl, d1⟩
        have e0 := d1.keepc (cell_new w #[.string lp, .int .i64 N] 45 0)
        go_wp2_with fail
        refine (HFD.out _ (HX0.out.trans d1)).mono ?_
        rintro e w2 ⟨rfl, d2⟩
        go_wp2_with fail
        refine (HLN.out _).mono ?_
        rintro e w3 ⟨v, rfl, ho, d3⟩
        go_wp2_with fail
        go_ret2
        exact ⟨_, by rw [HF.out]; rfl, by rw [HF.out]; exact own_files_nil _ _, HX0.out.trans (d1.trans (d2.trans d3))⟩
      · have HZ3 : Hid (Z = if N < 0 ∨ ((ls.length : Nat) : Int) ≤ N then ([], 3) else if hasNl x = true then ([], 1) else if (joinE (ls.set N.toNat x)).2 ≠ 0 then ([], (joinE (ls.set N.toNat x)).2) else (T.insT t (lp, (joinE (ls.set N.toNat x)).1), 0)) := by
          unfold Hid
          rw [HZ2.out, if_neg (by simp)]
        clear HZ2
        have HSP : Hid (∀ W, Calls Tryz.prog 62 #[.string x, .int .u8 10] W (RetStrs W (partsB 10 x))) := fun W => refSplit_any x 10 W (by omega)
        have hpn := parts_nl x
        by_cases hr1 : N < 0
        · have HF : Hid (Z = ([], 3)) := by unfold Hid; rw [HZ3.out, if_pos (.inl hr1)]
          have hdn : decide (N < 0) = true := decide_eq_true hr1
          clear HZ3 hpn
          go_enter Tryz.func36, Tryz.ntmps36
          go_wp2_with fail
          refine hck.out.mono ?_
          rintro e w1 ⟨rfl, d1⟩
          have e0 := d1.keepc (cell_new w #[.string lp, .int .i64 N] 45 0)
          have e1 := d1.keepc (cell_new w #[.string lp, .int .i64 N] 45 1)
          go_wp2_with fail
          refine (HFD.out _ (HX0.out.trans d1)).mono ?_
          rintro e w2 ⟨rfl, d2⟩
          replace e0 := d2.keepc e0
          replace e1 := d2.keepc e1
          go_wp2_with fail
          refine (HLN.out _).mono ?_
          rintro e w3 ⟨v, rfl, ho, d3⟩
          replace e0 := d3.keepc e0
          replace e1 := d3.keepc e1
          have X3 : Hid (Ext w w3) := HX0.out.trans (d1.trans (d2.trans d3))
          have HB3 : Hid (w.heap.size < w2.heap.size) := by have h8 := (d1.trans d2).size; unfold Hid; simp at h8; omega
          clear d1 d2 d3
          obtain ⟨As, cs, rfl, _⟩ := StrsAt.of_own ho
          clear ho
          go_wp2_with fail
          go_ret2
          exact ⟨_, by rw [HF.out]; rfl, by rw [HF.out]; exact own_files_nil _ _, X3.out⟩
        · obtain ⟨k, rfl⟩ : ∃ k : Nat, N = (k : Int) := ⟨N.toNat, by omega⟩
          have hkn : ((k : Int)).toNat = k := by omega
          rw [hkn] at HZ3
          have hdn : decide ((k : Int) < 0) = false := decide_eq_false (by omega)
          clear hr1 hkn
          by_cases hr2 : ls.length ≤ k
          · have HF : Hid (Z = ([], 3)) := by unfold Hid; rw [HZ3.out, if_pos (.inr (by omega))]
            clear HZ3 hpn
            go_enter Tryz.func36, Tryz.ntmps36
            go_wp2_with fail
            refine hck.out.mono ?_
            rintro e w1 ⟨rfl, d1⟩
            have e0 := d1.keepc (cell_new w #[.string lp, .int .i64 (k : Int)] 45 0)
            have e1 := d1.keepc (cell_new w #[.string lp, .int .i64 (k : Int)] 45 1)
            go_wp2_with fail
            refine (HFD.out _ (HX0.out.trans d1)).mono ?_
            rintro e w2 ⟨rfl, d2⟩
            replace e0 := d2.keepc e0
            replace e1 := d2.keepc e1
            go_wp2_with fail
            refine (HLN.out _).mono ?_
            rintro e w3 ⟨v, rfl, ho, d3⟩
            replace e0 := d3.keepc e0
            replace e1 := d3.keepc e1
            have X3 : Hid (Ext w w3) := HX0.out.trans (d1.trans (d2.trans d3))
            have HB3 : Hid (w.heap.size < w2.heap.size) := by have h8 := (d1.trans d2).size; unfold Hid; simp at h8; omega
            clear d1 d2 d3
            obtain ⟨As, cs, rfl, _⟩ := StrsAt.of_own ho
            clear ho
            generalize ls.length = L at *
            have hd4 : decide (L ≤ k) = true := decide_eq_true hr2
            go_wp2_with fail
            go_ret2
            exact ⟨_, by rw [HF.out]; rfl, by rw [HF.out]; exact own_files_nil _ _, X3.out⟩
          · have HZ4 : Hid (Z = if hasNl x = true then ([], 1) else if (joinE (ls.set k x)).2 ≠ 0 then ([], (joinE (ls.set k x)).2) else (T.insT t (lp, (joinE (ls.set k x)).1), 0)) := by
              unfold Hid
              rw [HZ3.out, if_neg (by omega)]
            clear HZ3
            cases hnl : hasNl x
            · rw [hnl, if_neg (by simp)] at HZ4
              have hp1 : (partsB 10 x).length = 1 := hpn.2 hnl
              clear hpn hnl
              go_enter Tryz.func36, Tryz.ntmps36
              go_wp2_with fail
              refine hck.out.mono ?_
              rintro e w1 ⟨rfl, d1⟩
              have e0 := d1.keepc (cell_new w #[.string lp, .int .i64 (k : Int)] 45 0)
              have e1 := d1.keepc (cell_new w #[.string lp, .int .i64 (k : Int)] 45 1)
              go_wp2_with fail
              refine (HFD.out _ (HX0.out.trans d1)).mono ?_
              rintro e w2 ⟨rfl, d2⟩
              replace e0 := d2.keepc e0
              replace e1 := d2.keepc e1
              go_wp2_with fail
              refine (HLN.out _).mono ?_
              rintro e w3 ⟨v, rfl, ho, d3⟩
              replace e0 := d3.keepc e0
              replace e1 := d3.keepc e1
              have X3 : Hid (Ext w w3) := HX0.out.trans (d1.trans (d2.trans d3))
              have HB3 : Hid (w.heap.size < w2.heap.size) := by have h8 := (d1.trans d2).size; unfold Hid; simp at h8; omega
              clear d1 d2 d3
              obtain ⟨g, off, cap, cur, rfl, hO⟩ := ownZ_of (show OwnAt w3 w2.heap.size 9 1 v ls.length (strs ls) from ho) (by omega)
              clear ho
              obtain ⟨L, hL⟩ : ∃ L, L = ls.length := ⟨_, rfl⟩
              rw [← hL] at hO hr2 hlc ⊢
              have HL := Lib.hid hL
              clear hL
              have hd4 : decide (L ≤ k) = false := decide_eq_false hr2
              have hkL : k < L := by omega
              go_wp2_with fail
              refine (HSP.out _).mono ?_
              rintro e w4 ⟨v4, rfl, ho4, d4⟩
              obtain ⟨As4, cs4, rfl, _⟩ := StrsAt.of_own ho4
              rw [hp1]
              have X4 : Hid (Ext w w4) := X3.out.trans d4
              have E0 := Lib.hid (d4.keepc e0)
              have E1 := d4.keepc e1
              have hO4 : OwnZ w4 w2.heap.size g off cap cur L (strs ls) := ⟨hO.len, hO.low, (d4.block g (Array.getElem?_eq_some_iff.1 hO.row).1).trans hO.row, hO.room, hO.big, hO.fits, hO.at'⟩
              obtain ⟨xx, hxx⟩ := Option.isSome_iff_exists.1 (hO4.there (j := k) (by have := hO4.room; omega))
              have hfz := hO4.free (off + k)
              have HOS := Lib.hid (hO4.setOne HL.out hkL x)
              have HLOW : Hid (w.heap.size ≤ g ∧ g ≠ w.heap.size) := by have h8 := hO4.low; have h9 := HB3.out; unfold Hid; omega
              have HE5 : Hid (Ext w (w4.setCells g (off + k) [.string x])) := X4.out.grownNew HLOW.out.1 (grownBy_setCells g _ _ w4)
              have HB5 : Hid ((w4.setCells g (off + k) [.string x]).cell? ⟨w.heap.size, 0, none⟩ = some (.string lp)) := by
                refine (World.cell?_of_block ((grownBy_setCells g [.string x] (off + k) w4).block w.heap.size ?_ (fun e => HLOW.out.2 (Option.some.inj e).symm))).trans E0.out
                exact World.block_lt_of_cell? w4 _ E0.out
              clear d4 ho4 hO hO4 e0 e1 hp1 HSP
              have HRJ : Hid (Calls Tryz.prog 34 #[.slice (some ⟨g, off, none⟩) L cap] (w4.setCell ⟨g, off + k, none⟩ (.string x)) (Al (joinV (ls.set k x)) (w4.setCells g (off + k) [.string x]))) := by
                have hlz2 : ∀ s ∈ ls.set k x, s.size ≤ 100000 := fun s hs => by
                  rcases List.mem_or_eq_of_mem_set hs with h | h
                  · have := hlz s h; omega
                  · rw [h]; exact hx
                obtain ⟨A9, c9, e9, hs9⟩ := own_strs_slice HOS.out fun s hs => by have := hlz2 s hs; omega
                rw [List.length_set, ← HL.out] at e9
                cases e9
                exact rJoin_any (ls.set k x) _ cap L _ (by rw [List.length_set]; exact HL.out) hs9 (by omega) hlz2
              have HJD := Lib.hid (@joinE_data (ls.set k x))
              have hjv : joinV (ls.set k x) = .tuple #[.string (joinE (ls.set k x)).1, .int .i64 (joinE (ls.set k x)).2] := rfl
              rw [hjv] at HRJ
              clear HOS hjv hlz
              generalize joinE (ls.set k x) = J at *
              obtain ⟨js, je⟩ := J
              simp only at HRJ HJD HZ4
              go_wp2_with fail
              refine HRJ.out.mono ?_
              rintro e w6 ⟨rfl, d6⟩
              have e0 := d6.keepc HB5.out
              have X6 : Hid (Ext w w6) := HE5.out.trans d6
              clear d6 HRJ HB5 HE5 hxx hfz
              by_cases hj : je = 0
              · subst hj
                have HF : Hid (Z = (T.insT t (lp, js), 0)) := by unfold Hid; rw [HZ4.out, if_neg (by simp)]
                have HPC := Lib.hid (HPUT.out js (HJD.out rfl) w6 X6.out)
                clear HZ4 HJD HPUT
                go_wp2_with fail
                refine HPC.out.mono ?_
                rintro e w7 ⟨v7, rfl, ho7, d7⟩
                have HO7 := Lib.hid (ho7.mono X6.out.size)
                have X7 : Hid (Ext w w7) := X6.out.trans d7
                clear ho7 d7
                go_wp2_with fail
                go_ret2
                exact ⟨_, by rw [HF.out]; rfl, by rw [HF.out]; exact HO7.out, X7.out⟩
              · have HF : Hid (Z = ([], je)) := by unfold Hid; rw [HZ4.out, if_pos hj]
                have hj1 : (je == 0) = false := by simp [hj]
                have hj2 : (!(je == 0)) = true := by rw [hj1]; rfl
                clear HZ4 HJD HPUT
                go_wp2_with fail
                go_ret2
                exact ⟨_, by rw [HF.out]; rfl, by rw [HF.out]; exact own_files_nil _ _, X6.out⟩
            · have HF : Hid (Z = ([], 1)) := by unfold Hid; rw [HZ4.out, if_pos hnl]
              have hp1 : (partsB 10 x).length ≠ 1 := fun h => by rw [hpn.1 h] at hnl; cases hnl
              clear HZ4 hpn hnl
              go_enter Tryz.func36, Tryz.ntmps36
              go_wp2_with fail
              refine hck.out.mono ?_
              rintro e w1 ⟨rfl, d1⟩
              have e0 := d1.keepc (cell_new w #[.string lp, .int .i64 (k : Int)] 45 0)
              have e1 := d1.keepc (cell_new w #[.string lp, .int .i64 (k : Int)] 45 1)
              go_wp2_with fail
              refine (HFD.out _ (HX0.out.trans d1)).mono ?_
              rintro e w2 ⟨rfl, d2⟩
              replace e0 := d2.keepc e0
              replace e1 := d2.keepc e1
              go_wp2_with fail
              refine (HLN.out _).mono ?_
              rintro e w3 ⟨v, rfl, ho, d3⟩
              replace e0 := d3.keepc e0
              replace e1 := d3.keepc e1
              have X3 : Hid (Ext w w3) := HX0.out.trans (d1.trans (d2.trans d3))
              have HB3 : Hid (w.heap.size < w2.heap.size) := by have h8 := (d1.trans d2).size; unfold Hid; simp at h8; omega
              clear d1 d2 d3
              obtain ⟨As, cs, rfl, _⟩ := StrsAt.of_own ho
              clear ho
              generalize ls.length = L at *
              have hd4 : decide (L ≤ k) = false := decide_eq_false hr2
              go_wp2_with fail
              refine (HSP.out _).mono ?_
              rintro e w4 ⟨v4, rfl, ho4, d4⟩
              obtain ⟨As4, cs4, rfl, _⟩ := StrsAt.of_own ho4
              have X4 : Hid (Ext w w4) := X3.out.trans d4
              clear ho4 d4 HSP
              generalize (partsB 10 x).length = pl at *
              have he1 : ((pl : Int) == 1) = false := by simp; omega
              have he2 : (!((pl : Int) == 1)) = true := by rw [he1]; rfl
              go_wp2_with fail
              go_ret2
              exact ⟨_, by rw [HF.out]; rfl, by rw [HF.out]; exact own_files_nil _ _, X4.out⟩
  · have HF : Hid (Z = ([], 1)) := by unfold Hid; rw [HZ.out, replE, if_pos h0]
    have hd0 : ((T.checkE okB t) == 0) = false := by simp [h0]
    generalize T.checkE okB t = y at hck h0 hd0
    have hd2 : (!(y == 0)) = true := by rw [hd0]; rfl
    clear HZ
    go_enter Tryz.func36, Tryz.ntmps36
    go_wp2_with fail
    refine hck.out.mono ?_
    rintro e w1 ⟨rfl, d1⟩
    go_wp2_with fail
    go_ret2
    exact ⟨_, by rw [HF.out]; rfl, by rw [HF.out]; exact own_files_nil _ _, HX0.out.trans d1⟩
end Go.Proofs.YtclhbcicbnoohaaGreatDoor
