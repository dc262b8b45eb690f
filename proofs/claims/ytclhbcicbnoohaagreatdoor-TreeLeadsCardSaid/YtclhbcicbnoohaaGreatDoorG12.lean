/- The texts Idg Idh Ja Jb Jc Jd Je Na of the seat, joined. -/
import Derived.Test.YtclhbcicbnoohaaGreatDoorG11
import Derived.Maps.OwnSet
import Derived.Maps.OwnOps
/- tree.id: the walk. -/
namespace Go.Proofs.YtclhbcicbnoohaaGreatDoor
open Go.RowKit Go.Maps Go.ChangeMaps

theorem index_one : ∀ s : List UInt8, Lib.index s [47] = if T.deepP s then ((T.fstP s).length : Int) else -1
  | [] => rfl
  | b :: l => by
    have ih := index_one l
    unfold Lib.index
    by_cases hb : b = 47
    · subst hb
      rw [if_pos (by rfl)]
      rfl
    · have h1 : ([47] : List UInt8).isPrefixOf (b :: l) = false := by
        have : (47 == b) = false := by rw [beq_eq_false_iff_ne]; exact fun e => hb e.symm
        simp [List.isPrefixOf, this]
      have h2 : T.deepP (b :: l) = T.deepP l := by unfold T.deepP; rw [List.any_cons]; simp [hb]
      have h3 : T.fstP (b :: l) = b :: T.fstP l := by unfold T.fstP; rw [List.takeWhile_cons, if_pos (by simpa using hb)]
      rw [h1, h2, h3, ih]
      cases T.deepP l with
      | false => rfl
      | true =>
        have h4 : ((((T.fstP l).length : Nat) : Int) == -1) = false := by rw [beq_eq_false_iff_ne]; omega
        simp [h4]
theorem cut_one (s : List UInt8) : Lib.cut s [47] = if T.deepP s then (T.fstP s, s.drop ((T.fstP s).length + 1), true) else (s, [], false) := by
  unfold Lib.cut
  rw [index_one]
  cases hd : T.deepP s with
  | false => simp
  | true =>
    rw [if_pos rfl, if_pos rfl, if_pos (by omega)]
    have h1 := T.deep_cut hd
    have h2 : (((T.fstP s).length : Nat) : Int).toNat = (T.fstP s).length := by omega
    rw [h2]
    have h3 : s.take (T.fstP s).length = T.fstP s := by
      have h4 : (T.fstP s ++ 47 :: s.drop ((T.fstP s).length + 1)).take (T.fstP s).length = T.fstP s := List.take_left
      rwa [← h1] at h4
    rw [h3]
    rfl
theorem Ext.grownNo {w w' : World} (he : Ext w w') : w.grownBy w' none := ⟨he.os, he.tape, he.output, he.size, fun i hi _ => he.block i hi⟩
theorem zero23 (w : World) : (zeroValue 23).run Tryz.prog w = .ok (.slice none 0 0) w := by kernel_rfl
/-- What the call of itself is known to give. -/
def IdHypG (n : Nat) : Prop := ∀ (t : T.Tr) (A : Option Addr) (c m : Nat) (w : World), m = t.length → SliceAt fileR w (Old w) A c t → T.Ok okB t → (∃ k, n = k + 1 ∧ T.Deep k t) → Gl w → Calls Tryz.prog 57 #[.slice A m c] w (Al (.string (T.idS n t)) w)
/-- The maps of tree.id on the way, behind k files. -/
def FM (g : T.Tr → ByteArray) (t : T.Tr) (w : World) (b k : Nat) (S : T.Bs → Bool) : Prop := ∃ (D : DataW Unit) (nf : Nat), w.ownsMap Tryz.prog 9 (plainElem Tryz.prog 9) b nf D ∧ nf ≤ k ∧ FilesInv g t D S
def DM (w : World) (b B k : Nat) (t : T.Tr) : Prop := ∃ (E : DataW Value) (nd : Nat) (val : T.Bs → Value), w.ownsMap Tryz.prog 9 asIs b nd E ∧ nd ≤ k ∧ DirsInv E val (T.dirOf t) ∧ RowsInv w B val t
theorem FM.kept {g : T.Tr → ByteArray} {t : T.Tr} {w w' : World} {b k : Nat} {S : T.Bs → Bool} {row : Option Nat} (h : FM g t w b k S) (hg : w.grownBy w' row) (hb : some b ≠ row) : FM g t w' b k S := by
  obtain ⟨D, nf, h1, h2⟩ := h
  exact ⟨D, nf, h1.kept hg hb, h2⟩
theorem DM.ext {w w' : World} {b B k : Nat} {t : T.Tr} (h : DM w b B k t) (he : Ext w w') : DM w' b B k t := by
  obtain ⟨E, nd, val, h1, h2, h3, h4⟩ := h
  exact ⟨E, nd, val, h1.kept he.grownNo (by simp), h2, h3, h4.ext he⟩
theorem DM.low {w w' : World} {b B k c : Nat} {t : T.Tr} (h : DM w b B k t) (hg : w.grownBy w' (some c)) (hc : c < B) (hbc : b ≠ c) : DM w' b B k t := by
  obtain ⟨E, nd, val, h1, h2, h3, h4⟩ := h
  exact ⟨E, nd, val, h1.kept hg (fun e => hbc (Option.some.inj e)), h2, h3, h4.low hg hc⟩
theorem Ext.ofGrown {w w' : World} (h : w.grownBy w' none) : Ext w w' := ⟨h.os, h.tape, h.output, h.size, fun i hi => h.block i hi (by simp)⟩
theorem RowsInv.off {w w' : World} {B : Nat} {val : T.Bs → Value} {t : T.Tr} (h : RowsInv w B val t) {b : Nat} (hg : w.grownBy w' (some b)) (hb : ∀ x g, (val x).ownBlock = some g → g ≠ b) : RowsInv w' B val t :=
  ⟨fun x => OwnAt.keep (h.own x) fun g hgx hlt => hg.block g hlt fun e => hb x g hgx (Option.some.inj e), h.apart⟩
theorem map_size {H : Type} {P : Program} {k : TypeId} {R : Value → Option (DataW H × List MemPlace)} {w : World} {b n : Nat} {D : DataW H} (h : w.ownsMap P k R b n D) : Maps.size D ≤ n := by
  obtain ⟨es, clock, _, _, hs, rfl⟩ := h
  have : Maps.size (DataW.map ((es.toList.map (WideElems.rg P k R)).foldr DataW.insert [])) = es.size := by
    show ((es.toList.map (WideElems.rg P k R)).foldr DataW.insert []).length = _
    rw [length_sorted]
    simp
  omega
/-- The files' map while the directories come. -/
def FR (g : T.Tr → ByteArray) (t : T.Tr) (w : World) (b k cnt : Nat) (left : Lit → Bool) : Prop := ∃ (D : DataW Unit) (nf : Nat), w.ownsMap Tryz.prog 9 (plainElem Tryz.prog 9) b nf D ∧ nf + cnt ≤ k ∧ FilesInv g t D fun x => T.flatOf t x || (T.dirOf t x && !left (.string x))
set_option maxRecDepth 100000 in
set_option maxHeartbeats 8000000 in
theorem tid_step (N : Nat) (IH : IdHypG N) (t : T.Tr) (A : Option Addr) (c n : Nat) (w : World) (hn : n = t.length) (hA : SliceAt fileR w (Old w) A c t) (hok : T.Ok okB t) (hdp : T.Deep N t) (hg : Gl w) :
    Calls Tryz.prog 57 #[.slice A n c] w (Al (.string (T.idS (N + 1) t)) w) := by
  obtain ⟨i0, hi, hz0, hz1, hz2⟩ := info_parts file_info
  obtain ⟨i1, hi1, hz10, hz11, hz12⟩ := info_parts str_info
  have hmm := @run_makeMap Tryz.prog
  have hn64 : n ≤ 64 := by rw [hn]; exact hok.few
  obtain ⟨Z, hZ⟩ : ∃ Z, Z = T.idS (N + 1) t := ⟨_, rfl⟩
  rw [← hZ]
  have HZ := Lib.hid hZ
  have HN := Lib.hid hn
  have HA := Lib.hid hA
  have HG := Lib.hid hg
  have HPS : Hid (∀ f ∈ t, f.1.size ≤ 128 ∧ f.2.size ≤ 65536) := fun f hf => ⟨okB_size (hok.path f hf), hok.size f hf⟩
  have HOK := Lib.hid hok
  have HDP := Lib.hid hdp
  have HIH := Lib.hid IH
  clear hZ hn hA hok hdp IH hg
  go_enter Tryz.func57, Tryz.ntmps57
  go_wp2_with fail
  go_loopw [21] (fun i wr => ∃ k : Nat, k ≤ n ∧ i = .int .i64 k ∧ Hid (FM (T.idS N) t wr w.heap.size k (T.flatOf (t.take k)) ∧ DM wr (w.heap.size + 1) (w.heap.size + 2) k (t.take k) ∧ Ext w wr)) (fun i _ => n - (intOf i).toNat)
  case atStart =>
    refine ⟨0, Nat.zero_le _, rfl, ⟨.map [], 0, (World.ownsMap_made w _ _ _).alloc _, Nat.le_refl _, FilesInv.start _ _⟩, ⟨.map [], 0, _, ?_, Nat.le_refl _, DirsInv.start, RowsInv.start _ _⟩, ((Ext.refl w).alloc _).alloc _⟩
    have := World.ownsMap_made (w.alloc (.map #[] 0)) Tryz.prog 9 (asIs)
    simpa using this
  case round =>
    obtain ⟨k, hk, rfl, HK⟩ := hrel
    by_cases hlt : k < n
    · have hkl : k < t.length := by rw [← HN.out]; exact hlt
      obtain ⟨b, off, hAe, hb, c0, c1, h1, h2⟩ := file_get (HA.out.ext HK.out.2.2) hkl
      subst hAe
      rw [← Nat.add_assoc] at c1
      obtain ⟨hps, hpd⟩ := HPS.out t[k] (List.getElem_mem hkl)
      have HCU : Hid (∀ W, Ext w W → Calls Tryz.prog 78 #[.string t[k].1, .string ⟨#[47]⟩] W fun e w' => e = .returned (.tuple #[.string (T.mkF (Lib.cut t[k].1.data.toList [47]).1), .string (T.mkF (Lib.cut t[k].1.data.toList [47]).2.1), .bool (Lib.cut t[k].1.data.toList [47]).2.2]) ∧ Ext W w') := fun W hW => by
        obtain ⟨⟨m, hm⟩, _⟩ := HG.out.ext hW
        refine (Tryz.strings_Cut t[k].1 ⟨#[47]⟩ m W (by omega) hm).mono ?_
        rintro e w' ⟨he, q, rfl⟩
        exact ⟨he, (Ext.refl W).drewN q⟩
      have hcut := cut_one t[k].1.data.toList
      have HFM := Lib.hid HK.out.1
      have HDM := Lib.hid HK.out.2.1
      have HX := Lib.hid HK.out.2.2
      clear HK
      cases hd : T.deepP t[k].1.data.toList
      · rw [hd, if_neg (by simp)] at hcut
        rw [hcut] at HCU
        have HFS : Hid (∀ x, T.flatOf (t.take (k + 1)) x = (T.flatOf (t.take k) x || decide (t[k].1.data.toList = x))) := fun x => by
          have := T.flatOf_snoc hkl x
          rw [show T.pth t[k] = t[k].1.data.toList from rfl, hd] at this
          rw [this]
          simp
        have HDS : Hid (∀ x, T.dirOf (t.take (k + 1)) x = T.dirOf (t.take k) x) := fun x => by
          have := T.dirOf_snoc hkl x
          rw [show T.pth t[k] = t[k].1.data.toList from rfl, hd] at this
          rw [this]
          simp
        have HSS : Hid (∀ x, T.dsub (t.take (k + 1)) x = T.dsub (t.take k) x) := fun x => T.dsub_miss hkl (by rw [show T.pth t[k] = t[k].1.data.toList from rfl, hd]; simp)
        have HVA : Hid (T.valT (T.idS N) t t[k].1.data.toList = fidB t[k].2) := T.flat_val HOK.out.sorted (List.getElem_mem hkl) _
        have HFI : Hid (∀ W, Calls Tryz.prog 68 #[.string t[k].2] W (Al (.string (fidB t[k].2)) W)) := fun W => fileID_any t[k].2 W (by omega)
        have hmk : T.mkF t[k].1.data.toList = t[k].1 := T.mkF_eq _
        rw [hmk] at HCU
        have hfz : (fidB t[k].2).size ≤ 9223372036854775807 := by rw [fidB_size]; decide
        clear hcut hd hmk
        generalize t[k] = f at *
        obtain ⟨fp, fd⟩ := f
        simp only at c0 c1 h1 h2 hps hpd HCU HFS HVA HFI
        generalize fidB fd = vv at *
        go_wp2_with fail
        refine (HCU.out _ (HX.out.alloc _)).mono ?_
        rintro e w5 ⟨rfl, d5⟩
        have e1 := d5.keepc (cell_new wr #[.string fp, .string fd] 25 1)
        go_wp2_with fail
        refine (HFI.out _).mono ?_
        rintro e w6 ⟨rfl, d6⟩
        have HE6 : Hid (Ext wr w6) := ((Ext.refl wr).alloc _).trans (d5.trans d6)
        obtain ⟨D, nf, hown, hnf, hin⟩ := HFM.out
        have hown6 := hown.kept HE6.out.grownNo (by simp)
        clear d5 d6 e1
        go_wp2_with (at_mapUpdate; refine wpList_mapUpdate_own _ rfl (.tmp 44) (.tmp 45) (.tmp 48) 87 rfl 9 9 law9 Tryz.underlying87 _ _ nf D rfl hown6 (by unfold maxLen; omega) _ _ _ rfl rfl (key9 h1) (.lit (.string vv.data.toList)) [] (plainElem_string Tryz.underlying9 hfz) ?_; intro w7 hown7 hg7)
        go_roundw
        case rel =>
          refine ⟨k + 1, by omega, by go_num, ⟨_, nf + 1, hown7, by omega, ?_⟩, ?_, ?_⟩
          · have := hin.put fp.data.toList
            rw [HVA.out] at this
            exact this.congr HFS.out
          · have h3 := (HDM.out.ext HE6.out).low hg7 (by omega) (by omega)
            obtain ⟨E, nd, val, g1, g2, g3, g4⟩ := h3
            exact ⟨E, nd, val, g1, by omega, ⟨g3.map, fun x => by rw [g3.has, HDS.out], g3.at'⟩, ⟨fun x => by rw [HSS.out]; exact g4.own x, g4.apart⟩⟩
          · exact (HX.out.trans HE6.out).grownNew (Nat.le_refl _) hg7
        case measure => simp [intOf]; omega
      · rw [hd, if_pos rfl] at hcut
        rw [hcut] at HCU
        have HFS : Hid (∀ x, T.flatOf (t.take (k + 1)) x = T.flatOf (t.take k) x) := fun x => by
          have := T.flatOf_snoc hkl x
          rw [show T.pth t[k] = t[k].1.data.toList from rfl, hd] at this
          rw [this]
          simp
        have HDS : Hid (∀ x, T.dirOf (t.take (k + 1)) x = (T.dirOf (t.take k) x || decide (T.fstP t[k].1.data.toList = x))) := fun x => by
          have := T.dirOf_snoc hkl x
          rw [show T.pth t[k] = t[k].1.data.toList from rfl, hd] at this
          rw [this]
          simp
        have HSS : Hid (∀ x, x ≠ T.fstP t[k].1.data.toList → T.dsub (t.take (k + 1)) x = T.dsub (t.take k) x) := fun x hx => T.dsub_miss hkl (by rw [show T.pth t[k] = t[k].1.data.toList from rfl, hd]; simp; exact fun e => hx e.symm)
        have HSH : Hid (T.dsub (t.take (k + 1)) (T.fstP t[k].1.data.toList) = T.dsub (t.take k) (T.fstP t[k].1.data.toList) ++ [(T.mkF (t[k].1.data.toList.drop ((T.fstP t[k].1.data.toList).length + 1)), t[k].2)]) := T.dsub_hit hkl hd
        have hxl : (T.fstP t[k].1.data.toList).length ≤ 128 := by
          have h3 := List.IsPrefix.length_le (List.takeWhile_prefix (fun b : UInt8 => b != 47) (l := t[k].1.data.toList))
          have h4 : t[k].1.data.toList.length = t[k].1.size := Array.length_toList
          unfold T.fstP
          omega
        have HDL : Hid (∀ x, (T.dsub (t.take k) x).length ≤ k) := fun x => Nat.le_trans (List.length_filterMap_le _ _) (by rw [List.length_take]; omega)
        clear hcut hd
        generalize t[k] = f at *
        obtain ⟨fp, fd⟩ := f
        simp only at c0 c1 h1 h2 hps hpd HCU HDS HSS HSH hxl
        generalize T.fstP fp.data.toList = x at *
        generalize T.mkF (List.drop (x.length + 1) fp.data.toList) = rp at *
        have hxs : (T.mkF x).size ≤ 9223372036854775807 := by
          have e : (T.mkF x).size = x.length := by simp [T.mkF, ByteArray.size]
          rw [e]; omega
        have HKY : Hid (keyOf Tryz.prog 9 (.string (T.mkF x)) = some (.string x)) := by
          have := key9 hxs
          rwa [T.mkF_data] at this
        go_wp2_with fail
        refine (HCU.out _ (HX.out.alloc _)).mono ?_
        rintro e w5 ⟨rfl, d5⟩
        have e1 := d5.keepc (cell_new wr #[.string fp, .string fd] 25 1)
        have HE5 : Hid (Ext wr w5) := ((Ext.refl wr).alloc _).trans d5
        obtain ⟨E, nd, val, hown, hnd, hin, hrows⟩ := HDM.out.ext HE5.out
        obtain ⟨v, ps, hrun, hRv⟩ := hown.lookup law9 Tryz.underlying88 (zero23 w5) (zd := .held (.slice none 0 0)) (zp := []) rfl HKY.out
        have hv : v = val x := by
          unfold asIs at hRv
          rw [hin.at'] at hRv
          cases hRv
          rfl
        subst hv
        have hrx := hrows.own x
        obtain ⟨q, Ao, co, hq, hve, hro⟩ := own_files_q hrx
        have HQ : Hid (q = (T.dsub (t.take k) x).length) := hq
        have hql : q ≤ 64 := by rw [hq]; have := HDL.out x; omega
        rw [hve] at hrun
        have HVE := Lib.hid hve
        have HIN := Lib.hid hin
        have HRW := Lib.hid hrows
        have HOW := Lib.hid hown
        have HLO : Hid (w.heap.size + 2 ≤ w5.heap.size) := by
          have h3 : w.heap.size + 1 < w5.heap.size := HOW.out.lt
          unfold Hid
          omega
        clear hve hin hrows hown hq hrx d5 hRv
        go_wp2_with (first | (at_builtin; refine wpList_append_ownAt _ rfl (.tmp 37) (.tmp 42) 23 rfl (w.heap.size + 2) 25 i0 (.agg #[.string ⟨#[]⟩, .string ⟨#[]⟩]) 2 32 Tryz.underlying23 hi hz0 hz1 hz2 rfl (by decide) _ _ _ rfl (hro.alloc _) ⟨_, 0, none⟩ 1 1 (fcells [(rp, fd)]) rfl rfl (cells_file_at _ _ _ _ (by simp)) (fcells_one _) (by unfold maxLen; omega) (by omega) (by have := HLO.out; simp; omega) (by decide) ?_; intro v6 w6 hown6 hg6 hold6 hv6) | (at_mapUpdate; refine wpList_mapUpdate_own _ rfl (.tmp 33) (.tmp 34) (.tmp 43) 88 rfl 9 23 law9 Tryz.underlying88 asIs _ nd E rfl ((HOW.out.alloc _).kept hg6 (fun e => by have := (own_at_lt hro e.symm).1; omega)) (by unfold maxLen; omega) _ _ _ rfl rfl HKY.out (.held v6) [] rfl ?_; intro w7 hown7 hg7))
        go_roundw
        case rel =>
          have hrb : ∀ g, (val x).ownBlock = some g → w.heap.size + 2 ≤ g ∧ g < w5.heap.size := fun g hg => by rw [HVE.out] at hg; exact own_at_lt hro hg
          have hg6' : (w5.alloc (.cells #[.string rp, .string fd] 25)).grownBy w6 (val x).ownBlock := by rw [HVE.out]; exact hg6
          have hfm6 : FM (T.idS N) t w6 w.heap.size k (T.flatOf (t.take k)) := ((HFM.out.kept HE5.out.grownNo (by simp)).kept ((Ext.refl w5).alloc (.cells #[.string rp, .string fd] 25)).grownNo (by simp)).kept hg6' (fun e => by have := (hrb _ e.symm).1; omega)
          have hrw6 : RowsInv w6 (w.heap.size + 2) (fun z => if z = x then v6 else val z) (t.take (k + 1)) := by
            refine (HRW.out.ext ((Ext.refl w5).alloc (.cells #[.string rp, .string fd] 25))).grow x v6 hg6' ?_ (fun z hz => HSS.out z hz) ?_
            · rw [HSH.out]
              exact own_files_snoc HQ.out hown6
            · rcases hv6 with h3 | ⟨g, h3, h4, _⟩
              · exact .inl (by rw [h3, HVE.out]; rfl)
              · exact .inr ⟨g, h3, h4⟩
          refine ⟨k + 1, by omega, by go_num, ?_, ⟨_, nd + 1, _, hown7, by omega, ?_, hrw6.low hg7 (by omega)⟩, ?_⟩
          · obtain ⟨D, nf, g1, g2, g3⟩ := hfm6.kept hg7 (fun e => by have := Option.some.inj e; omega)
            exact ⟨D, nf, g1, by omega, g3.congr HFS.out⟩
          · have h3 := HIN.out.put x v6
            exact ⟨h3.map, fun z => by rw [h3.has, HDS.out], h3.at'⟩
          · have h3 : Ext w w6 := (((HX.out.trans HE5.out).alloc _).grown (hold6.mono (by omega)) hg6)
            exact h3.grownNew (by omega) hg7
        case measure => simp [intOf]; omega
    · obtain rfl : k = n := by omega
      have htk : t.take k = t := by rw [HN.out, List.take_length]
      obtain ⟨hf1, hd1, hx1⟩ := HK.out
      rw [htk] at hf1 hd1
      obtain ⟨W1, rfl⟩ : ∃ W, W = wr := ⟨wr, rfl⟩
      obtain ⟨E, nd, val, hown, hnd, hin, hrows⟩ := hd1
      have HX := Lib.hid hx1
      have HIN := Lib.hid hin
      have hnk : Maps.size E ≤ 64 := by have := map_size hown; omega
      have HFR : Hid (FR (T.idS N) t W1 w.heap.size 128 (Maps.size E) (Maps.has E)) := by
        obtain ⟨D, nf, g1, g2, g3⟩ := hf1
        refine ⟨D, nf, g1, by omega, g3.congr fun x => ?_⟩
        rw [HIN.out.has]
        cases T.flatOf t x <;> cases T.dirOf t x <;> rfl
      have HRW := Lib.hid hrows
      have HRL : Hid (∀ x g, (val x).ownBlock = some g → w.heap.size + 2 ≤ g ∧ g < W1.heap.size) := fun x g hg => own_at_lt (HRW.out.own x) hg
      have HLT : Hid (w.heap.size + 1 < W1.heap.size) := hown.lt
      clear hf1 hx1 hin htk HK hrows
      go_wp2_with (at_range; refine wpList_range_own _ rfl (.tmp 50) 88 rfl 9 23 law9 Tryz.underlying88 asIs _ nd E rfl hown ?_; intro w0 hrg0 hg0 hs0)
      go_frame
      have HF0 : Hid (FR (T.idS N) t w0 w.heap.size 128 (Maps.size E) (Maps.has E)) := by
        obtain ⟨D, nf, g1, g2⟩ := HFR.out
        exact ⟨D, nf, g1.kept hg0 (by simp), g2⟩
      have HX0 : Hid (Ext W1 w0) := Ext.ofGrown hg0
      clear hown HFR
      go_loopw [53] (fun _ wi => ∃ (left : Lit → Bool) (cnt : Nat), wi.ranges Tryz.prog 9 asIs (w.heap.size + 1) W1.heap.size nd E left cnt ∧ Hid (FR (T.idS N) t wi w.heap.size 128 cnt left ∧ RowsInv wi (w.heap.size + 2) val t ∧ Ext w wi ∧ W1.heap.size ≤ wi.heap.size)) (fun _ wi => wi.rangeLeft (w.heap.size + 1) W1.heap.size)
      case atStart => exact ⟨_, _, hrg0, HF0.out, HRW.out.ext HX0.out, HX.out.trans HX0.out, HX0.out.size⟩
      case round =>
        obtain ⟨left, cnt, hrg, HS⟩ := hrel
        clear hrg0 hg0 hs0 HF0 HX0
        go_wp2_with (at_next; refine wpList_next_ranges _ rfl (.tmp 51) rfl 9 law9 asIs (α := T.Bs) (β := Value) encStr id (fun key kl hk => by obtain ⟨x, hx, _⟩ := Go.Maps.keyOf_str Tryz.underlying9 hk; exact ⟨x, hx⟩) (fun v _ _ => ⟨v, rfl⟩) _ _ nd E left cnt rfl hrg ?_ ?_)
        · intro hc0 hl0
          have hfr := HS.out.1
          have hxw := HS.out.2.2.1
          obtain ⟨D, nf, hfown, hnf, hfin⟩ := hfr
          have hhas : ∀ x, Maps.has D (.string x) = (T.flatOf t x || T.dirOf t x) := fun x => by rw [hfin.has, hl0]; simp
          have hvalD : ∀ x ∈ T.names t, ∀ zd, D.atKey (.string x) zd = .lit (.string (T.valT (T.idS N) t x).data.toList) := fun x hx zd => hfin.val x (by rw [hl0]; have := (T.names_is t x).1 hx; simpa using this) zd
          have HVD := Lib.hid hvalD
          have HHAS := Lib.hid hhas
          have HFO := Lib.hid hfown
          have HXW := Lib.hid hxw
          have hsz1 : Maps.size D ≤ 1000 := by have := map_size hfown; omega
          have HZ2 : Hid (Z = dig (⟨#[100]⟩ ++ mkB (txsL (T.listK (T.idS N) t (T.names t))))) := by unfold Hid; rw [HZ.out, T.idS]
          have HKE := Lib.hid (Keys_any w.heap.size wr)
          have HSO := Lib.hid (Sorted_any w.heap.size nf D _ wr hfown hsz1)
          clear hfown hfin hhas hvalD hnf HZ hl0 hc0 hxw hrg
          go_wp2_with fail
          refine HKE.out.mono ?_
          rintro e w3 ⟨rfl, rfl⟩
          go_wp2_with fail
          refine HSO.out.mono ?_
          rintro e w4 ⟨v, ss, rfl, hperm, hown4, hx4⟩
          have hnm := keys_names HFO.out HHAS.out hperm
          rw [hnm] at hown4
          have hlen : ss.length = (T.names t).length := by rw [← hnm, List.length_mergeSort]
          have hon : OwnN w4 wr.heap.size v (T.names t) := by
            unfold OwnN
            rw [← hlen]
            exact hown4
          obtain ⟨q, Ao, co, hq, rfl, hqc, hc63, hown', hcl⟩ := hon.cells
          obtain ⟨L, hL⟩ : ∃ L, L = T.names t := ⟨_, rfl⟩
          have HMM : Hid (∀ y ∈ L, nameB y = true ∧ y ∈ T.names t) := fun y hy => by rw [hL] at hy; exact ⟨T.names_ok HOK.out hy, hy⟩
          have hqk : q ≤ 64 := by rw [hq]; have := T.namesK_length t t.length; have := HN.out; unfold T.names; omega
          rw [← hL] at hq hcl HZ2
          have HQ := Lib.hid hq
          have HCL := Lib.hid hcl
          have HX4 := Lib.hid hx4
          clear hown4 hon hown' hq hcl hL hnm hlen hperm hx4 HSO HKE
          obtain ⟨W2, rfl⟩ : ∃ W, W = wr := ⟨wr, rfl⟩
          go_wp2_with fail
          go_loopw [65, 12] (fun i v wi => ∃ j : Nat, j ≤ q ∧ i = .int .i64 j ∧ OwnStrs wi w4.heap.size v (T.listK (T.idS N) t (L.take j)) ∧ Hid (Ext w4 wi)) (fun i _ _ => q - (intOf i).toNat)
          case atStart => exact ⟨0, Nat.zero_le _, rfl, own_strs_nil _ _, Ext.refl _⟩
          case round =>
            obtain ⟨j, hj, rfl, hos, HE⟩ := hrel
            by_cases hjq : j < q
            · have hjl : j < L.length := by rw [← HQ.out]; exact hjq
              obtain ⟨gn, on, hAo, hcn⟩ := HCL.out j hjl
              subst hAo
              have cn := hcn _ HE.out
              obtain ⟨hnb, hym⟩ := HMM.out L[j] (List.getElem_mem hjl)
              obtain ⟨hyp, hyc, hyne, hyl⟩ := T.name_path hnb
              have HSN : Hid (T.listK (T.idS N) t (L.take (j + 1)) = T.listK (T.idS N) t (L.take j) ++ [T.mkF L[j], T.valT (T.idS N) t L[j]]) := by unfold Hid; rw [List.take_succ_eq_append_getElem hjl, T.listK_snoc]
              have hll : (T.listK (T.idS N) t (L.take j)).length ≤ 128 := by rw [T.listK_length, List.length_take]; omega
              have hysz : (T.mkF L[j]).size ≤ 9223372036854775807 := by
                have e : (T.mkF L[j]).size = L[j].length := by simp [T.mkF, ByteArray.size]
                rw [e]; omega
              have hval := HVD.out L[j] hym
              clear hcn hnb hyp hyc hyne
              generalize L[j] = y at *
              have hky := key9 hysz
              rw [T.mkF_data] at hky
              have hzero : ∀ W : World, (zeroValue 9).run Tryz.prog W = .ok (.string ⟨#[]⟩) W := fun W => by kernel_rfl
              obtain ⟨vv, ps, hrun, hRv⟩ := (HFO.out.kept (HX4.out.trans HE.out).grownNo (by simp)).lookup law9 Tryz.underlying87 (hzero wr) (plainElem_string (H := Unit) Tryz.underlying9 (s := ⟨#[]⟩) (by decide)) hky
              rw [hval] at hRv
              obtain ⟨s, rfl, hs2, hs3⟩ := plainElem_string_inv Tryz.underlying9 hRv
              have hsv : s = T.valT (T.idS N) t y := by
                have h5 : (T.valT (T.idS N) t y).data.toList = s.data.toList := by
                  have h6 := congrArg Prod.fst hs2
                  simp only [DataW.lit.injEq, Lit.string.injEq] at h6
                  exact h6
                rw [← T.mkF_eq s, ← T.mkF_eq (T.valT (T.idS N) t y), h5]
              subst hsv
              obtain ⟨q2, A2, c2, hq2, rfl, hos2⟩ : ∃ q2 A2 c2, q2 = (T.listK (T.idS N) t (L.take j)).length ∧ u12 = .slice A2 q2 c2 ∧ OwnAt wr w4.heap.size 9 1 (.slice A2 q2 c2) q2 (strs (T.listK (T.idS N) t (L.take j))) := by
                obtain ⟨A', c', e, _⟩ := StrsAt.of_own hos
                exact ⟨_, A', c', rfl, e, by rw [← e]; exact hos⟩
              have hq2l : q2 ≤ 128 := by rw [hq2]; exact hll
              have HQ2 := Lib.hid hq2
              clear hos hq2 hll hval hRv hs2 hky hzero
              generalize T.valT (T.idS N) t y = val2 at *
              go_wp2_with (at_builtin; refine wpList_append_ownAt _ rfl (.tmp 69) (.tmp 74) 43 rfl w4.heap.size 9 i1 (.string ⟨#[]⟩) 1 16 Tryz.underlying43 hi1 hz10 hz11 hz12 rfl (by decide) _ _ _ rfl (hos2.alloc _) ⟨_, 0, none⟩ 2 2 (strs [T.mkF y, val2]) rfl rfl (cells_new_strs wr [T.mkF y, val2]) (strs_one _) (by unfold maxLen; omega) (by omega) (Nat.le_trans HE.out.size (by simp)) (by decide) ?_; intro v5 w5 hown5 hg5 hold5 _)
              go_roundw
              case rel =>
                refine ⟨j + 1, by omega, by go_num, ?_, (HE.out.alloc _).grown hold5 hg5⟩
                rw [HSN.out]
                unfold OwnStrs
                rw [List.length_append, ← HQ2.out, strs_append]
                exact hown5
              case measure => simp [intOf]; omega
            · obtain rfl : j = q := by omega
              have htl : L.take j = L := by rw [HQ.out, List.take_length]
              rw [htl] at hos
              obtain ⟨A2, c2, rfl, hss⟩ := StrsAt.of_own hos
              have HTX : Hid (∀ W, Ext wr W → TxsAt W A2 (T.listK (T.idS N) t L)) := fun W hW i hi => by
                obtain ⟨b, off, e, hc⟩ := hss.2.2 i hi
                exact ⟨b, off, e, hc W hW⟩
              have hll : (T.listK (T.idS N) t L).length ≤ 1024 := by rw [T.listK_length]; have := HQ.out; omega
              have hls : ∀ s ∈ T.listK (T.idS N) t L, s.size ≤ 65536 := fun s hs => by
                obtain ⟨y, hy, h3 | h3⟩ := T.mem_listK hs
                · obtain ⟨_, _, _, hyl⟩ := T.name_path (HMM.out y hy).1
                  have e : (T.mkF y).size = y.length := by simp [T.mkF, ByteArray.size]
                  rw [h3, e]; omega
                · rw [h3]
                  have := T.valT_size (T.idS_size N) t y
                  omega
              have HXF : Hid (Ext w wr) := HXW.out.trans (HX4.out.trans HE.out)
              have HTS : Hid (∀ W, Ext wr W → Calls Tryz.prog 81 #[.slice A2 (T.listK (T.idS N) t L).length c2] W (Al (.tuple #[.string (mkB (txsL (T.listK (T.idS N) t L))), .int .i64 0]) W)) := fun W hW => Texts_any _ A2 _ c2 W rfl (HTX.out W hW) hll hls (HG.out.ext (HXF.out.trans hW))
              have hsz : (mkB (txsL (T.listK (T.idS N) t L))).size ≤ 103000000 := by
                have h3 := txsK_le _ hls hll _ (Nat.le_refl _)
                rw [txsK_end] at h3
                have e : (mkB (txsL (T.listK (T.idS N) t L))).size = (txsL (T.listK (T.idS N) t L)).length := by simp [mkB, ByteArray.size]
                rw [e]
                have := Nat.mul_le_mul_right 100000 hll
                omega
              clear hss hos htl hls
              generalize (T.listK (T.idS N) t L).length = ln at *
              generalize mkB (txsL (T.listK (T.idS N) t L)) = S at *
              have hs1 : ((⟨#[100]⟩ : ByteArray) ++ S).size = 1 + S.size := by rw [ByteArray.size_append]; rfl
              have HSM : Hid (∀ W, Calls Tryz.prog 82 #[.string (⟨#[100]⟩ ++ S)] W (Al (.string Z) W)) := fun W => by
                have h3 := dSum_any (⟨#[100]⟩ ++ S) W (by rw [hs1]; omega)
                rw [← dig_is] at h3
                rw [HZ2.out]
                exact h3
              clear HZ2 HTX
              go_wp2_with fail
              refine (HTS.out _ (Ext.refl _)).mono ?_
              rintro e w5 ⟨rfl, d5⟩
              go_wp2_with fail
              refine (HSM.out _).mono ?_
              rintro e w6 ⟨rfl, d6⟩
              go_wp2_with fail
              go_ret
              exact ⟨rfl, (HXF.out.trans d5).trans d6⟩
        · intro x c kl yd yp w2 cnt2 hkey hlk hv hat hrg2 hlt2 hg2 hs2 hen
          obtain ⟨x', ex, rfl, hxl⟩ := Go.Maps.keyOf_str Tryz.underlying9 hkey
          obtain rfl : x = x' := Go.encStr_inj ex
          have hvx : val x = c := by
            have h3 := hat (.held (.slice none 0 0))
            rw [HIN.out.at'] at h3
            unfold asIs at hv
            cases hv
            cases h3
            rfl
          have hdx : T.dirOf t x = true := by rw [← HIN.out.has]; exact has_true_of_atKey hat
          subst hvx
          obtain ⟨hval, hclean⟩ := T.dir_val HOK.out hdx (T.idS N)
          obtain ⟨hfr, hrw, hxw, hsz⟩ := HS.out
          have hrw2 := hrw.off hg2 fun z g hg => by have := (HRL.out z g hg).2; omega
          have hds : T.dsub t x = T.subT t x := T.dsub_sub hclean
          have hox := hrw2.own x
          rw [hds] at hox
          have HSUB : Hid (T.Ok okB (T.subT t x)) := T.sub_ok HOK.out hclean
          obtain ⟨As, cs, hve, hss⟩ := own_files_slice hox fun f hf => ⟨by have := okB_size (HSUB.out.path f hf); omega, by have := HSUB.out.size f hf; omega⟩
          have HDS : Hid (∃ kk, N = kk + 1 ∧ T.Deep kk (T.subT t x)) := by
            cases hN : N with
            | zero =>
              exfalso
              have h3 := HDP.out
              rw [hN] at h3
              have ht := T.deep_zero h3
              rw [ht] at hdx
              cases hdx
            | succ kk => exact ⟨kk, rfl, T.deep_sub (by rw [← hN]; exact HDP.out) hclean⟩
          have HGL : Hid (Gl w2) := HG.out.ext (hxw.grownNew (by have := HLT.out; omega) hg2)
          have HRC : Hid (Calls Tryz.prog 57 #[.slice As (T.subT t x).length cs] w2 (Al (.string (T.idS N (T.subT t x))) w2)) := HIH.out _ As cs _ w2 rfl hss HSUB.out HDS.out HGL.out
          have hvsz := T.idS_size N (T.subT t x)
          have HVE := Lib.hid hve
          have hkx : encStr x = .string (T.mkF x) := rfl
          have HEN : Hid ((Instr.entry (.pointer (some ⟨W1.heap.size, 0, none⟩))).run Tryz.prog w2 = .ok (.tuple #[.string (T.mkF x), .slice As (T.subT t x).length cs]) w2) := by
            unfold Hid
            rw [hve, hkx] at hen
            exact hen
          have HVAL := Lib.hid hval
          have HDX := Lib.hid hdx
          have HRG2 := Lib.hid hrg2
          have HRG := Lib.hid hrg
          have HRW2 := Lib.hid hrw2
          have HFR2 : Hid (FR (T.idS N) t w2 w.heap.size 128 cnt left) := by
            obtain ⟨D, nf, g1, g2⟩ := hfr
            exact ⟨D, nf, g1.kept hg2 (fun e => by have := Option.some.inj e; have := HLT.out; omega), g2⟩
          have HX2 : Hid (Ext w w2) := hxw.grownNew (by have := HLT.out; omega) hg2
          have HSZ : Hid (W1.heap.size ≤ w2.heap.size) := by unfold Hid; omega
          rw [hve, hkx]
          clear hen hkey hlk hv hat hrg2 hg2 hs2 hval hdx hfr hrw hxw hsz hrw2 hox hss hds hve ex hkx hrg
          generalize (T.subT t x).length = sl at *
          generalize T.idS N (T.subT t x) = vv at *
          have henn := HEN.out
          go_wp2_with fail
          refine HRC.out.mono ?_
          rintro e w3 ⟨rfl, d3⟩
          obtain ⟨D, nf, hfown, hnf, hfin⟩ := HFR2.out
          have hfown3 := hfown.kept d3.grownNo (by simp)
          have hxs : (T.mkF x).size ≤ 9223372036854775807 := by
            have e : (T.mkF x).size = x.length := by simp [T.mkF, ByteArray.size]
            rw [e]; unfold maxLen at hxl; omega
          have HKY : Hid (keyOf Tryz.prog 9 (.string (T.mkF x)) = some (.string x)) := by
            have := key9 hxs
            rwa [T.mkF_data] at this
          have HD3 := Lib.hid d3
          clear d3
          go_wp2_with (at_mapUpdate; refine wpList_mapUpdate_own _ rfl (.tmp 57) (.tmp 58) (.tmp 60) 87 rfl 9 9 law9 Tryz.underlying87 _ _ nf D rfl hfown3 (by unfold maxLen; omega) _ _ _ rfl rfl HKY.out (.lit (.string vv.data.toList)) [] (plainElem_string Tryz.underlying9 (by unfold maxLen; omega)) ?_; intro w4 hown4 hg4)
          have hrg4 := (HRG2.out.kept HD3.out.grownNo (by simp) (by simp)).kept hg4 (fun e => by have := Option.some.inj e; omega) (fun e => by have := Option.some.inj e; have := HLT.out; omega)
          go_frame
          go_roundw
          case rel =>
            refine ⟨_, cnt2, hrg4, ⟨_, nf + 1, hown4, by omega, ?_⟩, ?_, ?_, ?_⟩
            · have h3 := hfin.put x
              rw [HVAL.out] at h3
              refine h3.congr fun z => ?_
              show (T.flatOf t z || T.dirOf t z && !(left (Lit.string z) && !(Lit.string z).sameKey (Lit.string x))) = _
              rw [same_lit]
              by_cases hzx : z = x
              · subst hzx; rw [HDX.out]; simp
              · rw [decide_eq_false hzx, decide_eq_false fun e => hzx e.symm]; simp
            · exact (HRW2.out.ext HD3.out).low hg4 (by omega)
            · exact (HX2.out.trans HD3.out).grownNew (Nat.le_refl _) hg4
            · have h3 := HD3.out.size; have h4 := hg4.size; have h5 := HSZ.out; omega
          case measure =>
            rw [hrg4.left_eq, HRG.out.left_eq]
            omega
end Go.Proofs.YtclhbcicbnoohaaGreatDoor

/- tree.ID. -/
namespace Go.Proofs.YtclhbcicbnoohaaGreatDoor
open Go.RowKit

theorem tid_any : ∀ (N : Nat) (t : T.Tr) (A : Option Addr) (c n : Nat) (w : World), n = t.length → SliceAt fileR w (Old w) A c t → T.Ok okB t → T.Deep N t → Gl w →
    Calls Tryz.prog 57 #[.slice A n c] w (Al (.string (T.idS (N + 1) t)) w)
  | 0, t, A, c, n, w, hn, hA, hok, hdp, hg => tid_step 0 (fun _ _ _ _ _ _ _ _ h => by obtain ⟨k, hk, _⟩ := h; cases hk) t A c n w hn hA hok hdp hg
  | N + 1, t, A, c, n, w, hn, hA, hok, hdp, hg => tid_step (N + 1) (fun t' A' c' n' w' hn' hA' hok' h hg' => by
      obtain ⟨k, hk, hd⟩ := h
      cases hk
      exact tid_any N t' A' c' n' w' hn' hA' hok' hd hg') t A c n w hn hA hok hdp hg
set_option maxRecDepth 100000 in
theorem ID_any (t : T.Tr) (A : Option Addr) (c n : Nat) (w : World) (hn : n = t.length) (hA : SliceAt fileR w (Old w) A c t) (hp : ∀ f ∈ t, f.1.size ≤ 1000000) (hg : Gl w) :
    Calls Tryz.prog 26 #[.slice A n c] w (Al (idV t) w) := by
  have hck : Hid (Calls Tryz.prog 24 #[.slice A n c] w (Al (.int .i64 (T.checkE okB t)) w)) := Check_any t A c n w hn hA hp hg
  obtain ⟨Z, hZ⟩ : ∃ Z, Z = idV t := ⟨_, rfl⟩
  rw [← hZ]
  by_cases h0 : T.checkE okB t = 0
  · rw [h0] at hck
    have hok := checkE_ok h0
    have HID : Hid (∀ W, Ext w W → Calls Tryz.prog 57 #[.slice A n c] W (Al (.string (T.idT t)) W)) := fun W hW => tid_any 8 t A c n W hn (hA.ext hW) hok (T.deep_ok hok) (hg.ext hW)
    have HF : Hid (Z = .tuple #[.string (T.idT t), .int .i64 0]) := by unfold Hid; rw [hZ, idV, T.idE, if_neg (by rw [h0]; simp)]
    generalize T.idT t = r at HID HF
    clear hZ hn hA hp h0 hok hg
    go_enter Tryz.func26, Tryz.ntmps26
    go_wp2_with fail
    refine hck.out.mono ?_
    rintro e w1 ⟨rfl, d1⟩
    go_wp2_with fail
    refine (HID.out _ d1).mono ?_
    rintro e w2 ⟨rfl, d2⟩
    go_wp2_with fail
    go_ret2
    exact ⟨by rw [HF.out]; rfl, d1.trans d2⟩
  · have HF : Hid (Z = .tuple #[.string ⟨#[]⟩, .int .i64 1]) := by unfold Hid; rw [hZ, idV, T.idE, if_pos h0]
    have hd : ((T.checkE okB t) == 0) = false := by simp [h0]
    generalize T.checkE okB t = x at hck h0 hd
    have hd2 : (!(x == 0)) = true := by rw [hd]; rfl
    clear hZ hn hA hp hg
    go_enter Tryz.func26, Tryz.ntmps26
    go_wp2_with fail
    refine hck.out.mono ?_
    rintro e w1 ⟨rfl, d1⟩
    go_wp2_with fail
    go_ret2
    exact ⟨by rw [HF.out]; rfl, d1⟩
end Go.Proofs.YtclhbcicbnoohaaGreatDoor

/- Lines of a file: tree.Lines and the reference's. -/
namespace Go.Proofs.YtclhbcicbnoohaaGreatDoor
open Go.RowKit

theorem splitB_parts (c : UInt8) (s : ByteArray) : Lib.splitB ⟨#[c]⟩ 0 (Lib.countB s ⟨#[c]⟩) s = partsB c s := by
  have h := Seg.splitB_segs c s
  unfold partsB
  rw [← h, List.map_map]
  have : (mkB ∘ fun x : ByteArray => x.data.toList) = id := funext fun x => by cases x; rfl
  rw [this, List.map_id]
theorem split_count (c : UInt8) (s : ByteArray) : Lib.countB s ⟨#[c]⟩ + 1 = (partsB c s).length := by
  rw [← splitB_parts]
  exact (split_len ⟨#[c]⟩ (Nat.le_refl 1) _ s rfl).symm
/-- The lines of a file, and an error. -/
def linesE (s : ByteArray) : List ByteArray × Int := if 65536 < s.size ∨ 1024 < (partsB 10 s).length then ([], 10) else (partsB 10 s, 0)
def RetL (w : World) (r : List ByteArray × Int) (e : Ending) (w' : World) : Prop := ∃ v, e = .returned (.tuple #[v, .int .i64 r.2]) ∧ OwnStrs w' w.heap.size v r.1 ∧ Ext w w'
theorem split_any (s : ByteArray) (c : UInt8) (w : World) (hs : s.size ≤ 1000000000) (hg : Gl w) : Calls Tryz.prog 58 #[.string s, .string ⟨#[c]⟩] w (RetStrs w (partsB c s)) := by
  obtain ⟨⟨m, hm⟩, _⟩ := hg
  refine (Tryz.strings_Split s ⟨#[c]⟩ m w (by omega) hm (Nat.le_refl 1)).mono ?_
  rintro e w' ⟨rfl, rfl⟩
  rw [splitB_parts]
  have hl : Lib.countB s ⟨#[c]⟩ + 1 = (partsB c s).length := (split_count c s)
  rw [hl]
  refine ⟨_, rfl, ⟨by simp [strs], .inr ⟨w.heap.size, 0, (partsB c s).length, _, rfl, Nat.le_refl _, heap_alloc_new _ _, Nat.le_refl _, ?_, by simp, fun j hj => by simp [strs]⟩⟩, (Ext.refl w).alloc _⟩
  have h1 : (partsB c s).length ≤ s.size + 1 := by
    unfold partsB
    rw [List.length_map]
    have h2 : ∀ l : List UInt8, (Seg.segs c l).length ≤ l.length + 1 := by
      intro l
      induction l with
      | nil => simp [Seg.segs]
      | cons a l ih =>
        rw [Seg.segs_cons]
        split
        · simp; omega
        · split
          · rename_i h3; rw [h3] at ih; simp at ih ⊢; omega
          · simp
    have h3 : s.data.toList.length = s.size := Array.length_toList
    have := h2 s.data.toList
    omega
  omega
set_option maxRecDepth 100000 in
theorem Lines_any (s : ByteArray) (w : World) (hs : s.size ≤ 1000000000) (hg : Gl w) : Calls Tryz.prog 31 #[.string s] w (RetL w (linesE s)) := by
  have HSP : Hid (∀ W, Ext w W → Calls Tryz.prog 58 #[.string s, .string ⟨#[10]⟩] W (RetStrs W (partsB 10 s))) := fun W hW => split_any s 10 W hs (hg.ext hW)
  have HCO : Hid (∀ W, Ext w W → Calls Tryz.prog 65 #[.string s, .string ⟨#[10]⟩] W fun e w' => e = .returned (.int .i64 (((partsB 10 s).length : Int) - 1)) ∧ w' = W) := fun W hW => by
    obtain ⟨⟨m, hm⟩, _⟩ := hg.ext hW
    have h1 := Tryz.strings_Count_any s ⟨#[10]⟩ m W (by omega) hm (by decide)
    have h2 : ((Lib.countB s ⟨#[10]⟩ : Nat) : Int) = ((partsB 10 s).length : Int) - 1 := by rw [← split_count]; omega
    rw [h2] at h1
    exact h1
  obtain ⟨Z, hZ⟩ : ∃ Z, Z = linesE s := ⟨_, rfl⟩
  rw [← hZ]
  have HZ := Lib.hid hZ
  have hp : 1 ≤ (partsB 10 s).length := by
    unfold partsB
    rw [List.length_map]
    have := Seg.segs_ne 10 s.data.toList
    exact List.length_pos_iff.2 this
  clear hZ
  by_cases h1 : 65536 < s.size
  · have hd : decide (65536 < s.size) = true := decide_eq_true h1
    have HF : Hid (Z = ([], 10)) := by unfold Hid; rw [HZ.out, linesE, if_pos (.inl h1)]
    clear HZ hg
    go_enter Tryz.func31, Tryz.ntmps31
    go_wp2_with fail
    go_ret2
    exact ⟨_, by rw [HF.out]; rfl, by rw [HF.out]; exact own_strs_nil _ _, Ext.refl _⟩
  · have hd : decide (65536 < s.size) = false := decide_eq_false h1
    by_cases h2 : 1024 < (partsB 10 s).length
    · have HF : Hid (Z = ([], 10)) := by unfold Hid; rw [HZ.out, linesE, if_pos (.inr h2)]
      clear HZ hg HSP
      generalize (partsB 10 s).length = L at *
      have hd2 : decide ((1024 : Int) ≤ (L : Int) - 1) = true := decide_eq_true (by omega)
      go_enter Tryz.func31, Tryz.ntmps31
      go_wp2_with fail
      refine (HCO.out _ (Ext.refl _)).mono ?_
      rintro e w1 ⟨rfl, rfl⟩
      go_wp2_with fail
      go_ret2
      exact ⟨_, by rw [HF.out]; rfl, by rw [HF.out]; exact own_strs_nil _ _, Ext.refl _⟩
    · have HF : Hid (Z = (partsB 10 s, 0)) := by unfold Hid; rw [HZ.out, linesE, if_neg (fun h => h.elim h1 h2)]
      clear HZ hg
      generalize hL : (partsB 10 s).length = L at *
      have hd2 : decide ((1024 : Int) ≤ (L : Int) - 1) = false := decide_eq_false (by omega)
      clear hL
      go_enter Tryz.func31, Tryz.ntmps31
      go_wp2_with fail
      refine (HCO.out _ (Ext.refl _)).mono ?_
      rintro e w1 ⟨rfl, rfl⟩
      go_wp2_with fail
      refine (HSP.out _ (Ext.refl _)).mono ?_
      rintro e w2 ⟨v, rfl, ho, d2⟩
      have HO := Lib.hid ho
      have HD := Lib.hid d2
      clear ho d2
      go_wp2_with fail
      go_ret2
      exact ⟨_, by rw [HF.out]; rfl, by rw [HF.out]; exact HO.out, HD.out⟩
set_option maxRecDepth 100000 in
theorem rLines_any (s : ByteArray) (w : World) (hs : s.size ≤ 9000000) : Calls Tryz.prog 32 #[.string s] w (RetL w (linesE s)) := by
  have HSP : Hid (∀ W, Calls Tryz.prog 62 #[.string s, .int .u8 10] W (RetStrs W (partsB 10 s))) := fun W => refSplit_any s 10 W hs
  obtain ⟨Z, hZ⟩ : ∃ Z, Z = linesE s := ⟨_, rfl⟩
  rw [← hZ]
  have HZ := Lib.hid hZ
  clear hZ
  by_cases h1 : 65536 < s.size
  · have hd : decide (65536 < s.size) = true := decide_eq_true h1
    have HF : Hid (Z = ([], 10)) := by unfold Hid; rw [HZ.out, linesE, if_pos (.inl h1)]
    clear HZ
    go_enter Tryz.func32, Tryz.ntmps32
    go_wp2_with fail
    go_ret2
    exact ⟨_, by rw [HF.out]; rfl, by rw [HF.out]; exact own_strs_nil _ _, Ext.refl _⟩
  · have hd : decide (65536 < s.size) = false := decide_eq_false h1
    by_cases h2 : 1024 < (partsB 10 s).length
    · have HF : Hid (Z = ([], 10)) := by unfold Hid; rw [HZ.out, linesE, if_pos (.inr h2)]
      clear HZ
      generalize partsB 10 s = P at *
      go_enter Tryz.func32, Tryz.ntmps32
      go_wp2_with fail
      refine (HSP.out _).mono ?_
      rintro e w2 ⟨v, rfl, ho, d2⟩
      obtain ⟨A, c, rfl, hss⟩ := StrsAt.of_own ho
      have HD := Lib.hid d2
      clear hss ho d2
      generalize P.length = L at *
      have hd2 : decide (1024 < L) = true := decide_eq_true h2
      go_wp2_with fail
      go_ret2
      exact ⟨_, by rw [HF.out]; rfl, by rw [HF.out]; exact own_strs_nil _ _, HD.out⟩
    · have HF : Hid (Z = (partsB 10 s, 0)) := by unfold Hid; rw [HZ.out, linesE, if_neg (fun h => h.elim h1 h2)]
      clear HZ
      generalize partsB 10 s = P at *
      go_enter Tryz.func32, Tryz.ntmps32
      go_wp2_with fail
      refine (HSP.out _).mono ?_
      rintro e w2 ⟨v, rfl, ho, d2⟩
      obtain ⟨A, c, rfl, hss⟩ := StrsAt.of_own ho
      have HD := Lib.hid d2
      have HO := Lib.hid ho
      clear hss ho d2
      generalize P.length = L at *
      have hd2 : decide (1024 < L) = false := decide_eq_false h2
      go_wp2_with fail
      go_ret2
      exact ⟨_, by rw [HF.out]; rfl, by rw [HF.out]; exact HO.out, HD.out⟩
end Go.Proofs.YtclhbcicbnoohaaGreatDoor

/- Lines are joined: tree.Join and the reference's. -/
namespace Go.Proofs.YtclhbcicbnoohaaGreatDoor
open Go.RowKit

/-- String k's cell. -/
theorem str_get {w : World} {B : Nat → Prop} {A : Option Addr} {c : Nat} {l : List ByteArray} (h : SliceAt strR w B A c l) {k : Nat} (hk : k < l.length) :
    ∃ b off, A = some ⟨b, off, none⟩ ∧ B b ∧ w.cell? ⟨b, off + k, none⟩ = some (.string l[k]) ∧ l[k].size ≤ 9223372036854775807 := by
  obtain ⟨_, _, h3⟩ := h
  obtain ⟨b, off, hA, hb, hr⟩ := h3 (by intro e; rw [e] at hk; exact absurd hk (Nat.not_lt_zero _))
  obtain ⟨us, hu, hc⟩ := hr k hk
  obtain ⟨rfl, h1⟩ := hu
  have h2 := hc 0 _ rfl
  have e : strR.size = 1 := rfl
  rw [e, Nat.mul_one, Nat.add_zero] at h2
  exact ⟨b, off, hA, hb, h2, h1⟩
set_option maxHeartbeats 400000 in
theorem IndexStrE (l : List ByteArray) (A : Option Addr) (c L g : Nat) (lb : Array Value) (p : ByteArray → Bool) (w : World) (eg : ∀ args w, (callFunc g args).run Tryz.prog w = .ok (.enter g args) w) (hL : L = l.length) (hL2 : L ≤ 9000000)
    (hA : SliceAt strR w (Old w) A c l) (hp : ∀ x ∈ l, ∀ w', Ext w w' → Calls Tryz.prog g (#[.string x] ++ lb) w' (Al (.bool (p x)) w')) :
    Calls Tryz.prog 84 #[.slice A L c, .func (.func g) #[] lb] w fun e w' => (∃ i : Int, e = .returned (.int .i64 i) ∧ decide (0 ≤ i) = l.any p) ∧ Ext w w' := by
  have HC := Lib.hid hA
  have HP := Lib.hid hp
  have HL := Lib.hid hL
  clear hA hp hL
  go_enter Tryz.func84, Tryz.ntmps84
  go_wp2_with fail
  go_loopw [5, 8] (fun _ i wr => ∃ k : Nat, k ≤ L ∧ i = .int .i64 k ∧ Hid (∀ j (h : j < l.length), j < k → p l[j] = false) ∧ Ext w wr) (fun _ i _ => L - (intOf i).toNat)
  case atStart => exact ⟨0, Nat.zero_le _, rfl, fun j _ hj => absurd hj (Nat.not_lt_zero _), Ext.refl _⟩
  case round =>
    obtain ⟨k, hk, rfl, hno, hd⟩ := hrel
    by_cases hlt : k < L
    · have hkl : k < l.length := by have := HL.out; omega
      obtain ⟨b, off, hAe, hbb, c0, hz⟩ := str_get (HC.out.ext hd) hkl
      subst hAe
      have hcall := HP.out l[k] (List.getElem_mem hkl) wr hd
      have hk0 : k ≤ 9000000 := by omega
      cases hpk : p l[k] with
      | true =>
        rw [hpk] at hcall
        have HK := Lib.hid hcall
        have HPK := Lib.hid hpk
        clear hcall hpk
        go_wp2_with (go_at_fn g; refine HK.out.mono ?_; rintro e w1 ⟨rfl, d1⟩)
        go_ret
        refine ⟨⟨_, rfl, ?_⟩, hd.trans d1⟩
        rw [List.any_eq_true.2 ⟨l[k], List.getElem_mem hkl, HPK.out⟩]
        simp
      | false =>
        rw [hpk] at hcall
        have HK := Lib.hid hcall
        have HPK := Lib.hid hpk
        clear hcall hpk
        go_wp2_with (go_at_fn g; refine HK.out.mono ?_; rintro e w1 ⟨rfl, d1⟩)
        go_roundw
        case rel =>
          refine ⟨k + 1, by omega, by go_num, fun j h hj => ?_, hd.trans d1⟩
          by_cases e : j = k
          · subst e; exact HPK.out
          · exact hno.out j h (by omega)
        case measure => simp [intOf]; omega
    · have hkL : k = L := by omega
      go_wp2_with fail
      go_ret
      refine ⟨⟨_, rfl, ?_⟩, hd⟩
      have : l.any p = false := by
        rw [List.any_eq_false]
        intro x hx
        obtain ⟨j, hj, rfl⟩ := List.getElem_of_mem hx
        have := hno.out j hj (by have := HL.out; omega)
        simp [this]
      rw [this]
      rfl

set_option maxHeartbeats 400000 in
theorem ContainsStrE (l : List ByteArray) (A : Option Addr) (c L g : Nat) (lb : Array Value) (p : ByteArray → Bool) (w : World) (eg : ∀ args w, (callFunc g args).run Tryz.prog w = .ok (.enter g args) w) (hL : L = l.length) (hL2 : L ≤ 9000000)
    (hA : SliceAt strR w (Old w) A c l) (hp : ∀ x ∈ l, ∀ w', Ext w w' → Calls Tryz.prog g (#[.string x] ++ lb) w' (Al (.bool (p x)) w')) :
    Calls Tryz.prog 59 #[.slice A L c, .func (.func g) #[] lb] w (Al (.bool (l.any p)) w) := by
  have h := IndexStrE l A c L g lb p w eg hL hL2 hA hp
  obtain ⟨B, hB⟩ : ∃ B, B = l.any p := ⟨_, rfl⟩
  rw [← hB] at h ⊢
  have HH := Lib.hid h
  clear h hA hp hB eg hL
  go_enter Tryz.func59, Tryz.ntmps59
  go_wp2_with fail
  refine HH.out.mono ?_
  rintro e w1 ⟨⟨i, rfl, hi⟩, d1⟩
  go_wp2_with fail
  go_ret
  exact ⟨rfl, d1⟩

/-- Whether a string has a line's end. -/
def hasNl (s : ByteArray) : Bool := s.data.toList.any fun b => b == 10
theorem contains_nl (s : ByteArray) : Lib.contains s.data.toList [10] = hasNl s := by
  unfold Lib.contains hasNl
  rw [Bool.eq_iff_iff, decide_eq_true_eq, List.any_eq_true]
  constructor
  · intro h
    rcases Lib.index_spec s.data.toList [10] with ⟨h1, _⟩ | ⟨i, h1, _, h3, _⟩
    · omega
    · have h4 := Seg.occ_one.1 h3
      exact ⟨10, List.mem_of_getElem? h4, rfl⟩
  · rintro ⟨b, hb, he⟩
    rcases Lib.index_spec s.data.toList [10] with ⟨_, hn⟩ | ⟨i, h1, _⟩
    · obtain ⟨j, hj, rfl⟩ := List.getElem_of_mem hb
      have := hn j (by omega)
      rw [Bool.eq_false_iff] at this
      exact absurd (Seg.occ_one.2 (by rw [List.getElem?_eq_getElem hj, eq_of_beq he])) this
    · omega
theorem parts_nl (s : ByteArray) : ((partsB 10 s).length = 1) ↔ hasNl s = false := by
  unfold partsB hasNl
  rw [List.length_map]
  generalize s.data.toList = l
  constructor
  · intro h
    rw [List.any_eq_false]
    intro b hb he
    cases hs : Seg.segs 10 l with
    | nil => exact Seg.segs_ne 10 l hs
    | cons x r =>
      rw [hs] at h
      have hr : r = [] := List.eq_nil_of_length_eq_zero (by simpa using h)
      subst hr
      have key : ∀ (l : List UInt8) (x : List UInt8), Seg.segs 10 l = [x] → ∀ b ∈ l, b ≠ 10 := by
        intro l
        induction l with
        | nil => intro _ _ b hb; cases hb
        | cons a l ih =>
          intro x h b hb
          rw [Seg.segs_cons] at h
          split at h
          · have := Seg.segs_ne 10 l
            simp at h
            exact absurd h.2 this
          · rename_i ha
            split at h
            · rename_i y r' h5
              simp at h
              obtain ⟨_, rfl⟩ := h
              rcases List.mem_cons.1 hb with rfl | hb
              · exact ha
              · exact ih y h5 b hb
            · rename_i h5; exact absurd h5 (Seg.segs_ne 10 l)
      exact key l x hs b hb (eq_of_beq he)
  · intro h
    rw [Seg.segs_stop 10 l fun b hb e => by
      have := List.any_eq_false.1 h b hb
      rw [e] at this
      exact this rfl]
    rfl
/-- What Join gives. -/
def joinB (l : List ByteArray) : ByteArray := mkB (T.joinL (l.map fun s => s.data.toList))
def sumZ (l : List ByteArray) : Nat := (l.map ByteArray.size).sum
def joinE (l : List ByteArray) : ByteArray × Int :=
  if l = [] ∨ l.any hasNl = true then (⟨#[]⟩, 1) else if 1024 < l.length ∨ 65536 < l.length - 1 + sumZ l then (⟨#[]⟩, 10) else (joinB l, 0)
def joinV (l : List ByteArray) : Value := .tuple #[.string (joinE l).1, .int .i64 (joinE l).2]
theorem join_is : ∀ l : List (List UInt8), Lib.join l [10] = T.joinL l
  | [] => rfl
  | [x] => by simp [Lib.join, List.intercalate, T.joinL]
  | x :: y :: l => by
    have ih := join_is (y :: l)
    rw [T.joinL, ← ih]
    simp [Lib.join, List.intercalate]
theorem egc66 : ∀ (args : Array Value) (w : World), (callFunc 66 args).run Tryz.prog w = .ok (.enter 66 args) w := enters_of Tryz.func66 (by kernel_rfl) rfl
theorem hasNl_any (s : ByteArray) (w : World) (hs : s.size ≤ 1000000000) (hg : Gl w) : Calls Tryz.prog 66 #[.string s] w (Al (.bool (hasNl s)) w) := by
  have HC : Hid (∀ W, Ext w W → Calls Tryz.prog 41 #[.string s, .string ⟨#[10]⟩] W fun e w' => e = .returned (.bool (hasNl s)) ∧ w' = W) := fun W hW => by
    obtain ⟨⟨m, hm⟩, _⟩ := hg.ext hW
    have := Tryz.strings_Contains s ⟨#[10]⟩ m W (by omega) hm
    rwa [show Lib.contains s.data.toList (⟨#[10]⟩ : ByteArray).data.toList = hasNl s from contains_nl s] at this
  clear hg
  generalize hasNl s = b at *
  go_enter Tryz.func66, Tryz.ntmps66
  go_wp2_with fail
  refine (HC.out _ (Ext.refl _)).mono ?_
  rintro e w1 ⟨rfl, rfl⟩
  go_wp2_with fail
  go_ret
  exact ⟨rfl, Ext.refl _⟩
theorem sum_take (l : List ByteArray) {k : Nat} (h : k < l.length) : sumZ (l.take (k + 1)) = sumZ (l.take k) + l[k].size := by
  unfold sumZ
  rw [List.take_succ_eq_append_getElem h, List.map_append, List.sum_append]
  simp
end Go.Proofs.YtclhbcicbnoohaaGreatDoor

/- tree.Join. -/
namespace Go.Proofs.YtclhbcicbnoohaaGreatDoor
open Go.RowKit

theorem joinL_len_le (l : List ByteArray) (h : l ≠ []) : (T.joinL (l.map fun s => s.data.toList)).length = l.length - 1 + sumZ l := by
  have h1 := T.joinL_length (l.map fun s => s.data.toList) (by simpa using h)
  have h2 : T.sizeL (l.map fun s => s.data.toList) = sumZ l := by
    unfold T.sizeL sumZ
    rw [List.map_map]
    congr 1
  rw [h2, List.length_map] at h1
  have := List.length_pos_iff.2 h
  omega
theorem sum_le (l : List ByteArray) (h : ∀ s ∈ l, s.size ≤ 100000) : ∀ k, k ≤ l.length → sumZ (l.take k) ≤ k * 100000
  | 0, _ => by simp [sumZ]
  | k + 1, hk => by
    have ih := sum_le l h k (by omega)
    rw [sum_take l (by omega)]
    have := h l[k] (List.getElem_mem _)
    omega
set_option maxRecDepth 100000 in
set_option maxHeartbeats 2000000 in
theorem Join_any (l : List ByteArray) (A : Option Addr) (c n : Nat) (w : World) (hn : n = l.length) (hA : SliceAt strR w (Old w) A c l) (hl : n ≤ 5000) (hs : ∀ s ∈ l, s.size ≤ 100000) (hg : Gl w) :
    Calls Tryz.prog 33 #[.slice A n c] w (Al (joinV l) w) := by
  obtain ⟨Z, hZ⟩ : ∃ Z, Z = joinV l := ⟨_, rfl⟩
  rw [← hZ]
  have HZ := Lib.hid hZ
  by_cases h0 : l = []
  · subst h0
    obtain rfl : n = 0 := hn
    have HF : Hid (Z = .tuple #[.string ⟨#[]⟩, .int .i64 1]) := by unfold Hid; rw [hZ]; rfl
    clear hA hs hg hZ HZ
    go_enter Tryz.func33, Tryz.ntmps33
    go_wp2_with fail
    go_ret2
    exact ⟨by rw [HF.out]; rfl, Ext.refl _⟩
  · have HCF : Hid (Calls Tryz.prog 59 #[.slice A n c, .func (.func 66) #[] #[]] w (Al (.bool (l.any hasNl)) w)) := ContainsStrE l A c n 66 #[] hasNl w egc66 hn (by omega) hA fun x hx W hW => by
      have := hs x hx
      exact hasNl_any x W (by omega) (hg.ext hW)
    have hpos := List.length_pos_iff.2 h0
    obtain ⟨m, rfl⟩ : ∃ m, n = m + 1 := ⟨n - 1, by omega⟩
    cases hnl : l.any hasNl
    · have HJ : Hid (Z = if 1024 < m + 1 ∨ 65536 < m + sumZ l then .tuple #[.string ⟨#[]⟩, .int .i64 10] else .tuple #[.string (joinB l), .int .i64 0]) := by
        unfold Hid
        have e : l.length - 1 = m := by omega
        rw [hZ, joinV, joinE, if_neg (by rw [hnl]; simp [h0]), e, ← hn]
        split <;> rfl
      rw [hnl] at HCF
      have HN := Lib.hid hn
      have HA := Lib.hid hA
      have HS := Lib.hid hs
      have HSL : Hid (∀ k, k ≤ l.length → sumZ (l.take k) ≤ k * 100000) := sum_le l hs
      have HJS : Hid (∀ W, Ext w W → Calls Tryz.prog 67 #[.slice A (m + 1) c, .string ⟨#[10]⟩] W (Al (.string (joinB l)) W)) := fun W hW => by
        obtain ⟨_, _, h3⟩ := hA.ext hW
        obtain ⟨b, off, rfl, hb, hr⟩ := h3 h0
        have hj := Tryz.strings_Join b off c l ⟨#[10]⟩ W (fun j x hx => by
          have hjl : j < l.length := by
            rcases Nat.lt_or_ge j l.length with h | h
            · exact h
            · rw [List.getElem?_eq_none h] at hx; cases hx
          obtain ⟨b', off', hAe, _, c0, _⟩ := str_get (hA.ext hW) hjl
          simp only [Option.some.injEq, Addr.mk.injEq] at hAe
          obtain ⟨rfl, rfl, _⟩ := hAe
          rw [List.getElem?_eq_getElem hjl] at hx
          cases hx
          exact c0) hb (by omega) hA.1 (by
            rw [show (⟨#[10]⟩ : ByteArray).data.toList = [10] from rfl, join_is, joinL_len_le l h0]
            have h5 := sum_le l hs l.length (Nat.le_refl _)
            rw [List.take_length] at h5
            have h6 := Nat.mul_le_mul_right 100000 (show l.length ≤ 5000 by omega)
            omega)
        rw [← hn] at hj
        refine hj.mono ?_
        rintro e w' ⟨rfl, hb'⟩
        refine ⟨?_, hb'⟩
        rw [show (⟨#[10]⟩ : ByteArray).data.toList = [10] from rfl, join_is]
        rfl
      clear hA hs hg hZ HZ hnl hn
      have hne : (((m : Int) + 1) == 0) = false := by simp; omega
      go_enter Tryz.func33, Tryz.ntmps33
      go_wp2_with fail
      refine HCF.out.mono ?_
      rintro e w1 ⟨rfl, d1⟩
      have X1 := Lib.hid d1
      clear d1
      go_wp2_with fail
      go_loopw [19, 4] (fun i z wr => ∃ (k q : Nat), k ≤ m + 1 ∧ i = .int .i64 k ∧ z = .int .i64 q ∧ Hid (q = m + sumZ (l.take k) ∧ Ext w wr)) (fun i _ _ => m + 1 - (intOf i).toNat)
      case atStart => exact ⟨0, m, Nat.zero_le _, rfl, rfl, by simp [sumZ], X1.out⟩
      case round =>
        obtain ⟨k, q, hk, rfl, rfl, HK⟩ := hrel
        have hq : q ≤ 1000000000 := by
          have h1 := HSL.out k (by rw [← HN.out]; exact hk)
          have h2 := HK.out.1
          have := Nat.mul_le_mul_right 100000 (show k ≤ 5001 by omega)
          omega
        by_cases hlt : k < m + 1
        · have hkl : k < l.length := by rw [← HN.out]; exact hlt
          obtain ⟨b, off, hAe, hb, c0, hz⟩ := str_get (HA.out.ext HK.out.2) hkl
          subst hAe
          have hsz := HS.out l[k] (List.getElem_mem hkl)
          have HQ : Hid (q + l[k].size = m + sumZ (l.take (k + 1))) := by unfold Hid; rw [sum_take l hkl, HK.out.1]; omega
          have HX := Lib.hid HK.out.2
          clear HK
          generalize l[k] = s at *
          go_wp2_with fail
          go_roundw
          case rel => exact ⟨k + 1, q + s.size, by omega, by go_num, by go_num, HQ.out, HX.out⟩
          case measure => simp [intOf]; omega
        · obtain rfl : k = m + 1 := by omega
          have HX := Lib.hid HK.out.2
          have hqs : q = m + sumZ l := by have := HK.out.1; rwa [HN.out, List.take_length] at this
          rw [← hqs] at HJ
          clear HK hqs
          by_cases h1 : 1024 < m + 1
          · have HF : Hid (Z = .tuple #[.string ⟨#[]⟩, .int .i64 10]) := by unfold Hid; rw [HJ.out, if_pos (.inl h1)]
            have hd : decide (1024 < m + 1) = true := decide_eq_true h1
            clear HJ
            go_wp2_with fail
            go_ret2
            exact ⟨by rw [HF.out]; rfl, HX.out⟩
          · have hd : decide (1024 < m + 1) = false := decide_eq_false h1
            by_cases h2 : 65536 < q
            · have HF : Hid (Z = .tuple #[.string ⟨#[]⟩, .int .i64 10]) := by unfold Hid; rw [HJ.out, if_pos (.inr h2)]
              have hd2 : decide (65536 < q) = true := decide_eq_true h2
              clear HJ
              go_wp2_with fail
              go_ret2
              exact ⟨by rw [HF.out]; rfl, HX.out⟩
            · have HF : Hid (Z = .tuple #[.string (joinB l), .int .i64 0]) := by unfold Hid; rw [HJ.out, if_neg (fun h => h.elim h1 h2)]
              have hd2 : decide (65536 < q) = false := decide_eq_false h2
              clear HJ
              go_wp2_with fail
              refine (HJS.out _ HX.out).mono ?_
              rintro e w5 ⟨rfl, d5⟩
              go_wp2_with fail
              go_ret2
              exact ⟨by rw [HF.out]; rfl, HX.out.trans d5⟩
    · have HF : Hid (Z = .tuple #[.string ⟨#[]⟩, .int .i64 1]) := by unfold Hid; rw [hZ, joinV, joinE, if_pos (.inr hnl)]
      rw [hnl] at HCF
      clear hA hs hg hZ HZ hnl hn
      have hne : (((m : Int) + 1) == 0) = false := by simp; omega
      go_enter Tryz.func33, Tryz.ntmps33
      go_wp2_with fail
      refine HCF.out.mono ?_
      rintro e w1 ⟨rfl, d1⟩
      go_wp2_with fail
      go_ret2
      exact ⟨by rw [HF.out]; rfl, d1⟩
end Go.Proofs.YtclhbcicbnoohaaGreatDoor

/- The reference's Join. -/
namespace Go.Proofs.YtclhbcicbnoohaaGreatDoor
open Go.RowKit

theorem joinL_snoc (y : T.Bs) : ∀ l : List T.Bs, l ≠ [] → T.joinL (l ++ [y]) = T.joinL l ++ 10 :: y
  | [], h => absurd rfl h
  | [x], _ => rfl
  | x :: z :: l, _ => by
    have ih := joinL_snoc y (z :: l) (by simp)
    show x ++ 10 :: T.joinL (z :: l ++ [y]) = _
    rw [ih, T.joinL]
    simp
theorem joinB_snoc (l : List ByteArray) {k : Nat} (h : k + 1 < l.length) : joinB (l.take (k + 2)) = joinB (l.take (k + 1)) ++ ⟨#[10]⟩ ++ l[k + 1] := by
  unfold joinB
  rw [show k + 2 = k + 1 + 1 from rfl, List.take_succ_eq_append_getElem h, List.map_append]
  have hne : (l.take (k + 1)).map (fun s : ByteArray => s.data.toList) ≠ [] := by
    intro e
    have h9 : (l.take (k + 1)).length = 0 := by rw [List.map_eq_nil_iff.1 e]; rfl
    rw [List.length_take] at h9
    omega
  have e1 := joinL_snoc l[k + 1].data.toList _ hne
  rw [List.map_cons, List.map_nil, e1]
  generalize T.joinL _ = J
  have e2 : mkB J ++ ⟨#[10]⟩ = mkB (J ++ [10]) := mkB_add J [10]
  rw [e2]
  conv => rhs; rw [← mkB_self l[k + 1]]
  rw [mkB_add]
  simp
theorem joinB_size (l : List ByteArray) (h : l ≠ []) : (joinB l).size = l.length - 1 + sumZ l := by
  rw [← joinL_len_le l h]
  simp [joinB, mkB, ByteArray.size]
set_option maxRecDepth 100000 in
set_option maxHeartbeats 4000000 in
theorem rJoin_any (l : List ByteArray) (A : Option Addr) (c n : Nat) (w : World) (hn : n = l.length) (hA : SliceAt strR w (Old w) A c l) (hl : n ≤ 5000) (hs : ∀ s ∈ l, s.size ≤ 100000) :
    Calls Tryz.prog 34 #[.slice A n c] w (Al (joinV l) w) := by
  obtain ⟨Z, hZ⟩ : ∃ Z, Z = joinV l := ⟨_, rfl⟩
  rw [← hZ]
  have HZ := Lib.hid hZ
  by_cases h0 : l = []
  · subst h0
    obtain rfl : n = 0 := hn
    have HF : Hid (Z = .tuple #[.string ⟨#[]⟩, .int .i64 1]) := by unfold Hid; rw [hZ]; rfl
    clear hA hs hZ HZ
    go_enter Tryz.func34, Tryz.ntmps34
    go_wp2_with fail
    go_ret2
    exact ⟨by rw [HF.out]; rfl, Ext.refl _⟩
  · have hpos := List.length_pos_iff.2 h0
    obtain ⟨m, rfl⟩ : ∃ m, n = m + 1 := ⟨n - 1, by omega⟩
    have HNL : Hid (l.any hasNl = true → Z = .tuple #[.string ⟨#[]⟩, .int .i64 1]) := fun h => by rw [hZ, joinV, joinE, if_pos (.inr h)]
    have HJ : Hid (l.any hasNl = false → Z = if 1024 < m + 1 ∨ 65536 < m + sumZ l then .tuple #[.string ⟨#[]⟩, .int .i64 10] else .tuple #[.string (joinB l), .int .i64 0]) := fun h => by
      have e : l.length - 1 = m := by omega
      rw [hZ, joinV, joinE, if_neg (by rw [h]; simp [h0]), e, ← hn]
      split <;> rfl
    have HN := Lib.hid hn
    have HA := Lib.hid hA
    have HS := Lib.hid hs
    have HSL : Hid (∀ k, k ≤ l.length → sumZ (l.take k) ≤ k * 100000) := sum_le l hs
    have HSZ : Hid (∀ k, k < l.length → (joinB (l.take (k + 1))).size ≤ 600000000) := fun k hk => by
      have hne : l.take (k + 1) ≠ [] := by
        intro e
        have h9 : (l.take (k + 1)).length = 0 := by rw [e]; rfl
        rw [List.length_take] at h9
        omega
      rw [joinB_size _ hne, List.length_take]
      have h1 := sum_le l hs (k + 1) hk
      have h2 := Nat.mul_le_mul_right 100000 (show k + 1 ≤ 5000 by omega)
      omega
    have hc1 : m + 1 ≤ c := by have := hA.1; omega
    have hc63 := hA.2.1
    obtain ⟨A2, hA2, hcl⟩ : ∃ A2, (∀ W : World, (Instr.slice 43 (.slice A (m + 1) c) (some (.int .i64 1)) none none).run Tryz.prog W = .ok (.slice A2 m (c - 1)) W) ∧ ∀ j (hj : j + 1 < l.length) (W : World), Ext w W → ∃ b off, A2 = some ⟨b, off, none⟩ ∧ W.cell? ⟨b, off + j, none⟩ = some (.string l[j + 1]) := by
      refine ⟨if c = 1 then A else A.map (·.add (1 * 1)), fun W => ?_, fun j hj W hW => ?_⟩
      · have := run_cut_str (W := W) (A := A) (n := m + 1) (cap := c) 1 (by omega)
        rwa [Nat.add_sub_cancel] at this
      · obtain ⟨b, off, hAe, _, c0, _⟩ := str_get (hA.ext hW) hj
        subst hAe
        rw [if_neg (by omega)]
        refine ⟨b, off + 1, by simp [Addr.add_lit], ?_⟩
        rw [show off + 1 + j = off + (j + 1) by omega]
        exact c0
    have HCL := Lib.hid hcl
    clear hA hs hZ HZ hcl hn
    have hne : (((m : Int) + 1) == 0) = false := by simp; omega
    go_enter Tryz.func34, Tryz.ntmps34
    go_wp2_with fail
    go_loopw [18, 4] (fun i z wr => ∃ (k q : Nat), k ≤ m + 1 ∧ i = .int .i64 k ∧ z = .int .i64 q ∧ Hid (q = m + sumZ (l.take k) ∧ (l.take k).any hasNl = false ∧ Ext w wr)) (fun i _ _ => m + 1 - (intOf i).toNat)
    case atStart => exact ⟨0, m, Nat.zero_le _, rfl, rfl, by simp [sumZ], rfl, Ext.refl _⟩
    case round =>
      obtain ⟨k, q, hk, rfl, rfl, HK⟩ := hrel
      have hq : q ≤ 1000000000 := by
        have h1 := HSL.out k (by rw [← HN.out]; exact hk)
        have h2 := HK.out.1
        have := Nat.mul_le_mul_right 100000 (show k ≤ 5001 by omega)
        omega
      by_cases hlt : k < m + 1
      · have hkl : k < l.length := by rw [← HN.out]; exact hlt
        obtain ⟨b, off, hAe, hb, c0, hz⟩ := str_get (HA.out.ext HK.out.2.2) hkl
        subst hAe
        have hsz := HS.out l[k] (List.getElem_mem hkl)
        have HQ : Hid (q + l[k].size = m + sumZ (l.take (k + 1))) := by unfold Hid; rw [sum_take l hkl, HK.out.1]; omega
        have HX := Lib.hid HK.out.2.2
        have HN1 : Hid (hasNl l[k] = false → (l.take (k + 1)).any hasNl = false) := fun h => by
          rw [List.take_succ_eq_append_getElem hkl, List.any_append, HK.out.2.1]
          simp [h]
        have HN2 : Hid (hasNl l[k] = true → l.any hasNl = true) := fun h => List.any_eq_true.2 ⟨_, List.getElem_mem hkl, h⟩
        have HSP : Hid (∀ W, Calls Tryz.prog 62 #[.string l[k], .int .u8 10] W (RetStrs W (partsB 10 l[k]))) := fun W => refSplit_any l[k] 10 W (by omega)
        have hpn := parts_nl l[k]
        clear HK
        generalize l[k] = s at *
        cases hsn : hasNl s
        · have HF := Lib.hid (HN1.out hsn)
          have hp1 : (partsB 10 s).length = 1 := hpn.2 hsn
          clear HN1 HN2 hpn hsn
          go_wp2_with fail
          refine (HSP.out _).mono ?_
          rintro e w5 ⟨sv, rfl, ho, d5⟩
          obtain ⟨As, cs, rfl, _⟩ := StrsAt.of_own ho
          rw [hp1]
          have HX5 : Hid (Ext w w5) := HX.out.trans d5
          clear ho d5 hp1
          go_wp2_with fail
          go_roundw
          case rel => exact ⟨k + 1, q + s.size, by omega, by go_num, by go_num, HQ.out, HF.out, HX5.out⟩
          case measure => simp [intOf]; omega
        · have HF := Lib.hid (HNL.out (HN2.out hsn))
          have hp1 : (partsB 10 s).length ≠ 1 := fun h => by rw [hpn.1 h] at hsn; cases hsn
          clear HN1 HN2 hpn hsn
          go_wp2_with fail
          refine (HSP.out _).mono ?_
          rintro e w5 ⟨sv, rfl, ho, d5⟩
          obtain ⟨As, cs, rfl, _⟩ := StrsAt.of_own ho
          have HX5 : Hid (Ext w w5) := HX.out.trans d5
          clear ho d5 HSP
          generalize (partsB 10 s).length = pl at *
          have he1 : ((pl : Int) == 1) = false := by simp; omega
          have he2 : (!((pl : Int) == 1)) = true := by rw [he1]; rfl
          go_wp2_with fail
          go_ret2
          exact ⟨by rw [HF.out]; rfl, HX5.out⟩
      · obtain rfl : k = m + 1 := by omega
        have HX := Lib.hid HK.out.2.2
        have hqs : q = m + sumZ l := by have := HK.out.1; rwa [HN.out, List.take_length] at this
        have hnl : l.any hasNl = false := by have := HK.out.2.1; rwa [HN.out, List.take_length] at this
        have HJ2 := Lib.hid (HJ.out hnl)
        rw [← hqs] at HJ2
        clear HK hqs HJ hnl HNL
        by_cases h1 : 1024 < m + 1
        · have HF : Hid (Z = .tuple #[.string ⟨#[]⟩, .int .i64 10]) := by unfold Hid; rw [HJ2.out, if_pos (.inl h1)]
          have hd : decide (1024 < m + 1) = true := decide_eq_true h1
          clear HJ2
          go_wp2_with fail
          go_ret2
          exact ⟨by rw [HF.out]; rfl, HX.out⟩
        · have hd : decide (1024 < m + 1) = false := decide_eq_false h1
          by_cases h2 : 65536 < q
          · have HF : Hid (Z = .tuple #[.string ⟨#[]⟩, .int .i64 10]) := by unfold Hid; rw [HJ2.out, if_pos (.inr h2)]
            have hd2 : decide (65536 < q) = true := decide_eq_true h2
            clear HJ2
            go_wp2_with fail
            go_ret2
            exact ⟨by rw [HF.out]; rfl, HX.out⟩
          · have HF : Hid (Z = .tuple #[.string (joinB l), .int .i64 0]) := by unfold Hid; rw [HJ2.out, if_neg (fun h => h.elim h1 h2)]
            have hd2 : decide (65536 < q) = false := decide_eq_false h2
            clear HJ2
            have hl0 : 0 < l.length := by rw [← HN.out]; omega
            obtain ⟨b, off, hAe, hb, c0, hz⟩ := str_get (HA.out.ext HX.out) hl0
            subst hAe
            rw [Nat.add_zero] at c0
            have HB0 : Hid (l[0] = joinB (l.take 1)) := by
              unfold Hid
              rw [show l.take 1 = [l[0]] by rw [List.take_succ_eq_append_getElem hl0]; rfl]
              unfold joinB
              exact (mkB_self l[0]).symm
            generalize l[0] = s0 at *
            go_wp2_with fail
            clear c0
            go_loopw [44, 7] (fun i o wj => ∃ (k : Nat) (b : ByteArray), k ≤ m ∧ i = .int .i64 k ∧ o = .string b ∧ Hid (b = joinB (l.take (k + 1)) ∧ Ext w wj)) (fun i _ _ => m - (intOf i).toNat)
            case atStart => exact ⟨0, s0, Nat.zero_le _, rfl, rfl, HB0.out, HX.out⟩
            case round =>
              obtain ⟨k, o, hk2, rfl, rfl, HK⟩ := hrel
              have hosz : o.size ≤ 600000000 := by
                have h3 := HSZ.out k (by rw [← HN.out]; omega)
                rw [HK.out.1]
                exact h3
              by_cases hkm : k < m
              · have hkl : k + 1 < l.length := by rw [← HN.out]; omega
                obtain ⟨b2, off2, hA2e, c1⟩ := HCL.out k hkl wr HK.out.2
                have hsz := HS.out l[k + 1] (List.getElem_mem hkl)
                have HJS : Hid (o ++ ⟨#[10]⟩ ++ l[k + 1] = joinB (l.take (k + 1 + 1))) := by unfold Hid; rw [HK.out.1, joinB_snoc l hkl]
                have HXK := Lib.hid HK.out.2
                have hs1 : (o ++ ⟨#[10]⟩ : ByteArray).size = o.size + 1 := by rw [ByteArray.size_append]; rfl
                subst hA2e
                clear HK
                generalize l[k + 1] = s at *
                go_wp2_with fail
                go_roundw
                case rel => exact ⟨k + 1, _, by omega, by go_num, rfl, HJS.out, HXK.out⟩
                case measure => simp [intOf]; omega
              · obtain rfl : k = m := by omega
                have hoe : o = joinB l := by have := HK.out.1; rwa [HN.out, List.take_length] at this
                have HXK := Lib.hid HK.out.2
                rw [← hoe] at HF
                clear HK hoe
                go_wp2_with fail
                go_ret2
                exact ⟨by rw [HF.out]; rfl, HXK.out⟩
end Go.Proofs.YtclhbcicbnoohaaGreatDoor

/- A line is replaced: plain facts, and own slices of strings, opened and written. -/
namespace Go.Proofs.YtclhbcicbnoohaaGreatDoor
open Go.RowKit

/-- What Replace gives. -/
def replE (t : T.Tr) (p : ByteArray) (N : Int) (x : ByteArray) : T.Tr × Int :=
  if T.checkE okB t ≠ 0 then ([], 1) else match T.findT t p.data.toList with
    | none => ([], 7)
    | some f => if (linesE f.2).2 ≠ 0 then ([], (linesE f.2).2) else if N < 0 ∨ ((linesE f.2).1.length : Int) ≤ N then ([], 3) else if hasNl x = true then ([], 1)
      else if (joinE ((linesE f.2).1.set N.toNat x)).2 ≠ 0 then ([], (joinE ((linesE f.2).1.set N.toNat x)).2) else (T.insT t (p, (joinE ((linesE f.2).1.set N.toNat x)).1), 0)
theorem own_strs_slice {w : World} {base : Nat} {v : Value} {l : List ByteArray} (h : OwnStrs w base v l) (hz : ∀ s ∈ l, s.size ≤ 9223372036854775807) : ∃ A c, v = .slice A l.length c ∧ SliceAt strR w (Old w) A c l := by
  rcases Nat.eq_zero_or_pos l.length with h0 | h0
  · have hl : l = [] := List.eq_nil_of_length_eq_zero h0
    subst hl
    obtain ⟨_, ⟨rfl, _⟩ | ⟨g, off, cap, cur, rfl, _, _, _, hc, _⟩⟩ := h
    · exact ⟨none, 0, rfl, SliceAt.nil _ _ _ _ _ (by decide)⟩
    · exact ⟨_, cap, rfl, SliceAt.nil _ _ _ _ _ hc⟩
  · obtain ⟨g, off, cap, rfl, hb, hlt, hnc, hcap, hc⟩ := OwnAt.cells h h0
    refine ⟨_, cap, rfl, hnc, hcap, fun _ => ⟨g, off, rfl, hlt, fun i hi => ⟨[.string l[i]], ⟨rfl, hz _ (List.getElem_mem hi)⟩, fun j u hj => ?_⟩⟩⟩
    match j with
    | 0 =>
      simp at hj
      subst hj
      have e : strR.size = 1 := rfl
      rw [e, Nat.mul_one, Nat.add_zero]
      exact hc i _ (by simp [strs, hi])
    | j + 1 => simp at hj
/-- One string of an own slice is written. -/
theorem OwnZ.setOne {w : World} {base g off cap : Nat} {cur : Array Value} {l : List ByteArray} {n k : Nat} (hn : n = l.length) (h : OwnZ w base g off cap cur n (strs l)) (hk : k < n) (x : ByteArray) : OwnStrs (w.setCells g (off + k) [.string x]) base (.slice (some ⟨g, off, none⟩) n cap) (l.set k x) := by
  have hr := h.room
  unfold OwnStrs
  rw [List.length_set, ← hn]
  refine (h.write k [.string x] (by simp; omega) n hr _ (by simp [strs, hn]) (fun j hj h1 => ?_) (fun j hj h1 h2 => ?_) (fun j hj h1 => ?_)).own
  · rw [h.at' j hj]
    unfold strs
    rw [List.getElem?_map, List.getElem?_map, List.getElem?_set_ne (by omega)]
  · simp only [List.length_cons, List.length_nil] at h2
    obtain rfl : j = k := by omega
    unfold strs
    rw [List.getElem?_map, List.getElem?_set_self (by omega), Nat.sub_self]
    rfl
  · simp only [List.length_cons, List.length_nil] at h1
    rw [h.at' j hj]
    unfold strs
    rw [List.getElem?_map, List.getElem?_map, List.getElem?_set_ne (by omega)]
theorem joinE_data {l : List ByteArray} (h : (joinE l).2 = 0) : (joinE l).1.size ≤ 65536 := by
  unfold joinE at h ⊢
  split at h
  · cases h
  · split at h
    · cases h
    · rename_i h1 h2
      rw [if_neg h1, if_neg h2]
      have hne : l ≠ [] := fun e => h1 (.inl e)
      rw [joinB_size l hne]
      omega
/-- A file of a right tree gets other data: that can be put. -/
theorem repl_put {t : T.Tr} (h : T.Ok okB t) {f : T.File} (hf : f ∈ t) {d : ByteArray} (hd : d.size ≤ 65536) : T.putE okB t (f.1, d) = (T.insT t (f.1, d), 0) := by
  have hp : T.pth (f.1, d) = T.pth f := rfl
  refine T.putE_is okB h (h.path f hf) hd ?_ ?_
  · unfold T.clash
    rw [List.any_eq_false]
    intro g hg
    rw [hp, h.apart f hf g hg, h.apart g hg f hf]
    exact Bool.false_ne_true
  · rw [T.insT_length h.sorted, hp]
    have hi : (T.idxT t (T.pth f)).isSome = true := by
      cases hx : T.idxT t (T.pth f) with
      | some k => rfl
      | none =>
        have h2 := (T.idxT_no hx).1
        obtain ⟨i, hi, rfl⟩ := List.getElem_of_mem hf
        exact absurd rfl (h2 i hi hi)
    rw [if_pos hi]
    exact h.few
theorem find_path {t : T.Tr} {p : ByteArray} {f : T.File} (h : T.findT t p.data.toList = some f) : f ∈ t ∧ f.1 = p := by
  have h1 := List.mem_of_find?_eq_some h
  have h2 : T.pth f = p.data.toList := by simpa using List.find?_some h
  refine ⟨h1, ?_⟩
  rw [← T.mkF_eq f.1, ← T.mkF_eq p]
  exact congrArg T.mkF h2
end Go.Proofs.YtclhbcicbnoohaaGreatDoor

/- Lists of changes that a call has built; plain facts on the differences of two trees. -/
namespace Go.Proofs.YtclhbcicbnoohaaGreatDoor
open Go.RowKit

def chV (p : T.Ch) : List Value := [.string p.1, .int .i64 p.2.1, .string p.2.2.1, .string p.2.2.2]
def ccells (l : List T.Ch) : List Value := l.flatMap chV
theorem ccells_len : ∀ l : List T.Ch, (ccells l).length = l.length * 4
  | [] => rfl
  | p :: l => by
    have := ccells_len l
    unfold ccells at *
    rw [List.flatMap_cons, List.length_append, this, List.length_cons]
    simp [chV]
    omega
theorem ccells_append (l m : List T.Ch) : ccells (l ++ m) = ccells l ++ ccells m := by unfold ccells; exact List.flatMap_append
theorem ccells_one (l : List T.Ch) : ∀ u ∈ ccells l, u.oneCell' = true := by
  intro u hu
  obtain ⟨p, _, hp⟩ := List.mem_flatMap.1 hu
  simp [chV] at hp
  rcases hp with rfl | rfl | rfl | rfl <;> rfl
theorem ccells_get : ∀ (l : List T.Ch) (j : Nat) (h : j < l.length), (ccells l)[j * 4]? = some (.string l[j].1) ∧ (ccells l)[j * 4 + 1]? = some (.int .i64 l[j].2.1) ∧ (ccells l)[j * 4 + 2]? = some (.string l[j].2.2.1) ∧ (ccells l)[j * 4 + 3]? = some (.string l[j].2.2.2)
  | p :: l, 0, _ => by simp [ccells, chV]
  | p :: l, j + 1, h => by
    have := ccells_get l j (by simpa using h)
    rw [show (p :: l)[j + 1] = l[j]'(by simpa using h) from rfl]
    have e : ccells (p :: l) = chV p ++ ccells l := rfl
    have el : (chV p).length = 4 := rfl
    rw [e, List.getElem?_append_right (by omega), List.getElem?_append_right (by omega), List.getElem?_append_right (by omega), List.getElem?_append_right (by omega), el]
    rw [show (j + 1) * 4 - 4 = j * 4 by omega, show (j + 1) * 4 + 1 - 4 = j * 4 + 1 by omega, show (j + 1) * 4 + 2 - 4 = j * 4 + 2 by omega, show (j + 1) * 4 + 3 - 4 = j * 4 + 3 by omega]
    exact this
def OwnCh (w : World) (base : Nat) (v : Value) (l : List T.Ch) : Prop := OwnAt w base 59 4 v l.length (ccells l)
theorem ch_info : (Tryz.prog.info? 59).map (fun i => (i.zero, i.size, i.bytes)) = some (some (.agg #[.string ⟨#[]⟩, .int .i64 0, .string ⟨#[]⟩, .string ⟨#[]⟩]), 4, 56) := by kernel_rfl
theorem cells_ch_at (w : World) (g : Nat) (p : T.Ch) (hg : g = w.heap.size) : ∀ j u, (ccells [p])[j]? = some u → (w.alloc (.cells #[.string p.1, .int .i64 p.2.1, .string p.2.2.1, .string p.2.2.2] 59)).cell? ((⟨g, 0, none⟩ : Addr).add j) = some u := by
  subst hg
  intro j u hj
  rw [Addr.add_lit, Nat.zero_add, cell_new, ← hj]
  simp [ccells, chV]
theorem own_ch_nil (w : World) (b : Nat) : OwnCh w b (.slice none 0 0) [] := OwnAt.nil _ _ _ _
theorem own_ch_snoc {w : World} {base : Nat} {v : Value} {l : List T.Ch} {p : T.Ch} {n : Nat} (hn : n = l.length) (h : OwnAt w base 59 4 v (n + 1) (ccells l ++ ccells [p])) : OwnCh w base v (l ++ [p]) := by
  subst hn
  unfold OwnCh
  rw [List.length_append, ccells_append]
  exact h
theorem own_ch_form {w : World} {base n : Nat} {v : Value} {xs : List Value} (h : OwnAt w base 59 4 v n xs) : ∃ A c, v = .slice A n c ∧ n ≤ c ∧ c ≤ 9223372036854775807 := by
  obtain ⟨_, ⟨rfl, rfl⟩ | ⟨g, off, cap, cur, rfl, _, _, h1, h2, _⟩⟩ := h
  · exact ⟨none, 0, rfl, Nat.le_refl _, by decide⟩
  · exact ⟨_, cap, rfl, h1, h2⟩
theorem own_ch_q {w : World} {base : Nat} {v : Value} {l : List T.Ch} (h : OwnCh w base v l) : ∃ q A c, q = l.length ∧ v = .slice A q c ∧ OwnAt w base 59 4 (.slice A q c) q (ccells l) := by
  obtain ⟨A, c, rfl, _, _⟩ := own_ch_form h
  exact ⟨l.length, A, c, rfl, rfl, h⟩
/-- Changes and an error come back. -/
def RetCh (w : World) (r : List T.Ch × Int) (e : Ending) (w' : World) : Prop := ∃ v, e = .returned (.tuple #[v, .int .i64 r.2]) ∧ OwnCh w' w.heap.size v r.1 ∧ Ext w w'

/-! ### One step of the differences -/
section
variable (sid : T.Bs → ByteArray) (a b : T.Tr) {i j : Nat}
theorem drop_get {l : T.Tr} {i : Nat} (h : i < l.length) : l.drop i = l[i] :: l.drop (i + 1) := List.drop_eq_getElem_cons h
theorem drop_end {l : T.Tr} {i : Nat} (h : l.length ≤ i) : l.drop i = [] := List.drop_eq_nil_of_le h
theorem diff_end (h1 : a.length ≤ i) (h2 : b.length ≤ j) : T.diffT sid (a.drop i) (b.drop j) = [] := by rw [drop_end h1, drop_end h2, T.diffT]
theorem diff_rem (h1 : i < a.length) (h2 : b.length ≤ j ∨ ∃ h : j < b.length, T.pth a[i] < T.pth b[j]) : T.diffT sid (a.drop i) (b.drop j) = [T.remC sid a[i]] ++ T.diffT sid (a.drop (i + 1)) (b.drop j) := by
  rw [drop_get h1]
  rcases h2 with h | ⟨h, hl⟩
  · rw [drop_end h, T.diffT]; rfl
  · rw [drop_get h, T.diffT, if_pos hl]; rfl
theorem diff_add (h2 : j < b.length) (h1 : a.length ≤ i ∨ ∃ h : i < a.length, T.pth b[j] < T.pth a[i]) : T.diffT sid (a.drop i) (b.drop j) = [T.addC sid b[j]] ++ T.diffT sid (a.drop i) (b.drop (j + 1)) := by
  rw [drop_get h2]
  rcases h1 with h | ⟨h, hl⟩
  · rw [drop_end h, T.diffT]; rfl
  · rw [drop_get h, T.diffT, if_neg (List.lt_asymm hl), if_pos hl]; rfl
theorem diff_both (h1 : i < a.length) (h2 : j < b.length) (h3 : ¬ T.pth a[i] < T.pth b[j]) (h4 : ¬ T.pth b[j] < T.pth a[i]) : T.diffT sid (a.drop i) (b.drop j) = (if T.dat a[i] = T.dat b[j] then [] else [T.chgC sid a[i] b[j]]) ++ T.diffT sid (a.drop (i + 1)) (b.drop (j + 1)) := by
  rw [drop_get h1, drop_get h2, T.diffT, if_neg h3, if_neg h4]
theorem diff_len : ∀ (a b : T.Tr), (T.diffT sid a b).length ≤ a.length + b.length := by
  intro a b
  induction a, b using T.diffT.induct with
  | case1 => rw [T.diffT]; simp
  | case2 x a ih => rw [T.diffT]; simp at *; omega
  | case3 y b ih => rw [T.diffT]; simp at *; omega
  | case4 x a y b h ih => rw [T.diffT, if_pos h]; simp at *; omega
  | case5 x a y b h h' ih => rw [T.diffT, if_neg h, if_pos h']; simp at *; omega
  | case6 x a y b h h' ih => rw [T.diffT, if_neg h, if_neg h', List.length_append]; split <;> simp at * <;> omega
end
end Go.Proofs.YtclhbcicbnoohaaGreatDoor
