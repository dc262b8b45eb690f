/- The texts Xk Xm Sz Xg of the seat, joined. -/
import Derived.Test.YtclhbcicbnoohaaGreatDoorG22
import Derived.SizedLaws
import Derived.Handed
import Derived.HandedShaped
import Derived.Lay
/- The two loops of TreeLeads, in plain words: the drops, then the puts. -/
namespace Go.Proofs.YtclhbcicbnoohaaGreatDoor
open Go.RowKit

section
variable (sid : T.Bs → ByteArray) (a b : T.Tr)
/-- The paths that k changes remove. -/
def remK (k : Nat) : List T.Bs := (((T.diffT sid a b).take k).filter T.isRem).map T.cpth
/-- How many of k changes remove nothing. -/
def putN (k : Nat) : Nat := (((T.diffT sid a b).take k).filter fun c => !T.isRem c).length
/-- The tree behind k changes of the first loop, of the second loop. -/
def cur1 (k : Nat) : T.Tr := T.left a (remK sid a b k)
def cur2 (k : Nat) : T.Tr := T.laid (T.left a (T.gone a b)) ((T.came a b).take (putN sid a b k))
theorem cur1_zero : cur1 sid a b 0 = a := T.left_nil a
theorem remK_end (ha : T.Srt a) (hb : T.Srt b) : remK sid a b (T.diffT sid a b).length = T.gone a b := by
  unfold remK
  rw [List.take_length]
  exact (T.diff_parts sid ha hb).1
theorem cur1_end (ha : T.Srt a) (hb : T.Srt b) : cur1 sid a b (T.diffT sid a b).length = cur2 sid a b 0 := by
  unfold cur1 cur2
  rw [remK_end sid a b ha hb]
  rfl
theorem cur1_ok (ha : T.Ok okB a) (k : Nat) : T.Ok okB (cur1 sid a b k) := T.ok_sub okB ha List.filter_sublist
theorem rem_skip {k : Nat} (hk : k < (T.diffT sid a b).length) (h : T.isRem (T.diffT sid a b)[k] = false) : cur1 sid a b (k + 1) = cur1 sid a b k := by
  unfold cur1 remK
  rw [List.take_succ_eq_append_getElem hk, List.filter_append, List.filter_cons, if_neg (by rw [h]; exact Bool.false_ne_true), List.filter_nil, List.append_nil]
theorem rem_step (ha : T.Ok okB a) (hb : T.Ok okB b) {k : Nat} (hk : k < (T.diffT sid a b).length) (h : T.isRem (T.diffT sid a b)[k] = true) :
    T.dropE okB (cur1 sid a b k) (T.cpth (T.diffT sid a b)[k]) = (cur1 sid a b (k + 1), 0) := by
  have e1 : remK sid a b (k + 1) = remK sid a b k ++ [T.cpth (T.diffT sid a b)[k]] := by
    unfold remK
    rw [List.take_succ_eq_append_getElem hk, List.filter_append, List.filter_cons, if_pos h, List.filter_nil, List.map_append]
    rfl
  have e2 : T.gone a b = remK sid a b (k + 1) ++ (((T.diffT sid a b).drop (k + 1)).filter T.isRem).map T.cpth := by
    rw [← remK_end sid a b ha.sorted hb.sorted]
    unfold remK
    rw [List.take_length]
    conv => lhs; rw [← List.take_append_drop (k + 1) (T.diffT sid a b)]
    rw [List.filter_append, List.map_append]
  have hno : T.cpth (T.diffT sid a b)[k] ∉ remK sid a b k := by
    have hp := T.gone_nodup (b := b) ha.sorted
    rw [e2, e1] at hp
    have h1 := (List.pairwise_append.1 hp).1
    intro hm
    exact (List.pairwise_append.1 h1).2.2 _ hm _ (List.mem_singleton_self _) rfl
  have hmem : ∃ x ∈ a, T.pth x = T.cpth (T.diffT sid a b)[k] := by
    refine T.gone_mem (b := b) ?_
    rw [e2, e1]
    simp
  unfold T.dropE
  rw [if_neg (by rw [(T.ok_iff okB).2 (cur1_ok sid a b ha k)]; simp), if_neg (show ¬ T.findT (cur1 sid a b k) (T.cpth (T.diffT sid a b)[k]) = none from T.left_find hno hmem)]
  unfold cur1
  rw [e1, T.left_snoc]
theorem put_skip {k : Nat} (hk : k < (T.diffT sid a b).length) (h : T.isRem (T.diffT sid a b)[k] = true) : cur2 sid a b (k + 1) = cur2 sid a b k := by
  unfold cur2 putN
  rw [List.take_succ_eq_append_getElem hk, List.filter_append, List.filter_cons, if_neg (by rw [h]; simp), List.filter_nil, List.append_nil]
theorem came_sub : ∀ y ∈ T.came a b, y ∈ b := fun _ hy => (List.mem_filter.1 hy).1
theorem way_laid (ha : T.Ok okB a) (hb : T.Ok okB b) : ∀ j, T.Way okB b (T.laid (T.left a (T.gone a b)) ((T.came a b).take j)) := by
  intro j
  induction j with
  | zero => exact T.left_way ha
  | succ j ih =>
    by_cases h : j < (T.came a b).length
    · rw [List.take_succ_eq_append_getElem h, T.laid_snoc]
      exact (T.Way.ins okB hb ih (came_sub a b _ (List.getElem_mem h))).1
    · rw [List.take_of_length_le (by omega)]
      rwa [List.take_of_length_le (by omega)] at ih
theorem cur2_way (ha : T.Ok okB a) (hb : T.Ok okB b) (k : Nat) : T.Way okB b (cur2 sid a b k) := way_laid a b ha hb _
theorem put_step (ha : T.Ok okB a) (hb : T.Ok okB b) {k : Nat} (hk : k < (T.diffT sid a b).length) (h : T.isRem (T.diffT sid a b)[k] = false) :
    ∃ d : ByteArray, T.findT b (T.cpth (T.diffT sid a b)[k]) = some ((T.diffT sid a b)[k].1, d) ∧ T.putE okB (cur2 sid a b k) ((T.diffT sid a b)[k].1, d) = (cur2 sid a b (k + 1), 0) := by
  have e1 : ((T.diffT sid a b).take (k + 1)).filter (fun c => !T.isRem c) = ((T.diffT sid a b).take k).filter (fun c => !T.isRem c) ++ [(T.diffT sid a b)[k]] := by
    rw [List.take_succ_eq_append_getElem hk, List.filter_append, List.filter_cons, if_pos (by rw [h]; rfl), List.filter_nil]
  have e2 : putN sid a b (k + 1) = putN sid a b k + 1 := by
    unfold putN
    rw [e1, List.length_append]
    rfl
  have e3 := (T.diff_parts sid ha.sorted hb.sorted).2
  have e4 : (T.diffT sid a b).filter (fun c => !T.isRem c) = ((T.diffT sid a b).take k).filter (fun c => !T.isRem c) ++ ((T.diffT sid a b)[k] :: ((T.diffT sid a b).drop (k + 1)).filter fun c => !T.isRem c) := by
    conv => lhs; rw [← List.take_append_drop (k + 1) (T.diffT sid a b)]
    rw [List.filter_append, e1, List.append_assoc]
    rfl
  have hj : ((T.came a b).map T.pth)[putN sid a b k]? = some (T.cpth (T.diffT sid a b)[k]) := by
    rw [← e3, e4, List.map_append, List.getElem?_append_right (by rw [List.length_map]; exact Nat.le_refl _), List.length_map]
    unfold putN
    rw [Nat.sub_self]
    rfl
  rw [List.getElem?_map] at hj
  cases hy : (T.came a b)[putN sid a b k]? with
  | none => rw [hy] at hj; cases hj
  | some y =>
    rw [hy] at hj
    have hp : T.pth y = T.cpth (T.diffT sid a b)[k] := Option.some.inj hj
    obtain ⟨hjl, hyj⟩ := List.getElem?_eq_some_iff.1 hy
    have hyb : y ∈ b := came_sub a b y (by rw [← hyj]; exact List.getElem_mem hjl)
    have hy1 : y.1 = (T.diffT sid a b)[k].1 := by
      rw [← T.mkF_eq y.1, ← T.mkF_eq (T.diffT sid a b)[k].1]
      exact congrArg T.mkF hp
    have hye : y = ((T.diffT sid a b)[k].1, y.2) := Prod.ext hy1 rfl
    refine ⟨y.2, ?_, ?_⟩
    · rw [← hye]
      exact (T.mem_find hb.sorted).2 ⟨hyb, hp⟩
    · rw [← hye]
      have := (T.Way.ins okB hb (cur2_way sid a b ha hb k) hyb).2
      rw [this]
      unfold cur2
      rw [e2, List.take_succ_eq_append_getElem hjl, T.laid_snoc, hyj]
theorem cur2_end (ha : T.Ok okB a) (hb : T.Ok okB b) : cur2 sid a b (T.diffT sid a b).length = b := by
  have e3 := (T.diff_parts sid ha.sorted hb.sorted).2
  have e4 : putN sid a b (T.diffT sid a b).length = (T.came a b).length := by
    unfold putN
    rw [List.take_length]
    have := congrArg List.length e3
    rwa [List.length_map, List.length_map] at this
  unfold cur2
  rw [e4, List.take_length]
  exact T.laid_end ha.sorted hb.sorted
end
end Go.Proofs.YtclhbcicbnoohaaGreatDoor

/- The walk of TreeLeads. -/
namespace Go.Proofs.YtclhbcicbnoohaaGreatDoor
open Go.RowKit

theorem way_sizes {b t : T.Tr} (h : T.Way okB b t) : ∀ f ∈ t, f.1.size ≤ 1000000 := fun f hf => by have := okB_size (h.path f hf); omega
theorem way_szF {b t : T.Tr} (hb : T.Ok okB b) (h : T.Way okB b t) : SzF t := ok_szF (h.ok okB hb)
theorem ok_sizes {t : T.Tr} (h : T.Ok okB t) : ∀ f ∈ t, f.1.size ≤ 1000000 := fun f hf => by have := okB_size (h.path f hf); omega

set_option maxRecDepth 100000 in
set_option maxHeartbeats 8000000 in
theorem treeLeads_walk (v0 v1 : Value) (t s : T.Tr) (w : World) (hg : Gl w) (r0 : (sliceR fileR).val w t v0) (r1 : (sliceR fileR).val w s v1) (hb : BdT t) (hbs : BdT s) : Calls Tryz.prog 10 #[v0, v1] w (Al (.bool true) w) := by
  obtain ⟨A, c, rfl, hS⟩ := val_slice r0
  obtain ⟨B, d, rfl, hT⟩ := val_slice r1
  obtain ⟨n, hn⟩ : ∃ n, n = t.length := ⟨_, rfl⟩
  obtain ⟨m, hm⟩ : ∃ m, m = s.length := ⟨_, rfl⟩
  rw [← hn, ← hm]
  have HG := Lib.hid hg
  have HN := Lib.hid hn
  have HM := Lib.hid hm
  have HS := Lib.hid hS
  have HT := Lib.hid hT
  have HAW := Lib.hid (awake_any w hg)
  have HFW := Lib.hid (fun W (h : Ext w W) => few_two t s A B n c m d W hn (hS.ext h) hb hm (hT.ext h) hbs)
  have HC1 := Lib.hid (fun (hf : FewT t ∧ FewT s) W (h : Ext w W) => Check_any t A c n W hn (hS.ext h) hf.1.paths (hg.ext h))
  have HC2 := Lib.hid (fun (hf : FewT t ∧ FewT s) W (h : Ext w W) => Check_any s B d m W hm (hT.ext h) hf.2.paths (hg.ext h))
  have HD1 := Lib.hid (fun (hf : FewT t ∧ FewT s) W (h : Ext w W) => Differ_any t s A B c d n m W hn hm (hS.ext h) (hT.ext h) hf.1.paths hf.2.paths (hg.ext h))
  have HD2' := Lib.hid (fun (hf : FewT t ∧ FewT s) W (h : Ext w W) => Differ_any t t A A c c n n W hn hn (hS.ext h) (hS.ext h) hf.1.paths hf.1.paths (hg.ext h))
  have HFB := Lib.hid (fun (p : ByteArray) W (h : Ext w W) => Find_any s B d m p W hm (hT.ext h))
  have HZ := Lib.hid (differ_szC t s)
  clear hn hm hS hT r0 r1 hg hb hbs
  go_enter Tryz.func10, Tryz.ntmps10
  go_wp2_with fail
  refine HAW.out.mono ?_
  rintro e2 w2 ⟨rfl, d2⟩
  have HD2 := Lib.hid d2
  clear d2
  go_wp2_with fail
  refine (HFW.out _ HD2.out).mono ?_
  rintro e3 w3 ⟨d3, b, rfl, hb⟩
  have HD3 := Lib.hid (HD2.out.trans d3)
  clear d3 HD2
  cases b with
  | false =>
    clear hb
    go_wp2_with fail
    go_ret
    exact ⟨rfl, HD3.out⟩
  | true =>
    have HFO := Lib.hid (hb rfl)
    clear hb
    go_wp2_with fail
    refine (HC1.out HFO.out _ HD3.out).mono ?_
    rintro e4 w4 ⟨rfl, d4⟩
    have HD4 := Lib.hid (HD3.out.trans d4)
    clear d4 HD3 HC1
    by_cases hck : T.checkE okB t = 0
    case neg =>
      have hcf : (T.checkE okB t == 0) = false := by simpa using hck
      have hct : (T.checkE okB t != 0) = true := by rw [bne, hcf]; rfl
      generalize T.checkE okB t = ce at *
      clear hck
      go_wp2_with fail
      go_ret
      exact ⟨rfl, HD4.out⟩
    have HOK := Lib.hid (checkE_ok hck)
    rw [hck]
    clear hck
    go_wp2_with fail
    refine (HC2.out HFO.out _ HD4.out).mono ?_
    rintro e5 w5 ⟨rfl, d5⟩
    have HD5 := Lib.hid (HD4.out.trans d5)
    clear d5 HD4 HC2
    by_cases hck : T.checkE okB s = 0
    case neg =>
      have hcf : (T.checkE okB s == 0) = false := by simpa using hck
      have hct : (T.checkE okB s != 0) = true := by rw [bne, hcf]; rfl
      generalize T.checkE okB s = ce at *
      clear hck
      go_wp2_with fail
      go_ret
      exact ⟨rfl, HD5.out⟩
    have HOS := Lib.hid (checkE_ok hck)
    rw [hck]
    clear hck
    have hz1 : T.differE t s = (T.diffT (fun l => fidB (T.mkF l)) t s, 0) := by unfold T.differE; rw [if_pos ⟨(T.ok_iff okB).2 HOK.out, (T.ok_iff okB).2 HOS.out⟩]
    have hz2 : T.differE t t = ([], 0) := by unfold T.differE; rw [if_pos ⟨(T.ok_iff okB).2 HOK.out, (T.ok_iff okB).2 HOK.out⟩, T.diff_self]
    rw [hz1] at HD1 HZ
    rw [hz2] at HD2'
    clear hz1 hz2
    generalize hsid : (fun l => fidB (T.mkF l)) = sid at HD1 HZ
    clear hsid
    go_wp2_with fail
    refine (HD1.out HFO.out _ HD5.out).mono ?_
    intro e6 w6 hr
    obtain ⟨A6, n6, c6, rfl, hn6, hS6, d6⟩ := retCh_any hr HZ.out
    have HD6 := Lib.hid (HD5.out.trans d6)
    have HS6 := Lib.hid hS6
    have HN6 := Lib.hid (show n6 = (T.diffT sid t s).length from hn6)
    have hn63 : n6 ≤ 9223372036854775807 := by have h1 := hS6.1; have h2 := hS6.2.1; omega
    clear hr d6 hS6 hn6 HD5 HD1 HZ
    go_wp2_with fail
    refine (HD2'.out HFO.out _ HD6.out).mono ?_
    intro e7 w7 hr
    obtain ⟨A7, n7, c7, rfl, hn7, hS7, d7⟩ := retCh_any hr (fun _ h => by cases h)
    obtain rfl : n7 = 0 := hn7
    have HD7 := Lib.hid (HD6.out.trans d7)
    have HE7 := Lib.hid (HS6.out.ext d7)
    clear hr d7 hS7 HD6 HD2' HS6
    go_wp2_with fail
    go_loopw [63, 9] (fun i tv wr => ∃ (k : Nat) (A9 : Option Addr) (n9 c9 : Nat), k ≤ n6 ∧ i = .int .i64 k ∧ tv = .slice A9 n9 c9 ∧ Hid (n9 = (cur1 sid t s k).length ∧ SliceAt fileR wr (Old wr) A9 c9 (cur1 sid t s k)) ∧ Hid (Ext w7 wr)) (fun i _ _ => n6 - (intOf i).toNat)
    case atStart => exact ⟨0, A, n, c, Nat.zero_le _, rfl, rfl, ⟨by rw [cur1_zero]; exact HN.out, by rw [cur1_zero]; exact HS.out.ext HD7.out⟩, Ext.refl _⟩
    case round =>
      obtain ⟨k, A9, n9, c9, hk, rfl, rfl, HT9, HX⟩ := hrel
      by_cases hlt : k < n6
      · have hkl : k < (T.diffT sid t s).length := by rw [← HN6.out]; exact hlt
        obtain ⟨b, off, hAe, hb, ca0, ca1, ca2, ca3⟩ := ch_get (HE7.out.ext HX.out) hkl
        subst hAe
        rw [← Nat.add_assoc] at ca1 ca2 ca3
        have HR1 := Lib.hid (fun h => rem_step sid t s HOK.out HOS.out hkl h)
        have HR2 := Lib.hid (fun h => rem_skip sid t s hkl h)
        generalize (T.diffT sid t s)[k] = ch at *
        obtain ⟨cp, ck, co, cn⟩ := ch
        simp only at ca0 ca1 ca2 ca3
        by_cases hk2 : ck = 2
        · subst hk2
          have hr1 : T.dropE okB (cur1 sid t s k) cp.data.toList = (cur1 sid t s (k + 1), 0) := HR1.out rfl
          have HDR := Lib.hid (fun W (h : Ext wr W) => Drop_any (cur1 sid t s k) A9 c9 n9 cp W HT9.out.1 (HT9.out.2.ext h) (ok_sizes (cur1_ok sid t s HOK.out k)) (HG.out.ext (HD7.out.trans (HX.out.trans h))))
          rw [hr1] at HDR
          have E1 : Ext wr (wr.alloc (.cells #[.string cp, .int .i64 2, .string co, .string cn] 59)) := (Ext.refl wr).alloc _
          have HE1 := Lib.hid E1
          clear hr1 HR1 HR2 E1
          go_wp2_with fail
          refine (HDR.out _ HE1.out).mono ?_
          intro e8 w8 hr
          obtain ⟨A8, n8, c8, rfl, hn8, hS8, d8⟩ := retTr_any hr (ok_szF (cur1_ok sid t s HOK.out (k + 1)))
          have HX8 := Lib.hid (HX.out.trans (HE1.out.trans d8))
          have HT8 := Lib.hid (And.intro hn8 hS8)
          clear hr d8 hn8 hS8 HDR HE1 ca0 ca1 ca2 ca3
          go_wp2_with fail
          go_roundw
          case rel => exact ⟨k + 1, A8, n8, c8, by omega, by go_num, rfl, HT8.out, HX8.out⟩
          case measure => simp [intOf]; omega
        · have hkf : (ck == 2) = false := by simpa using hk2
          have hr2 := HR2.out (show T.isRem (cp, ck, co, cn) = false from decide_eq_false hk2)
          have E1 : Ext wr (wr.alloc (.cells #[.string cp, .int .i64 ck, .string co, .string cn] 59)) := (Ext.refl wr).alloc _
          have HT8 := Lib.hid (show n9 = (cur1 sid t s (k + 1)).length ∧ SliceAt fileR (wr.alloc (.cells #[.string cp, .int .i64 ck, .string co, .string cn] 59)) (Old (wr.alloc (.cells #[.string cp, .int .i64 ck, .string co, .string cn] 59))) A9 c9 (cur1 sid t s (k + 1)) by rw [hr2]; exact ⟨HT9.out.1, HT9.out.2.ext E1⟩)
          have HX8 := Lib.hid (HX.out.trans E1)
          clear hr2 HR1 HR2 E1 hk2
          go_wp2_with fail
          go_roundw
          case rel => exact ⟨k + 1, A9, n9, c9, by omega, by go_num, rfl, HT8.out, HX8.out⟩
          case measure => simp [intOf]; omega
      · have HT8 := Lib.hid (show n9 = (cur2 sid t s 0).length ∧ SliceAt fileR wr (Old wr) A9 c9 (cur2 sid t s 0) by
          have h1 := HT9.out
          rw [show k = (T.diffT sid t s).length by have := HN6.out; omega, cur1_end sid t s HOK.out.sorted HOS.out.sorted] at h1
          exact h1)
        have HXW := Lib.hid HX.out
        clear HT9 HX
        go_wp2_with fail
        go_loopw [83, 9] (fun i tv wr => ∃ (k : Nat) (A9 : Option Addr) (n9 c9 : Nat), k ≤ n6 ∧ i = .int .i64 k ∧ tv = .slice A9 n9 c9 ∧ Hid (n9 = (cur2 sid t s k).length ∧ SliceAt fileR wr (Old wr) A9 c9 (cur2 sid t s k)) ∧ Hid (Ext w7 wr)) (fun i _ _ => n6 - (intOf i).toNat)
        case atStart => exact ⟨0, A9, n9, c9, Nat.zero_le _, rfl, rfl, HT8.out, HXW.out⟩
        case round =>
          clear HT8 HXW
          obtain ⟨k, A9, n9, c9, hk, rfl, rfl, HT9, HX⟩ := hrel
          by_cases hlt : k < n6
          · have hkl : k < (T.diffT sid t s).length := by rw [← HN6.out]; exact hlt
            obtain ⟨b, off, hAe, hb, ca0, ca1, ca2, ca3⟩ := ch_get (HE7.out.ext HX.out) hkl
            subst hAe
            rw [← Nat.add_assoc] at ca1 ca2 ca3
            have HR1 := Lib.hid (fun h => put_step sid t s HOK.out HOS.out hkl h)
            have HR2 := Lib.hid (fun h => put_skip sid t s hkl h)
            generalize (T.diffT sid t s)[k] = ch at *
            obtain ⟨cp, ck, co, cn⟩ := ch
            simp only at ca0 ca1 ca2 ca3
            by_cases hk2 : ck = 2
            · subst hk2
              have hr2 := HR2.out (show T.isRem (cp, 2, co, cn) = true from rfl)
              have E1 : Ext wr (wr.alloc (.cells #[.string cp, .int .i64 2, .string co, .string cn] 59)) := (Ext.refl wr).alloc _
              have HT8 := Lib.hid (show n9 = (cur2 sid t s (k + 1)).length ∧ SliceAt fileR (wr.alloc (.cells #[.string cp, .int .i64 2, .string co, .string cn] 59)) (Old (wr.alloc (.cells #[.string cp, .int .i64 2, .string co, .string cn] 59))) A9 c9 (cur2 sid t s (k + 1)) by rw [hr2]; exact ⟨HT9.out.1, HT9.out.2.ext E1⟩)
              have HX8 := Lib.hid (HX.out.trans E1)
              clear hr2 HR1 HR2 E1
              go_wp2_with fail
              go_roundw
              case rel => exact ⟨k + 1, A9, n9, c9, by omega, by go_num, rfl, HT8.out, HX8.out⟩
              case measure => simp [intOf]; omega
            · have hkf : (ck == 2) = false := by simpa using hk2
              have hkt : (ck != 2) = true := by rw [bne, hkf]; rfl
              obtain ⟨fd, hfd, hpt⟩ := HR1.out (show T.isRem (cp, ck, co, cn) = false from decide_eq_false hk2)
              have hfd : T.findT s cp.data.toList = some (cp, fd) := hfd
              have hpt : T.putE okB (cur2 sid t s k) (cp, fd) = (cur2 sid t s (k + 1), 0) := hpt
              have hmem := (find_path hfd).1
              have hcs := okB_size (HOS.out.path _ hmem)
              have hds := HOS.out.size _ hmem
              simp only at hcs hds
              have HFD := Lib.hid (HFB.out cp)
              rw [findV_some hfd] at HFD
              have hway := cur2_way sid t s HOK.out HOS.out k
              have HPT := Lib.hid (fun W (h : Ext wr W) => Put_any (cur2 sid t s k) A9 c9 n9 cp fd W HT9.out.1 (HT9.out.2.ext h) (way_sizes hway) (by omega) (by omega) (HG.out.ext (HD7.out.trans (HX.out.trans h))))
              rw [hpt] at HPT
              have HPZ := Lib.hid (way_szF HOS.out (cur2_way sid t s HOK.out HOS.out (k + 1)))
              have E1 : Ext wr (wr.alloc (.cells #[.string cp, .int .i64 ck, .string co, .string cn] 59)) := (Ext.refl wr).alloc _
              have HE1 := Lib.hid E1
              have KC0 := Lib.hid (cell_new wr #[.string cp, .int .i64 ck, .string co, .string cn] 59 0)
              clear hfd hpt hmem hway HR1 HR2 E1 hk2
              go_wp2_with fail
              refine (HFD.out _ (HD7.out.trans (HX.out.trans HE1.out))).mono ?_
              rintro e8 w8 ⟨rfl, d8⟩
              have HE8 := Lib.hid (HE1.out.trans d8)
              have x0 : w8.cell? ⟨wr.heap.size, 0, none⟩ = some (.string cp) := d8.keepc KC0.out
              clear d8 HFD HE1 KC0 ca0 ca1 ca2 ca3
              go_wp2_with fail
              refine (HPT.out _ HE8.out).mono ?_
              intro e9 w9 hr
              obtain ⟨A8, n8, c8, rfl, hn8, hS8, d9⟩ := retTr_any hr HPZ.out
              have HX8 := Lib.hid (HX.out.trans (HE8.out.trans d9))
              have HT8 := Lib.hid (And.intro hn8 hS8)
              clear hr d9 hn8 hS8 HPT HE8 x0
              go_wp2_with fail
              go_roundw
              case rel => exact ⟨k + 1, A8, n8, c8, by omega, by go_num, rfl, HT8.out, HX8.out⟩
              case measure => simp [intOf]; omega
          · have h1 := HT9.out
            rw [show k = (T.diffT sid t s).length by have := HN6.out; omega, cur2_end sid t s HOK.out HOS.out] at h1
            have HEQ := Lib.hid (eq_self s A9 B c9 d n9 m wr h1.1 HM.out h1.2 (HT.out.ext (HD7.out.trans HX.out)))
            clear h1
            go_wp2_with fail
            refine HEQ.out.mono ?_
            rintro e10 w10 ⟨rfl, d10⟩
            have HX10 := Lib.hid (HX.out.trans d10)
            clear d10 HEQ
            go_wp2_with fail
            go_ret
            exact ⟨rfl, HD7.out.trans HX10.out⟩
end Go.Proofs.YtclhbcicbnoohaaGreatDoor

/- What comes in reads so, with bounds by the form's own reach: strings and slices take at most 2^47 - 4096 bytes. For any program. -/
namespace Go.Proofs.YtclhbcicbnoohaaGreatDoor
open Go.RowKit
section
variable {H : Type} {enc : TypeId × Value → H} {P : Program} {w : World}
theorem reach_is : reachBytes = 140737488351232 := rfl
/-- Type t's values read as r says, and bd holds of them, where nothing in them passes the reach. -/
def OpensB (enc : TypeId × Value → H) (P : Program) (w : World) (t : TypeId) {α : Type} (r : Rep α) (bd : α → Prop) : Prop :=
  P.cellsOf t = r.size ∧ ∀ (fuel : Nat) (cs : List Value) (x : DataW H × List MemPlace), DataW.trod enc P w 0 (fun _ => true) true fuel t cs = some x → (∀ n ∈ x.1.weights P t, n ≤ reachBytes) → ∃ a, r.is w (Old w) a cs ∧ bd a
theorem Opens.toB {t : TypeId} {α : Type} {r : Rep α} (h : Opens enc P w t r) : OpensB enc P w t r (fun _ => True) :=
  ⟨h.1, fun fuel cs x hx _ => by obtain ⟨a, ha⟩ := h.2 fuel cs x hx; exact ⟨a, ha, trivial⟩⟩
theorem OpensB.str {t : TypeId} (ht : P.underlying t = some .string) (hc : P.cellsOf t = 1) : OpensB enc P w t strR (fun s => s.size ≤ 140737488351232) :=
  ⟨hc, fun _ _ x h hz => by
    obtain ⟨s, rfl, hx, hs⟩ := DataW.trod_string ht h
    refine ⟨s, ⟨rfl, hs⟩, ?_⟩
    have hx1 : x.1 = .lit (.string s.data.toList) := by rw [hx]
    have := hz s.size (by rw [hx1]; simp [DataW.weights])
    rwa [reach_is] at this⟩
theorem weightsAll_mem {e : TypeId} : ∀ {l : List (DataW H)} {d : DataW H}, d ∈ l → ∀ n ∈ d.weights P e, n ∈ DataW.weightsAll P e l
  | _ :: _, _, hd, n, hn => by
    unfold DataW.weightsAll
    rcases List.mem_cons.1 hd with rfl | hd
    · exact List.mem_append_left _ hn
    · exact List.mem_append_right _ (weightsAll_mem hd n hn)
theorem OpensB.slice {t e : TypeId} {α : Type} {r : Rep α} {bd : α → Prop} (ht : P.underlying t = some (.slice e)) (hc : P.cellsOf t = 1) (hpos : 0 < r.size) (hby : 0 < P.bytesOf e) (he : OpensB enc P w e r bd) :
    OpensB enc P w t (sliceR r) (fun l => l.length ≤ 140737488351232 ∧ ∀ a ∈ l, bd a) := by
  refine ⟨hc, fun fuel cs x h hz => ?_⟩
  rcases Go.Deep.open_slice ht h with ⟨rfl, _⟩ | ⟨a, len, cap, m, n, D, Pl, rfl, _, hl, hm, hmm, hx, hall⟩
  · exact ⟨[], ⟨none, 0, rfl, SliceAt.nil _ _ _ _ _ (by omega)⟩, by simp, fun _ h => by cases h⟩
  · simp only [ite_true] at hmm
    have hx1 : x.1 = .slice ((List.range len).map D) ((List.range (m - len)).map fun j => D (len + j)) := by rw [hx]
    rw [hx1] at hz
    unfold DataW.weights at hz
    rw [ht] at hz
    simp only at hz
    have hcap : len ≤ 140737488351232 := by
      have h1 := hz _ (List.mem_cons_self)
      rw [reach_is] at h1
      simp only [List.length_map, List.length_range] at h1
      have h2 : len + (m - len) ≤ (len + (m - len)) * P.bytesOf e := Nat.le_mul_of_pos_right _ hby
      omega
    have hex : ∀ i, i < len → ∃ y, (∃ us, r.is w (Old w) y us ∧ us.length = r.size ∧ ∀ j, j < r.size → w.cell? ((a.add (i * r.size)).add j) = us[j]?) ∧ bd y := by
      intro i hi
      obtain ⟨cs', h1, h2⟩ := hall i (by omega)
      rw [he.1] at h1
      obtain ⟨y, hy, hby⟩ := he.2 _ _ _ h2 fun k hk => hz k (List.mem_cons_of_mem _ (List.mem_append_left _ (weightsAll_mem (List.mem_map.2 ⟨i, List.mem_range.2 hi, rfl⟩) k hk)))
      obtain ⟨_, g2, g3⟩ := World.cells?_some h1
      exact ⟨y, ⟨cs', hy, g2, g3⟩, hby⟩
    obtain ⟨l, hlen, hp⟩ := list_of_lt hex
    refine ⟨l, ⟨some a, cap, by rw [hlen], by omega, by unfold maxLen at hm; omega, fun hne => ?_⟩, by omega, fun y hy => ?_⟩
    · have hlpos : 0 < l.length := List.length_pos_iff.2 hne
      obtain ⟨⟨us, _, hul, hc0⟩, _⟩ := hp 0 hlpos
      have hc00 := hc0 0 hpos
      obtain ⟨u0, hu0⟩ : ∃ u0, us[0]? = some u0 := ⟨us[0]'(by omega), by simp [hul, hpos]⟩
      rw [hu0] at hc00
      have hc00' : w.cell? a = some u0 := by simpa [Addr.add] using hc00
      have hspot := World.cell?_spot hc00'
      have hblk := World.block_lt_of_cell? w _ hc00'
      obtain ⟨b, off, sp⟩ := a
      simp only at hspot
      subst hspot
      refine ⟨b, off, rfl, hblk, fun i hi => ?_⟩
      obtain ⟨⟨us, h1, h2, h3⟩, _⟩ := hp i hi
      refine ⟨us, h1, fun j u hj => ?_⟩
      have hj' : j < r.size := by
        rcases Nat.lt_or_ge j us.length with h | h
        · omega
        · rw [List.getElem?_eq_none h] at hj; cases hj
      have := h3 j hj'
      rw [hj] at this
      have e : ((⟨b, off, none⟩ : Addr).add (i * r.size)).add j = ⟨b, off + (i * r.size + j), none⟩ := by
        rw [Go.Deep.add_add]
        unfold Addr.add
        split
        · rename_i h0; rw [h0]; rfl
        · rfl
      rwa [e] at this
    · obtain ⟨i, hi, rfl⟩ := List.getElem_of_mem hy
      exact (hp i hi).2
/-- The fields from number k on, at offset o. -/
def OpensFieldsB (enc : TypeId × Value → H) (P : Program) (w : World) (fs : List Field) (o : Nat) {α : Type} (r : Rep α) (bd : α → Prop) : Prop :=
  ∀ (fuel : Nat) (cs : List Value) (xs : List (DataW H × List MemPlace)), cs.length = o + r.size →
    (∀ (i : Nat) (f : Field), fs[i]? = some f → DataW.trod enc P w 0 (fun _ => true) true fuel f.type ((cs.drop f.offset).take (P.cellsOf f.type)) = xs[i]?) → fs.length ≤ xs.length →
    (∀ n ∈ DataW.weightsEach P (fs.map (·.type)) (xs.map (·.1)), n ≤ reachBytes) → ∃ a, r.is w (Old w) a (cs.drop o) ∧ bd a
theorem OpensFieldsB.one {f : Field} {o : Nat} {α : Type} {r : Rep α} {bd : α → Prop} (h : OpensB enc P w f.type r bd) (ho : f.offset = o) : OpensFieldsB enc P w [f] o r bd := by
  intro fuel cs xs hl hf hx hz
  have h0 := hf 0 f rfl
  cases xs with
  | nil => simp at hx
  | cons x xs =>
    rw [List.getElem?_cons_zero, ho, h.1, List.take_of_length_le (by rw [List.length_drop]; omega)] at h0
    refine h.2 _ _ _ h0 fun n hn => hz n ?_
    simp only [List.map_cons, DataW.weightsEach]
    exact List.mem_append_left _ hn
theorem OpensFieldsB.cons {f : Field} {fs : List Field} {o : Nat} {α β : Type} {r : Rep α} {s : Rep β} {bd : α → Prop} {be : β → Prop} (h : OpensB enc P w f.type r bd) (ho : f.offset = o) (hs : OpensFieldsB enc P w fs (o + r.size) s be) : OpensFieldsB enc P w (f :: fs) o (prodR r s) (fun p => bd p.1 ∧ be p.2) := by
  intro fuel cs xs hl hf hx hz
  have h0 := hf 0 f rfl
  cases xs with
  | nil => simp at hx
  | cons x xs =>
    rw [List.getElem?_cons_zero, ho, h.1] at h0
    simp only [List.map_cons, DataW.weightsEach] at hz
    obtain ⟨a, ha, hba⟩ := h.2 _ _ _ h0 fun n hn => hz n (List.mem_append_left _ hn)
    have hl' : cs.length = o + (r.size + s.size) := hl
    obtain ⟨b, hb, hbb⟩ := hs fuel cs xs (by omega) (fun i g hg => by have := hf (i + 1) g (by simpa using hg); simpa using this) (by simp at hx; omega) fun n hn => hz n (List.mem_append_right _ hn)
    refine ⟨(a, b), ⟨_, _, ?_, ha, hb⟩, hba, hbb⟩
    rw [← List.drop_drop]
    exact (List.take_append_drop _ _).symm
theorem OpensB.struct {t : TypeId} {fs : Array Field} {α : Type} {r : Rep α} {bd : α → Prop} (ht : P.underlying t = some (.struct fs)) (hc : P.cellsOf t = r.size) (h : OpensFieldsB enc P w fs.toList 0 r bd) : OpensB enc P w t r bd := by
  refine ⟨hc, fun fuel cs x hx hz => ?_⟩
  obtain ⟨xs, n, _, hx1, hl, hxl, hf⟩ := DataW.trod_struct ht hx
  have hx2 : x.1 = .agg (xs.map (·.1)) := by rw [hx1]
  rw [hx2] at hz
  unfold DataW.weights at hz
  rw [ht] at hz
  simp only at hz
  have := h n cs xs (by omega) (fun i f hi => hf i f (by simpa using hi)) (by simp [hxl]) hz
  simpa using this
/-- An argument of the row, opened. -/
theorem OpensB.arg {t : TypeId} {α : Type} {r : Rep α} {bd : α → Prop} (h : OpensB enc P w t r bd) {v : Value} {d : DataW H} {p : List MemPlace} (ht : DataW.Trod enc P w 0 (fun _ => true) true t v d p) (hz : ∀ n ∈ d.weights P t, n ≤ reachBytes) (hv : r.size = 1 → v.cells = #[v]) : ∃ a, r.val w a v ∧ bd a := by
  obtain ⟨fuel, hf⟩ := ht
  obtain ⟨a, ha, hb⟩ := h.2 _ _ _ hf hz
  exact ⟨a, ⟨ha, hv⟩, hb⟩
/-- The weights of argument j. -/
theorem weights_at {ts : List TypeId} {ds : List (DataW H)} (h : (DataW.weightsEach P ts ds).all (· ≤ reachBytes) = true) (j : Nat) {t : TypeId} {d : DataW H} (ht : ts[j]? = some t) (hd : ds[j]? = some d) : ∀ n ∈ d.weights P t, n ≤ reachBytes := by
  intro n hn
  have := List.all_eq_true.1 h n (DataW.weights_mem_each ht hd n hn)
  simpa using this
theorem wrap_sized {a : Assume} {C : Checked} {os : Os} {f : FuncId} {fn : Func} {s : ChangeSpec} {conds : List PathCond} {apart fresh handsOn again : Bool} {X : World → Array Value → Prop}
    (hX : ∀ (w w' : World) (args : Array Value), w.heap = w'.heap → X w args → X w' args)
    (own : ownKnob C.prog.godebug = none) (started : os.Started) (noInit : C.prog.inits.idxOf? f = none) (hfn : C.prog.funcs[f]? = some fn)
    (witness : ∃ (w : World) (tape : Tape) (i : Input), w.os = os ∧ (w.forCall tape i).Shaped C.prog ∧ i.vars = [] ∧ Input.okWide C.prog (w.forCall tape i) .any w.heap.size f i ∧
      ((s.pre enc C.prog fn conds apart (w.forCall tape i).memory i.args ∧ X (w.forCall tape i).memory i.args) ∧ sizedMet enc C.prog fn (OpenSpec.ofChange s) apart (w.forCall tape i).memory i.args) ∧ a.holds C.prog (lone (Frame.enter C.prog f i.args .normal) [] (w.forCall tape i)))
    (contract : ∀ (W : World) (base : Nat) (args : Array Value) (ds gs : List (DataW H)) (before : List MemPlace),
      (∀ (j : Nat) t v, fn.params[j]? = some t → args[j]? = some v → Value.okWide C.prog W .any base t v) →
      DataW.Whole enc C.prog fn.params.toList s.vars apart W args.toList ds gs before →
      conds.all (PathCond.test C.prog ⟨fn.params.toList, ds, s.plain.varTypes C.prog, gs⟩) = true →
      X W args → W.ShapedOpen C.prog →
      (DataW.weightsEach C.prog (fn.params.toList ++ (OpenSpec.ofChange s).bare.plain.varTypes C.prog) (ds ++ gs)).all (· ≤ reachBytes) = true →
      Calls C.prog f args W fun e W' => ∃ v, e = .returned v ∧ s.post enc C.prog fn apart fresh handsOn again W args v W') :
    ReturnsInHanded a C os f .any (fun w args => (s.pre enc C.prog fn conds apart w args ∧ X w args) ∧ sizedMet enc C.prog fn (OpenSpec.ofChange s) apart w args) (s.post enc C.prog fn apart fresh handsOn again) := by
  refine returnsInHanded_of_calls own started noInit witness ?_
  intro w tape i _ hsh _ hok hpre _
  obtain ⟨_, _, _, fn', hfn', _, _, _, _, hval⟩ := hok
  have e : fn' = fn := Option.some.inj (hfn'.symm.trans hfn)
  subst e
  obtain ⟨⟨⟨ds, gs, before, hw, hc⟩, hx⟩, hsz⟩ := hpre
  have hw' := DataW.Whole.of_heap (w' := w.forCall tape i) (by rfl) hw
  refine (contract (w.forCall tape i) w.heap.size i.args ds gs before hval hw' hc (hX _ _ _ (by rfl) hx) hsh (sizedMet.weights hsz hw)).mono fun e W' ⟨v, he, hp⟩ => ?_
  subst he
  exact ChangeSpec.post_blind hp
theorem laidMetH_laidAll {P : Program} {os : Os} {laid : List (String × DataW Unit)} (args : Array Value) (hp : (laid.filter fun x => x.2.handleName?.isSome) = [])
    (hf : (World.holding P os ⟨#[], #[], []⟩).layFits P laid [] = true)
    (hi : (World.holding P os ⟨#[], #[], []⟩).layIfaces P laid (World.laidAll P os laid) = true) :
    laidMetH P laid ((World.laidAll P os laid).forCall (fun _ _ => 0) ⟨#[], args, []⟩).memory := by
  unfold laidMetH
  rw [hp]
  exact laidMet_laidAll args hf hi
end
end Go.Proofs.YtclhbcicbnoohaaGreatDoor

/- What the arguments read as; the laid variables: the frame of the cards of chapter 3. -/
namespace Go.Proofs.YtclhbcicbnoohaaGreatDoor
open Go.RowKit

theorem OpensB.mono {H : Type} {enc : TypeId × Value → H} {P : Program} {w : World} {t : TypeId} {α : Type} {r : Rep α} {bd be : α → Prop} (h : OpensB enc P w t r bd) (hb : ∀ a, bd a → be a) : OpensB enc P w t r be :=
  ⟨h.1, fun fuel cs x hx hz => by obtain ⟨a, ha, hba⟩ := h.2 fuel cs x hx hz; exact ⟨a, ha, hb a hba⟩⟩
section
variable {H : Type} {enc : TypeId × Value → H} {w : World}
theorem op9 : OpensB enc Tryz.prog w 9 strR (fun s => s.size ≤ 140737488351232) := OpensB.str Tryz.underlying9 (by kernel_rfl)
theorem op3 : OpensB enc Tryz.prog w 3 (intR .i64) (fun _ => True) := (Opens.int Tryz.underlying3 (by kernel_rfl)).toB
theorem op25 : OpensB enc Tryz.prog w 25 fileR (fun p => p.1.size ≤ 140737488351232 ∧ p.2.size ≤ 140737488351232) :=
  (OpensB.struct Tryz.underlying25 (by kernel_rfl) (.cons op9 rfl (.one op9 rfl))).mono fun _ h => h
theorem op45 : OpensB enc Tryz.prog w 45 (prodR strR (intR .i64)) (fun p => p.1.size ≤ 140737488351232 ∧ True) :=
  (OpensB.struct Tryz.underlying45 (by kernel_rfl) (.cons op9 rfl (.one op3 rfl))).mono fun _ h => h
theorem op23 : OpensB enc Tryz.prog w 23 (sliceR fileR) BdT := (OpensB.slice Tryz.underlying23 (by kernel_rfl) (by decide) (of_decide_eq_true (by kernel_rfl)) op25).mono fun _ h => h
theorem op43 : OpensB enc Tryz.prog w 43 (sliceR strR) (fun l => l.length ≤ 140737488351232 ∧ ∀ s ∈ l, s.size ≤ 140737488351232) := (OpensB.slice Tryz.underlying43 (by kernel_rfl) (by decide) (of_decide_eq_true (by kernel_rfl)) op9).mono fun _ h => h
theorem op47 : OpensB enc Tryz.prog w 47 linedR BdLn :=
  (OpensB.struct Tryz.underlying47 (by kernel_rfl) (.cons op9 rfl (.cons op43 rfl (.cons op23 rfl (.cons op45 rfl (.one op9 rfl)))))).mono fun _ h => ⟨h.2.1, h.2.2.1⟩
end
theorem tab_third {P : Program} {W : World} {name n1 n2 : String} {x y : DataW Unit} {k : IntKind} {zs : List Int} {rest : List (String × DataW Unit)} {g : Nat} {t e : TypeId} {n : Nat}
    (hg : P.globalNamed name = some g) (hty : (P.globals[g]?).map (·.type) = some t) (ht : P.underlying t = some (.array n e)) (he : P.underlying e = some (.int k)) (hce : P.cellsOf e = 1) (hct : P.cellsOf t = n)
    (h : laidMet P ((n1, x) :: (n2, y) :: (name, Lib.tabData k zs) :: rest) W) : Lib.TabIs P W name k zs := by
  obtain ⟨ps, ⟨_, _, _, _, _, _, _, _, _, _, ⟨_, _, _, _, _, _, _, _, _, _, ⟨g', t', cs, fuel, p, q, hg', ht', hvar, hd, _, _⟩, _⟩, _⟩, _⟩ := h
  obtain rfl := Option.some.inj (hg.symm.trans hg')
  obtain rfl := Option.some.inj (hty.symm.trans ht')
  unfold Lib.TabIs
  rw [hvar, ← Lib.cells_of_tab ht he hce hct hd]
theorem gl_of {W : World} {n1 n2 : String} {x y z : DataW Unit} {rest : List (String × DataW Unit)} (h : W.ShapedOpen Tryz.prog) (hf : ((n1, x) :: (n2, y) :: ("internal/strconv.uint64pow10", z) :: rest).filter (fun x => x.2.handleName?.isSome) = [])
    (hl : laidMetH Tryz.prog ((n1, x) :: (n2, y) :: ("internal/strconv.uint64pow10", z) :: rest) W) (hz : z = Lib.tabData .u64 Lib.pow10Tab) : Gl W := by
  refine ⟨Tryz.laysM219.s1_3 W h, ?_⟩
  subst hz
  have hL : laidMet Tryz.prog ((n1, x) :: (n2, y) :: ("internal/strconv.uint64pow10", Lib.tabData .u64 Lib.pow10Tab) :: rest) W := by
    unfold laidMetH at hl
    rw [hf] at hl
    exact hl
  exact tab_third (g := 3) (t := 181) (e := 120) (n := 20) (by kernel_rfl) (by kernel_rfl) Tryz.underlying181 Tryz.underlying120 (by kernel_rfl) (by kernel_rfl) hL

end Go.Proofs.YtclhbcicbnoohaaGreatDoor
