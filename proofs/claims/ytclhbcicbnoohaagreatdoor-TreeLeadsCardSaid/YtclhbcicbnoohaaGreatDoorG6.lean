/- The texts Ke Kep Byr Kf Kg Kh Ki Kj of the seat, joined. -/
import Derived.Test.YtclhbcicbnoohaaGreatDoorG5
import Derived.Lib.ConvBytes
import Derived.Deep.OwnRows
import Derived.Deep.MidRow
import Derived.Lib.AppendStr
/- All rounds of the reference: Permute. -/
namespace Go.Proofs.YtclhbcicbnoohaaGreatDoor
open Go.RowKit

theorem quiet_load_row {P : Program} {o : Oper} {a : Act} {C : World → Prop} {K : Act → Prop} (ty : TypeId) (x : Operand) (ho : o.op = .load ty x) (g : Nat) (hx : a.eval x = .pointer (some ⟨g, 0, none⟩)) (t : TypeId) (cs : Array Value) (fr : Nat × Nat) (d : TypeDesc)
    (hg : ∀ w, C w → w.heap[g]? = some (.cells cs t fr)) (hu : P.underlying ty = some d) (hd : (match d with | .struct _ | .array _ _ => true | _ => false) = true) (hi : (P.info? ty).map (·.size) = some cs.size) (h : K (a.put o.dst (.agg cs))) : o.quiet P a C K := by
  refine ⟨.agg cs, fun w hw => ?_, h⟩
  unfold Oper.quietAt execOp
  simp only [ho, hx, Instr.loadAt, Instr.sureAddr, Sem.run_bind, Sem.run_pure, Result.andThen_ok, run_loadVar_row w g t ty cs fr d (hg w hw) hu hd hi]
  exact ⟨rfl, rfl⟩
def PR (w wr : World) (s : List Nat) : Prop := Ext w wr ∧ ArrAt wr w.heap.size 121 s ∧ ArrAt wr (w.heap.size + 1) 121 (List.replicate 25 0)
theorem PR.ext {w wr w' : World} {s : List Nat} (h : PR w wr s) (he : Ext wr w') : PR w w' s := ⟨h.1.trans he, h.2.1.ext he, h.2.2.ext he⟩
theorem PR.put {w wr : World} {s r : List Nat} (h : PR w wr s) : PR w (wr.setRow w.heap.size (rowU r)) r :=
  ⟨h.1.setRow (Nat.le_refl _) _, heap_setRow _ _ _ h.2.1, (heap_setRow_other _ _ _ _ (by omega)).trans h.2.2⟩
set_option maxRecDepth 100000 in
set_option maxHeartbeats 2000000 in
theorem rPermute_any (s : List Nat) (w : World) (hl : s.length = 25) (hs : D.Small s) : Calls Tryz.prog 111 #[.agg (rowU s)] w (Al (.agg (rowU (D.perm s))) w) := by
  obtain ⟨R, hR⟩ : ∃ R, R = D.perm s := ⟨_, rfl⟩
  rw [← hR]
  have HR := Lib.hid hR
  clear hR
  go_enter Tryz.func111, Tryz.ntmps111
  go_upto_region 1 with (fail)
  generalize hW : World.alloc (World.alloc w _) _ = W
  have hP : PR w W s := by
    rw [← hW]
    exact ⟨((Ext.refl w).alloc _).alloc _, heap_alloc2_old _ _ _, heap_alloc2_new _ _ _⟩
  have HP := Lib.hid hP
  clear hP hW
  go_wp2_with fail
  go_loopw [3] (fun i wr => ∃ k : Nat, k ≤ 24 ∧ i = .int .i64 k ∧ Hid (PR w wr (D.permK s k))) (fun i _ => 24 - (intOf i).toNat)
  case atStart => exact ⟨0, Nat.zero_le _, rfl, HP.out⟩
  case round =>
    clear HP
    obtain ⟨k, hk, rfl, HK⟩ := hrel
    by_cases hlt : k < 24
    · have hpl := D.permK_length hl k (by omega)
      have hi := Lib.hid (info121 hpl)
      have hcl : D.consts.getD k 0 < 18446744073709551616 := D.consts_lt k
      have HRD := Lib.hid (fun W => Round_any (D.permK s k) (D.consts.getD k 0) W hpl (D.permK_small hs k (by omega)) hcl)
      have HCO := Lib.hid (fun W => constant_any k W hlt)
      have HN := Lib.hid (D.permK_succ s hlt)
      rw [← HN.out] at HRD
      have hpl' := D.permK_length hl (k + 1) (by omega)
      have hi' := Lib.hid (info121 hpl')
      have HZ := Lib.hid (show (rowU (D.permK s k)).size = (rowU (D.permK s (k + 1))).size by rw [rowU_size, rowU_size, hpl, hpl'])
      clear hpl hpl' hcl HN
      obtain ⟨s2, hs2⟩ : ∃ s2, s2 = D.permK s (k + 1) := ⟨_, rfl⟩
      rw [← hs2] at HRD hi' HZ
      have HS2 := Lib.hid hs2
      clear hs2
      generalize D.consts.getD k 0 = c at HRD HCO
      generalize D.permK s k = s1 at HK hi HRD HZ
      go_wp2_with fail
      have h0 : Ext wr wr.drew := (Ext.refl wr).drew
      have hne := Lat.some h0
      have HG : Hid (∀ w', (∃ x : Lat (Ext wr), w' = x.w') → w'.heap[w.heap.size]? = some (.cells (rowU s1) 121 (0, 0))) := by
        rintro w' ⟨x, rfl⟩
        exact HK.out.2.1.ext x.h
      refine wp_region_tail 4 [2, 3] (Ext wr) h0 (by kernel_rfl) (by kernel_rfl) (by kernel_rfl) ?_
      simp only [List.take_succ_cons, List.take_zero, List.drop_succ_cons, List.drop_zero]
      refine lex_pure rfl rfl rfl ?_
      intro K hK
      refine quiet_load_row 121 _ rfl w.heap.size rfl 121 _ (0, 0) _ HG.out Tryz.underlying121 rfl hi.out ?_
      go_simp
      go_big_quiet_on
      iterate 1 (refine lex_pure rfl rfl rfl ?_; intro K hK; go_big_quiet_op; go_big_quiet_on)
      refine lex_eff rfl ?_
      go_wp2_with fail
      refine (HCO.out _).mono ?_
      rintro e w5 ⟨rfl, d5⟩
      have D5 := Lib.hid (h0.trans d5)
      clear d5
      go_wp2_with fail
      refine ⟨⟨⟨w5, D5.out⟩, rfl⟩, ?_⟩
      refine lex_eff rfl ?_
      go_wp2_with fail
      refine (HRD.out _).mono ?_
      rintro e w6 ⟨rfl, d6⟩
      have D6 := Lib.hid (D5.out.trans d6)
      clear d6
      go_wp2_with fail
      refine ⟨⟨⟨w6, D6.out⟩, rfl⟩, ?_⟩
      refine lex_nil ?_
      clear hne h0 HG
      have HK6 := Lib.hid (HK.out.ext D6.out)
      have hA6 : w6.heap[w.heap.size]? = some (.cells (rowU s1) 121 (0, 0)) := HK6.out.2.1
      go_wp2_with (refine wpList_store_row rfl 121 (.tmp 1) (.tmp 11) rfl w.heap.size (rowU s2) rfl rfl 121 _ hA6 hi'.out HZ.out (rowU_one s2) ?_)
      exact ⟨⟨k + 1, by omega, by go_num, by rw [← HS2.out]; exact HK6.out.put⟩, by simp [intOf]; omega⟩
    · obtain rfl : k = 24 := by omega
      rw [D.permK_end, ← HR.out] at HK
      have hrl : R.length = 25 := by rw [HR.out]; exact D.perm_length hl
      have hA : wr.heap[w.heap.size]? = some (.cells (rowU R) 121 (0, 0)) := HK.out.2.1
      have hB : wr.heap[w.heap.size + 1]? = some (.cells (rowU (List.replicate 25 0)) 121 (0, 0)) := HK.out.2.2
      have hi := Lib.hid (info121 hrl)
      have HZ := Lib.hid (show (rowU (List.replicate 25 0)).size = (rowU R).size by rw [rowU_size, rowU_size, hrl]; rfl)
      clear hrl
      go_wp2_with (first
        | (refine wpList_load_row rfl 121 _ rfl w.heap.size rfl 121 _ (0, 0) _ hA Tryz.underlying121 rfl hi.out ?_)
        | (refine wpList_store_row rfl 121 (.tmp 2) (.tmp 12) rfl (w.heap.size + 1) (rowU R) rfl rfl 121 _ hB hi.out HZ.out (rowU_one R) ?_))
      have hC := heap_setRow wr (w.heap.size + 1) (rowU R) hB
      refine bodyPost_ret (v := .agg (rowU R)) ?_ rfl ⟨rfl, HK.out.1.setRow (by omega) _⟩
      exact results_cell_row (p := 2) (ty := 121) Tryz.results111 _ _ (w.heap.size + 1) 121 (rowU R) (0, 0) _ rfl hC Tryz.underlying121 rfl hi.out
end Go.Proofs.YtclhbcicbnoohaaGreatDoor

/- SHA3-256: the padded message and its blocks. No program in sight. -/
namespace Go.Proofs.YtclhbcicbnoohaaGreatDoor.D

/-- The message, the 6 and k zeros. -/
def padZ (m : Bs) (k : Nat) : Bs := m ++ 6 :: List.replicate k 0
theorem padZ_length (m : Bs) (k : Nat) : (padZ m k).length = m.length + 1 + k := by simp [padZ]; omega
theorem padZ_zero (m : Bs) : padZ m 0 = m ++ [6] := rfl
theorem padZ_succ (m : Bs) (k : Nat) : padZ m (k + 1) = padZ m k ++ [0] := by
  unfold padZ
  rw [List.replicate_succ']
  simp
/-- The last byte is marked. -/
def padM (m : Bs) (k : Nat) : Bs := (padZ m k).set (m.length + k) ((padZ m k).getD (m.length + k) 0 ||| 128)
theorem padM_length (m : Bs) (k : Nat) : (padM m k).length = m.length + 1 + k := by simp [padM, padZ_length]

theorem takeN_succ (s : List Nat) : ∀ (n : Nat) (b : Bs), takeN s (n + 1) b = take1 (takeN s n b) ((b.drop (n * 136)).take 136)
  | 0, b => by simp [takeN]
  | n + 1, b => by
    rw [takeN, takeN_succ _ n, takeN, List.drop_drop, show 136 + n * 136 = (n + 1) * 136 by omega]
theorem takeN_append (s : List Nat) : ∀ (n : Nat) (a b : Bs), n * 136 ≤ a.length → takeN s n (a ++ b) = takeN s n a
  | 0, _, _, _ => rfl
  | n + 1, a, b, h => by
    rw [takeN, takeN, List.take_append_of_le_length (by omega), List.drop_append_of_le_length (by omega), takeN_append _ n _ _ (by rw [List.length_drop]; omega)]
theorem takeN_take (s : List Nat) (n : Nat) (m : Bs) (h : n * 136 ≤ m.length) : takeN s n (m.take (n * 136)) = takeN s n m := by
  conv => rhs; rw [← List.take_append_drop (n * 136) m]
  rw [takeN_append]
  simp; omega
theorem take1_congr (s : List Nat) {a b : Bs} (h : ∀ i, i < 136 → a.getD i 0 = b.getD i 0) : take1 s a = take1 s b := by
  unfold take1
  rw [mixK_congr s 136 h]
theorem take1_take (s : List Nat) (b : Bs) : take1 s (b.take 136) = take1 s b :=
  take1_congr s fun i hi => by simp [List.getD_eq_getElem?_getD, hi]
theorem takeN_length {s : List Nat} (h : s.length = 25) : ∀ (n : Nat) (b : Bs), (takeN s n b).length = 25
  | 0, _ => h
  | n + 1, b => by rw [takeN]; exact takeN_length (take1_length h _) n _
theorem takeN_small {s : List Nat} (h : Small s) : ∀ (n : Nat) (b : Bs), Small (takeN s n b)
  | 0, _ => h
  | n + 1, b => by rw [takeN]; exact takeN_small (take1_small h _) n _

theorem lastB_length {r : Bs} (h : r.length < 136) : (lastB r).length = 136 := by simp [lastB]; omega
/-- The padded message in blocks. -/
theorem padM_eq (m : Bs) : padM m (135 - m.length % 136) = m.take (m.length / 136 * 136) ++ lastB (m.drop (m.length / 136 * 136)) := by
  obtain ⟨q, hq⟩ : ∃ q, q = m.length / 136 := ⟨_, rfl⟩
  obtain ⟨r, hr⟩ : ∃ r, r = m.length % 136 := ⟨_, rfl⟩
  have hm : m.length = q * 136 + r := by omega
  have hr136 : r < 136 := by omega
  rw [← hq, ← hr]
  have hz : padZ m (135 - r) = m.take (q * 136) ++ (m.drop (q * 136) ++ 6 :: List.replicate (135 - r) 0) := by
    unfold padZ
    rw [← List.append_assoc, List.take_append_drop]
  have hld : (m.drop (q * 136)).length = r := by rw [List.length_drop]; omega
  have hlt : (m.take (q * 136)).length = q * 136 := by rw [List.length_take]; omega
  unfold padM lastB
  rw [hz, hld, List.set_append_right _ _ (by omega), hlt, show m.length + (135 - r) - q * 136 = 135 by omega]
  congr 2
  simp only [List.getD_eq_getElem?_getD]
  rw [List.getElem?_append_right (by omega), hlt, show m.length + (135 - r) - q * 136 = 135 by omega]
/-- The digest by the padded message. -/
theorem sha_pad (m : Bs) : sha m = outB (takeN (List.replicate 25 0) (m.length / 136 + 1) (padM m (135 - m.length % 136))) := by
  have hl : (m.take (m.length / 136 * 136)).length = m.length / 136 * 136 := by rw [List.length_take]; omega
  rw [takeN_succ, padM_eq, takeN_append _ _ _ _ (Nat.le_of_eq hl.symm), takeN_take _ _ m (Nat.div_mul_le_self _ _), take1_take, List.drop_left' hl]
  rfl
theorem pad_blocks (m : Bs) : (padM m (135 - m.length % 136)).length = (m.length / 136 + 1) * 136 := by rw [padM_length]; omega
/-- Where the padding ends. -/
theorem pad_stop (n k : Nat) (h : k ≤ 135 - n % 136) : (n + 1 + k) % 136 = 0 ↔ k = 135 - n % 136 := by omega

/-- The marked last byte by xor, as the given text has it. -/
theorem last_xor (r : Bs) (h : r.length < 136) : (r ++ 6 :: List.replicate (135 - r.length) 0).getD 135 0 ^^^ 128 = (r ++ 6 :: List.replicate (135 - r.length) 0).getD 135 0 ||| 128 := by
  have e : (r ++ 6 :: List.replicate (135 - r.length) (0 : UInt8)).getD 135 0 = if r.length = 135 then 6 else 0 := by
    rw [List.getD_eq_getElem?_getD, List.getElem?_append_right (by omega)]
    by_cases h1 : r.length = 135
    · simp [h1]
    · obtain ⟨d, hd⟩ : ∃ d, 135 - r.length = d + 1 := ⟨134 - r.length, by omega⟩
      simp [h1, hd]
  rw [e]
  split <;> decide
end Go.Proofs.YtclhbcicbnoohaaGreatDoor.D

/- Rows of bytes of the call's own, with any mark that freezes none of their cells: what []byte(s) makes, and appends to it. -/
namespace Go.Proofs.YtclhbcicbnoohaaGreatDoor
open Go.RowKit

def byV (l : List UInt8) : List Value := l.map fun b => Value.int .u8 (b.toNat : Int)
theorem byV_length (l : List UInt8) : (byV l).length = l.length := by simp [byV]
theorem byV_append (a b : List UInt8) : byV (a ++ b) = byV a ++ byV b := by simp [byV]
theorem byV_get {l : List UInt8} {i : Nat} (h : i < l.length) : (byV l)[i]? = some (.int .u8 ((l.getD i 0).toNat : Int)) := by simp [byV, h]
/-- The bytes l lie at the front of block g, with room up to cap; no cell is frozen. -/
def ByRow (w : World) (g : Nat) (e : TypeId) (cap : Nat) (l : List UInt8) : Prop :=
  ∃ cur fr, w.heap[g]? = some (.cells cur e fr) ∧ (cur.size ≤ fr.1 ∨ fr = (0, 0)) ∧ l.length ≤ cap ∧ cap ≤ cur.size ∧ cap ≤ 9223372036854775807 ∧ ∀ j, j < l.length → cur[j]? = (byV l)[j]?
section
variable {w w' : World} {g : Nat} {e : TypeId} {cap : Nat} {l : List UInt8}
theorem ByRow.lt (h : ByRow w g e cap l) : g < w.heap.size := by
  obtain ⟨_, _, hh, _⟩ := h
  exact (Array.getElem?_eq_some_iff.1 hh).1
theorem ByRow.ext (h : ByRow w g e cap l) (he : Ext w w') : ByRow w' g e cap l := by
  have hl := h.lt
  obtain ⟨cur, fr, hh, r⟩ := h
  exact ⟨cur, fr, (he.block g hl).trans hh, r⟩
theorem ByRow.grown (h : ByRow w g e cap l) {k : Option Nat} (hg : w.grownBy w' k) (hk : k ≠ some g) : ByRow w' g e cap l := by
  have hl := h.lt
  obtain ⟨cur, fr, hh, r⟩ := h
  exact ⟨cur, fr, (hg.block g hl fun e => hk e.symm).trans hh, r⟩
theorem ByRow.cell (h : ByRow w g e cap l) {i : Nat} (hi : i < l.length) : w.cell? ⟨g, i, none⟩ = some (.int .u8 ((l.getD i 0).toNat : Int)) := by
  obtain ⟨cur, fr, hh, _, _, _, _, hc⟩ := h
  rw [cell_of_row w g i cur e fr hh, hc i hi, byV_get hi]
theorem ByRow.isSome (h : ByRow w g e cap l) {i : Nat} (hi : i < cap) : (w.cell? ⟨g, i, none⟩).isSome = true := by
  obtain ⟨cur, fr, hh, _, _, hs, _, _⟩ := h
  rw [cell_of_row w g i cur e fr hh]
  simp; omega
theorem ByRow.frozen (h : ByRow w g e cap l) {i : Nat} (hi : i < cap) : w.frozen? ⟨g, i, none⟩ = false := by
  obtain ⟨cur, ⟨a, b⟩, hh, hf, _, hs, _, _⟩ := h
  unfold World.frozen?
  rw [hh]
  rcases hf with hf | hf
  · have : ¬ a ≤ i := by simp only at hf; omega
    simp [this]
  · cases hf
    simp
theorem ByRow.le (h : ByRow w g e cap l) : l.length ≤ cap := by obtain ⟨_, _, _, _, h, _⟩ := h; exact h
theorem ByRow.cap63 (h : ByRow w g e cap l) : cap ≤ 9223372036854775807 := by obtain ⟨_, _, _, _, _, _, h, _⟩ := h; exact h
theorem heap_setCell_any {cur : Array Value} {fr : Nat × Nat} (h : w.heap[g]? = some (.cells cur e fr)) (i : Nat) (v : Value) : (w.setCell ⟨g, i, none⟩ v).heap[g]? = some (.cells (cur.setIfInBounds i v) e fr) := by
  simp [World.setCell, Array.getElem?_modify, h]
theorem ByRow.set (h : ByRow w g e cap l) (i : Nat) (b : UInt8) : ByRow (w.setCell ⟨g, i, none⟩ (.int .u8 (b.toNat : Int))) g e cap (l.set i b) := by
  obtain ⟨cur, fr, hh, hf, h1, hs, h2, hc⟩ := h
  refine ⟨_, fr, heap_setCell_any hh i _, by simpa using hf, by simpa using h1, by simpa using hs, h2, fun j hj => ?_⟩
  rw [List.length_set] at hj
  unfold byV
  rw [List.map_set]
  by_cases e : i = j
  · subst e
    rw [Array.getElem?_setIfInBounds_self_of_lt (by omega), List.getElem?_set_self (by simpa using hj)]
  · rw [Array.getElem?_setIfInBounds_ne e, List.getElem?_set_ne e]
    exact hc j hj
theorem ByRow.push (h : ByRow w g e cap l) (b : UInt8) (hr : l.length < cap) : ByRow (w.setCell ⟨g, l.length, none⟩ (.int .u8 (b.toNat : Int))) g e cap (l ++ [b]) := by
  obtain ⟨cur, fr, hh, hf, h1, hs, h2, hc⟩ := h
  refine ⟨_, fr, heap_setCell_any hh _ _, by simpa using hf, by simp; omega, by simpa using hs, h2, fun j hj => ?_⟩
  rw [List.length_append, List.length_singleton] at hj
  by_cases e : l.length = j
  · subst e
    rw [Array.getElem?_setIfInBounds_self_of_lt (by omega)]
    simp [byV]
  · rw [Array.getElem?_setIfInBounds_ne e, hc j (by omega), byV_append, List.getElem?_append_left (by rw [byV_length]; omega)]
theorem ByRow.other (h : ByRow w g e cap l) {k : Nat} (hk : g ≠ k) (i : Nat) (v : Value) : ByRow (w.setCell ⟨k, i, none⟩ v) g e cap l := by
  obtain ⟨cur, fr, hh, r⟩ := h
  exact ⟨cur, fr, (heap_setCell_other w _ g v hk).trans hh, r⟩
theorem ByRow.of_row {base : Nat} {v : Value} {n : Nat} (h : w.ownsRow base e 1 v n (byV l)) (hn : 0 < n) (hl : l.length = n) :
    ∃ g cap, v = .slice (some ⟨g, 0, none⟩) l.length cap ∧ base ≤ g ∧ ByRow w g e cap l := by
  obtain ⟨h1, h2 | ⟨g, cap, cur, rfl, hb, hh, hnc, hc, hs, ht⟩⟩ := h
  · omega
  · refine ⟨g, cap, by rw [hl], hb, cur, (0, 0), hh, .inr rfl, by omega, by omega, by unfold maxLen at hc; omega, fun j hj => ?_⟩
    rw [← ht, List.getElem?_take_of_lt (by omega)]
    simp
end
theorem ByRow.fresh (w : World) (e : TypeId) (s : ByteArray) (hs : s.size ≤ maxLen) : ByRow (Lib.bytesWorld w e s) w.heap.size e (grownCap w s.size 0 e) s.data.toList := by
  have hge := grownCap_ge w s.size 0 e
  have hle := grownCap_le_maxLen w s.size 0 e hs
  have hsz : (Lib.bytesCells w e s).size = grownCap w s.size 0 e := by
    simp only [Lib.bytesCells, Array.size_append, Array.size_map, Array.size_replicate]
    have : s.data.size = s.size := rfl
    omega
  refine ⟨_, _, Lib.bytesWorld_at_new w e s, .inl (Nat.le_refl _), by simpa using hge, by rw [hsz]; exact Nat.le_refl _, by unfold maxLen at hle; omega, fun j hj => ?_⟩
  have hj' : j < s.data.size := by simpa using hj
  unfold Lib.bytesCells
  rw [Array.getElem?_append_left (by simpa using hj')]
  simp [byV]
theorem bytesWorld_ext (w : World) (e : TypeId) (s : ByteArray) : Ext w (Lib.bytesWorld w e s) := by
  refine ⟨rfl, ?_, ?_, ?_, ?_⟩ <;> first | rfl | skip
  · rw [Lib.bytesWorld_size]; omega
  · exact fun k hk => Lib.bytesWorld_at_old w e s k hk

section
variable {P : Program} (w : World)
/-- One byte more. -/
theorem run_append_byte (t ty e : TypeId) (i : TypeInfo) (z : Value) (ht : P.underlying t = some (.slice e)) (hi : P.info? e = some i) (hz : i.zero = some z)
    (hsize : i.size = 1) (hby : i.bytes = 1) (hzs : z.cells.size = 1)
    (g cap : Nat) (l : List UInt8) (hr : ByRow w g e cap l) (ad : Addr) (c : Nat) (b : UInt8) (hb : w.cell? ad = some (.int .u8 (b.toNat : Int))) (hlen : l.length + 1 ≤ 140737488355328) :
    ∃ g' cap' w', (Builtin.append_ #[t, t] ty #[.slice (some ⟨g, 0, none⟩) l.length cap, .slice (some ad) 1 c]).run P w = .ok (.slice (some ⟨g', 0, none⟩) (l.length + 1) cap') w' ∧
      ByRow w' g' e cap' (l ++ [b]) ∧ w.grownBy w' (some g) ∧ (g' = g ∨ w.heap.size ≤ g') := by
  have hnews : ∀ j u, (byV [b])[j]? = some u → w.cell? (ad.add j) = some u := by
    intro j u hj
    have : j = 0 := by
      rcases Nat.eq_zero_or_pos j with h | h
      · exact h
      · rw [List.getElem?_eq_none (by rw [byV_length]; exact h)] at hj; cases hj
    subst this
    have e0 : ad.add 0 = ad := rfl
    rw [e0, hb]
    exact hj
  have h1 : ∀ u ∈ byV [b], u.oneCell' = true := by
    intro u hu
    simp [byV] at hu
    rw [hu]; rfl
  by_cases hroom : l.length + 1 ≤ cap
  · have hrun := run_append_room_cells (P := P) w t ty e i ht hi g 0 l.length cap ad 1 c (byV [b]) (by rw [hsize]; rfl) hnews h1 hroom
      (fun j hj => by
        obtain rfl : j = 0 := by rw [byV_length] at hj; simpa using hj
        rw [hsize]; exact hr.isSome (by omega))
      (fun j hj => by
        obtain rfl : j = 0 := by rw [byV_length] at hj; simpa using hj
        rw [hsize]; exact hr.frozen (by omega))
    refine ⟨g, cap, _, hrun, ?_, grownBy_setCells g _ _ w, .inl rfl⟩
    rw [hsize, Nat.zero_add, Nat.mul_one]
    exact hr.push b hroom
  · have hlo : (byV l).length = l.length * 1 := by rw [byV_length]; omega
    obtain ⟨v', w', hrun, h2, h3⟩ := run_append_arg_grows (P := P) w t ty e i z 1 1 ht hi hz hsize hby hzs (by decide) ⟨g, 0, none⟩ l.length cap (byV l) hlo
      (fun j u hj => by
        have hj' : j < l.length := by
          rcases Nat.lt_or_ge j l.length with h | h
          · exact h
          · rw [List.getElem?_eq_none (by rw [byV_length]; exact h)] at hj; cases hj
        rw [Addr.add_lit, Nat.zero_add, hr.cell hj', ← hj, byV_get hj'])
      ad 1 c (byV [b]) rfl hnews (by omega) (by unfold maxLen; omega) (by omega)
    rw [← byV_append] at h2
    obtain ⟨g', cap', rfl, hb', hr'⟩ := ByRow.of_row h2 (by omega) (by simp)
    refine ⟨g', cap', w', ?_, hr', ⟨h3.os, h3.tape, h3.output, h3.size, fun k hk _ => h3.block k hk (by simp)⟩, .inr hb'⟩
    rw [hrun]
    simp
theorem wpList_append_byte {ops : Array Oper} {rest : List Oper} {o : Oper} {a : Act} {Q : Exit → Act → World → Prop} (hgd : o.guard = none) (s x : Operand) (t : TypeId)
    (ho : o.op = .call { callee := .builtin .append, args := #[s, x], argTypes := #[t, t] })
    (e : TypeId) (i : TypeInfo) (z : Value) (ht : P.underlying t = some (.slice e)) (hi : P.info? e = some i) (hz : i.zero = some z)
    (hsize : i.size = 1) (hby : i.bytes = 1) (hzs : z.cells.size = 1)
    (g cap n : Nat) (l : List UInt8) (hs : a.eval s = .slice (some ⟨g, 0, none⟩) n cap) (hn : n = l.length) (hr : ByRow w g e cap l) (ad : Addr) (c : Nat) (b : UInt8) (hx : a.eval x = .slice (some ad) 1 c) (hb : w.cell? ad = some (.int .u8 (b.toNat : Int))) (hlen : l.length + 1 ≤ 140737488355328)
    (h : ∀ g' cap' w', ByRow w' g' e cap' (l ++ [b]) → w.grownBy w' (some g) → (g' = g ∨ w.heap.size ≤ g') → wpList P ops Q rest (a.put o.dst (.slice (some ⟨g', 0, none⟩) (n + 1) cap')) w') :
    wpList P ops Q (o :: rest) a w := by
  subst hn
  obtain ⟨g', cap', w', hrun, h2, h3, h4⟩ := run_append_byte (P := P) w t o.type e i z ht hi hz hsize hby hzs g cap l hr ad c b hb hlen
  refine wpList_plain hgd fun K hK => ?_
  unfold Oper.wp execOp
  simp only [ho, resolve, invoke, builtin, Sem.run_bind, Sem.run_pure, Result.andThen_ok, List.map_toArray, List.map_cons, List.map_nil, hs, hx, hrun]
  exact hK _ _ (h g' cap' w' h2 h3 h4)
end
end Go.Proofs.YtclhbcicbnoohaaGreatDoor

/- The reference's Sum: SHA3-256 of a string. -/
namespace Go.Proofs.YtclhbcicbnoohaaGreatDoor
open Go.RowKit

def lenV : Value → Nat
  | .slice _ n _ => n
  | _ => 0
theorem byte_info : (Tryz.prog.info? 5).map (fun i => (i.zero, i.size, i.bytes)) = some (some (.int .u8 0), 1, 1) := by kernel_rfl
theorem info5 : ∃ i, Tryz.prog.info? 5 = some i ∧ i.zero = some (.int .u8 0) ∧ i.size = 1 ∧ i.bytes = 1 := by
  obtain ⟨i, hi, h⟩ := Option.map_eq_some_iff.1 byte_info
  simp only [Prod.mk.injEq] at h
  exact ⟨i, hi, h.1, h.2.1, h.2.2⟩
theorem Ext.grownRow {a b c : World} {g : Nat} (h : Ext a b) (hg : b.grownBy c (some g)) (hb : a.heap.size ≤ g) : Ext a c :=
  Below.grown h hg h.size fun k hk => by cases hk; exact hb
/-- The padding under way: k zeros behind the 6. -/
def PadS (w wr : World) (m : List UInt8) (g cap k : Nat) : Prop := Ext w wr ∧ w.heap.size ≤ g ∧ ByRow wr g 5 cap (D.padZ m k)
set_option maxRecDepth 100000 in
theorem or128 (b : UInt8) : bits .or .u8 (b.toNat : Int) 128 = ((b ||| 128).toNat : Int) := by
  have h : ∀ n : Fin 256, bits .or .u8 (n.val : Int) 128 = ((n.val ||| 128 : Nat) : Int) := by decide
  have hb := b.toNat_lt
  rw [h ⟨b.toNat, hb⟩, UInt8.toNat_or]
  rfl
theorem mix_val (sh a b : Nat) (ha : a < 18446744073709551616) : bits .xor .u64 (a : Int) (IntKind.u64.wrap ((b : Int) * 2 ^ sh)) = ((a ^^^ (b * 2 ^ sh) % D.W64 : Nat) : Int) := by
  have e1 : IntKind.u64.wrap ((b : Int) * 2 ^ sh) = ((b * 2 ^ sh % D.W64 : Nat) : Int) := by
    rw [IntKind.wrap_u64]
    rfl
  rw [e1]
  exact xor_val ha (show _ < D.W64 from Nat.mod_lt _ (by decide))
/-- The digest's first k bytes, then zeros. -/
def D.outK (F : List Nat) (k : Nat) : List UInt8 := (D.outB F).take k ++ List.replicate (32 - k) 0
theorem D.outK_length (F : List Nat) {k : Nat} (h : k ≤ 32) : (D.outK F k).length = 32 := by
  have := D.outB_length F
  simp [D.outK, this]; omega
theorem D.outK_end (F : List Nat) : D.outK F 32 = D.outB F := by
  unfold D.outK
  rw [List.take_of_length_le (by rw [D.outB_length]; exact Nat.le_refl _)]
  simp
theorem D.outK_succ (F : List Nat) {k : Nat} (h : k < 32) : D.outK F (k + 1) = (D.outK F k).set k (UInt8.ofNat (F.getD (k / 8) 0 / 2 ^ (8 * (k % 8)) % 256)) := by
  have hl := D.outB_length F
  have hk : k < (D.outB F).length := by omega
  have e : (D.outB F)[k] = UInt8.ofNat (F.getD (k / 8) 0 / 2 ^ (8 * (k % 8)) % 256) := by simp [D.outB]
  unfold D.outK
  rw [List.take_succ_eq_append_getElem hk, e, List.set_append_right _ _ (by rw [List.length_take]; omega), List.length_take, Nat.min_eq_left (by omega), Nat.sub_self]
  obtain ⟨d, hd⟩ : ∃ d, 32 - k = d + 1 := ⟨31 - k, by omega⟩
  rw [hd, show 32 - (k + 1) = d by omega, List.replicate_succ, List.set_cons_zero]
  simp
theorem made32 : madeCells #[.int .u8 0] 32 = (byV (List.replicate 32 0)).toArray := by kernel_rfl
theorem outRow (wr : World) (F : List Nat) : ByRow (wr.alloc (.cells (madeCells #[.int .u8 0] 32) 5)) wr.heap.size 5 32 (D.outK F 0) := by
  rw [made32]
  refine ⟨_, _, heap_alloc_new wr _, .inr rfl, by rw [D.outK_length F (by decide)]; exact Nat.le_refl _, by simp [byV], by decide, fun j hj => ?_⟩
  rw [show D.outK F 0 = List.replicate 32 0 by simp [D.outK]]
  simp
theorem out_val (sh a : Nat) : (a : Int) / 2 ^ sh % 256 = (((UInt8.ofNat (a / 2 ^ sh % 256)).toNat : Nat) : Int) := by
  have : (UInt8.ofNat (a / 2 ^ sh % 256)).toNat = a / 2 ^ sh % 256 := by simp
  rw [this]
  rfl
/-- The blocks under way: the padded bytes in block g, the state in block G. -/
def BlkS (w wr : World) (g G cap : Nat) (l : List UInt8) (st : List Nat) : Prop := Ext w wr ∧ w.heap.size ≤ g ∧ ByRow wr g 5 cap l ∧ ArrAt wr G 121 st ∧ g < G
theorem BlkS.ext {w wr w' : World} {g G cap : Nat} {l : List UInt8} {st : List Nat} (h : BlkS w wr g G cap l st) (he : Ext wr w') : BlkS w w' g G cap l st :=
  ⟨h.1.trans he, h.2.1, h.2.2.1.ext he, h.2.2.2.1.ext he, h.2.2.2.2⟩
theorem BlkS.set {w wr : World} {g G cap : Nat} {l : List UInt8} {st : List Nat} (h : BlkS w wr g G cap l st) (i a : Nat) : BlkS w (wr.setCell ⟨G, i, none⟩ (.int .u64 ((a : Nat) : Int))) g G cap l (st.set i a) :=
  ⟨h.1.setCell (by have := h.2.1; have := h.2.2.2.2; simp; omega) _, h.2.1, h.2.2.1.other (by have := h.2.2.2.2; omega) _ _, h.2.2.2.1.set i a, h.2.2.2.2⟩
theorem BlkS.put {w wr : World} {g G cap : Nat} {l : List UInt8} {st : List Nat} (h : BlkS w wr g G cap l st) (r : List Nat) : BlkS w (wr.setRow G (rowU r)) g G cap l r := by
  refine ⟨h.1.setRow (by have := h.2.1; have := h.2.2.2.2; omega) _, h.2.1, ?_, heap_setRow _ _ _ h.2.2.2.1, h.2.2.2.2⟩
  obtain ⟨cur, fr, hh, r⟩ := h.2.2.1
  exact ⟨cur, fr, (heap_setRow_other _ _ _ _ (by have := h.2.2.2.2; omega)).trans hh, r⟩
set_option maxRecDepth 100000 in
set_option maxHeartbeats 2000000 in
theorem rSum_any (s : ByteArray) (w : World) (hs : s.size ≤ 1000000000000) : Calls Tryz.prog 88 #[.string s] w (Al (.string ⟨(D.sha s.data.toList).toArray⟩) w) := by
  obtain ⟨R, hR⟩ : ∃ R, R = D.sha s.data.toList := ⟨_, rfl⟩
  rw [← hR]
  have HR := Lib.hid hR
  clear hR
  obtain ⟨i5, hi5, hz5, hs5, hb5⟩ := info5
  have hcv := fun W => Lib.run_convert_string_bytes (P := Tryz.prog) W 9 102 5 s Tryz.underlying9 Tryz.underlying102 Tryz.underlying5
  obtain ⟨m, hm⟩ : ∃ m, m = s.data.toList := ⟨_, rfl⟩
  obtain ⟨n, hn⟩ : ∃ n, n = s.size := ⟨_, rfl⟩
  have hml : m.length = n := by rw [hm, hn]; exact Array.length_toList
  rw [← hn] at hcv hs
  have HB0 := Lib.hid (fun W : World => ByRow.fresh W 5 s (by unfold maxLen; omega))
  rw [← hm, ← hn] at HB0
  rw [← hm] at HR
  clear hm hn
  have HML := Lib.hid hml
  clear hml
  go_enter Tryz.func88, Tryz.ntmps88
  go_upto_region 2 with (fail)
  have HB1 := HB0.out w
  have hE1 := bytesWorld_ext w 5 s
  have hz1 := Lib.bytesWorld_size w 5 s
  generalize Lib.bytesWorld w 5 s = W1 at *
  generalize grownCap w n 0 5 = c1 at *
  have hB1 := Lib.hid HB1
  have HE1 := Lib.hid hE1
  have HZ1 := Lib.hid hz1
  clear HB1 hE1 hz1
  go_wp2_with (at_builtin; (refine wpList_append_byte _ rfl (.tmp 11) (.tmp 12) 102 rfl 5 i5 (.int .u8 0) Tryz.underlying102 hi5 hz5 hs5 hb5 rfl w.heap.size c1 n m rfl HML.out.symm (hB1.out.ext ((Ext.refl _).alloc _)) ⟨W1.heap.size, 0, none⟩ 1 6 rfl (cell_new W1 #[.int .u8 6] 5 0) (by rw [HML.out]; omega) ?_; intro g2 c2 w2 hB2 hg2 hg2'))
  have hP2 : PadS w w2 m g2 c2 0 := ⟨(HE1.out.alloc _).grownRow hg2 (by simp), by
    have hz := HZ1.out
    rcases hg2' with h | h
    · omega
    · simp at h; omega, hB2⟩
  have HP2 := Lib.hid hP2
  clear hP2 hB2 hg2 hg2'
  go_loopw [3] (fun b wr => ∃ k g cap : Nat, k ≤ 135 - n % 136 ∧ b = .slice (some ⟨g, 0, none⟩) (n + 1 + k) cap ∧ Hid (PadS w wr m g cap k)) (fun b _ => n + 137 - lenV b)
  case atStart => exact ⟨0, g2, c2, Nat.zero_le _, rfl, HP2.out⟩
  case round =>
    clear HP2 hB1 HE1 HZ1 HB0 hcv
    obtain ⟨k, g, cap, hk, rfl, HK⟩ := hrel
    by_cases hend : k = 135 - n % 136
    · obtain ⟨L, hL⟩ : ∃ L, L = n + 1 + k := ⟨_, rfl⟩
      obtain ⟨q, hq⟩ : ∃ q, q = n / 136 + 1 := ⟨_, rfl⟩
      have hLq : L = q * 136 := by omega
      have q1 : (L : Int) % 136 = 0 := by omega
      have q2 : Int.tmod (L : Int) 136 = 0 := by rw [Int.tmod_eq_emod_of_nonneg (by omega)]; exact q1
      have hpl := D.padZ_length m k
      rw [HML.out, ← hL] at hpl
      have hle := HK.out.2.2.le
      have hca := HK.out.2.2.cell (i := L - 1) (by omega)
      have hsm := HK.out.2.2.isSome (i := L - 1) (by omega)
      have hfz := HK.out.2.2.frozen (i := L - 1) (by omega)
      have HSET := Lib.hid (HK.out.2.2.set (L - 1) ((D.padZ m k).getD (L - 1) 0 ||| 128))
      have HPM : Hid ((D.padZ m k).set (L - 1) ((D.padZ m k).getD (L - 1) 0 ||| 128) = D.padM m (135 - n % 136)) := by
        unfold Hid D.padM
        rw [HML.out, ← hend, show n + k = L - 1 by omega]
      rw [HPM.out] at HSET
      have HOR := Lib.hid (or128 ((D.padZ m k).getD (L - 1) 0))
      generalize (D.padZ m k).getD (L - 1) 0 = lb at hca HOR HSET
      have HQ := Lib.hid hq
      have HLQ := Lib.hid hLq
      rw [← hL]
      have hi1 : (L : Int) - 1 = ((L - 1 : Nat) : Int) := by omega
      have hLs : L ≤ 1000000000200 := by omega
      obtain ⟨p, hp⟩ : ∃ p, p = L - 1 := ⟨_, rfl⟩
      rw [← hp] at hi1 hca hsm hfz HSET
      have hpL : p < L := by omega
      clear hq hL hpl hp hend hle hLq HPM
      go_upto_region 7 with (fail)
      generalize hW : World.alloc (World.setCell wr _ _) _ = W2
      obtain ⟨G, hG⟩ : ∃ G, G = wr.heap.size := ⟨_, rfl⟩
      rw [← hG]
      have hB : BlkS w W2 g G cap (D.padM m (135 - n % 136)) (List.replicate 25 0) := by
        have hG' : G = (wr.setCell ⟨g, p, none⟩ (.int .u8 ((lb ||| 128).toNat : Int))).heap.size := by rw [hG]; simp
        rw [← hW, hG', HOR.out]
        have e : Ext (wr.setCell ⟨g, p, none⟩ (.int .u8 ((lb ||| 128).toNat : Int))) ((wr.setCell ⟨g, p, none⟩ (.int .u8 ((lb ||| 128).toNat : Int))).alloc (.cells (rowU (List.replicate 25 0)) 121)) := (Ext.refl _).alloc _
        exact ⟨(HK.out.1.setCell HK.out.2.1 _).trans e, HK.out.2.1, HSET.out.ext e, heap_alloc_new _ _, by have := HK.out.2.2.lt; simpa using this⟩
      have HB := Lib.hid hB
      have HPL2 : Hid ((D.padM m (135 - n % 136)).length = q * 136) := by
        unfold Hid
        rw [D.padM_length, HML.out, HQ.out]
        omega
      obtain ⟨P, hP⟩ : ∃ P, P = D.padM m (135 - n % 136) := ⟨_, rfl⟩
      rw [← hP] at HB HPL2
      have HP := Lib.hid hP
      clear hB hW hG hP HK hca hsm hfz HSET HOR hi1 hk q1 q2 hpL
      go_wp2_with fail
      go_loopw [5] (fun i wr => ∃ t x : Nat, t ≤ q ∧ i = .int .i64 x ∧ Hid (x = t * 136 ∧ BlkS w wr g G cap P (D.takeN (List.replicate 25 0) t P))) (fun i _ => L + 136 - (intOf i).toNat)
      case atStart => exact ⟨0, 0, Nat.zero_le _, rfl, (Nat.zero_mul _).symm, HB.out⟩
      case round =>
        clear HB
        obtain ⟨t, x, ht, rfl, HK⟩ := hrel
        by_cases hlt : x < L
        · have hdx : decide ((x : Int) < (L : Int)) = true := decide_eq_true (by omega)
          have hx := HK.out.1
          have hq := HLQ.out
          have htq : t < q := by omega
          have HXL : Hid (x + 136 ≤ L) := by unfold Hid; omega
          clear hx hq
          obtain ⟨st, hst⟩ : ∃ st, st = D.takeN (List.replicate 25 0) t P := ⟨_, rfl⟩
          have HBK := Lib.hid HK.out.2
          have HX := Lib.hid HK.out.1
          rw [← hst] at HBK
          have HST := Lib.hid hst
          have hsl : st.length = 25 := by rw [hst]; exact D.takeN_length rfl _ _
          have hss : D.Small st := by rw [hst]; exact D.takeN_small (D.small_zero 25) _ _
          have HSL := Lib.hid hsl
          have HSS := Lib.hid hss
          clear HK hst hsl hss
          go_wp2_with fail
          go_loopw [6] (fun i wr => ∃ j : Nat, j ≤ 136 ∧ i = .int .i64 j ∧ Hid (BlkS w wr g G cap P (D.mixK st (P.drop x) j))) (fun i _ => 136 - (intOf i).toNat)
          case atStart => exact ⟨0, Nat.zero_le _, rfl, HBK.out⟩
          case round =>
            clear HBK
            obtain ⟨j, hj, rfl, HJ⟩ := hrel
            by_cases hlj : j < 136
            · obtain ⟨d, hd⟩ : ∃ d, d = j / 8 := ⟨_, rfl⟩
              obtain ⟨e, he⟩ : ∃ e, e = j % 8 := ⟨_, rfl⟩
              obtain ⟨sh, hsh⟩ : ∃ sh, sh = 8 * e := ⟨_, rfl⟩
              obtain ⟨y, hy⟩ : ∃ y, y = x + j := ⟨_, rfl⟩
              have q3 : (j : Int) / 8 = (d : Int) := by omega
              have q3' : Int.tdiv (j : Int) 8 = (d : Int) := by rw [Int.tdiv_eq_ediv_of_nonneg (by omega)]; exact q3
              have q4 : (j : Int) % 8 = (e : Int) := by omega
              have q4' : Int.tmod (j : Int) 8 = (e : Int) := by rw [Int.tmod_eq_emod_of_nonneg (by omega)]; exact q4
              have q5 : 8 * (e : Int) = (sh : Int) := by omega
              have q6 : (x : Int) + (j : Int) = (y : Int) := by omega
              have hd25 : d < 25 := by omega
              have he8 : e < 8 := by omega
              have hsh56 : sh ≤ 56 := by omega
              have hyL : y < L := by have := HXL.out; omega
              have hvl := (D.mixK_length st (P.drop x) j).trans HSL.out
              have c0 := HJ.out.2.2.2.1.cell (i := d) (by omega)
              have f0 := HJ.out.2.2.2.1.frozen d
              have c1 := HJ.out.2.2.1.cell (i := y) (by rw [HPL2.out, ← HLQ.out]; exact hyL)
              have b0 : (D.mixK st (P.drop x) j).getD d 0 < 18446744073709551616 := (D.mixK_small HSS.out (P.drop x) j).get d
              have HSET := Lib.hid (HJ.out.ext (Ext.refl wr).drew)
              have HMX : Hid (D.mixK st (P.drop x) (j + 1) = (D.mixK st (P.drop x) j).set d ((D.mixK st (P.drop x) j).getD d 0 ^^^ ((P.getD y 0).toNat * 2 ^ sh) % D.W64)) := by
                unfold Hid
                rw [D.mixK, ← hd, ← he, ← hsh, hy]
                simp [List.getD_eq_getElem?_getD, List.getElem?_drop]
              have hbb : (P.getD y 0).toNat ≤ 255 := by have := (P.getD y 0).toNat_lt; omega
              generalize D.mixK st (P.drop x) j = v at HSET HMX HJ c0 b0 hvl
              have HJ' := Lib.hid HJ.out.1
              generalize v.getD d 0 = a0 at c0 b0 HMX
              generalize (P.getD y 0).toNat = bb at c1 hbb HMX
              have HV := Lib.hid (mix_val sh a0 bb b0)
              clear hd he hsh hy hvl HJ
              go_wp2_with fail
              obtain ⟨Φ, hΦ⟩ : ∃ Φ : World → Prop, ∀ x, Φ x ↔ x = wr.drew := ⟨_, fun _ => Iff.rfl⟩
              have h0 : Φ wr.drew := (hΦ _).2 rfl
              have fx0 : ∀ x : Lat Φ, x.w'.cell? ⟨G, d, none⟩ = some (.int .u64 (a0 : Int)) := fun x => by rw [(hΦ _).1 x.h]; exact c0
              have fx1 : ∀ x : Lat Φ, x.w'.cell? ⟨g, y, none⟩ = some (.int .u8 (bb : Int)) := fun x => by rw [(hΦ _).1 x.h]; exact c1
              have hne := Lat.some h0
              clear hΦ
              refine wp_region_tail 20 [] Φ h0 (by kernel_rfl) (by kernel_rfl) (by kernel_rfl) ?_
              simp only [List.take_succ_cons, List.take_zero, List.drop_succ_cons, List.drop_zero]
              iterate 20 (refine lex_pure rfl rfl rfl ?_; intro K hK; go_big_quiet_op; go_big_quiet_on)
              refine lex_nil ?_
              clear fx0 fx1 hne h0
              go_wp2_with fail
              refine ⟨⟨j + 1, by omega, by go_num, ?_⟩, by simp [intOf]; omega⟩
              rw [HMX.out]
              have := HSET.out.set d (a0 ^^^ bb * 2 ^ sh % D.W64)
              rw [HV.out]
              exact this
            · obtain rfl : j = 136 := by omega
              have hvl := (D.mixK_length st (P.drop x) 136).trans HSL.out
              have hvs := D.mixK_small HSS.out (P.drop x) 136
              have HPM := Lib.hid (fun W => rPermute_any (D.mixK st (P.drop x) 136) W hvl hvs)
              have hrl := D.perm_length hvl
              have hi := Lib.hid (info121 hvl)
              have hi' := Lib.hid (info121 hrl)
              have HZ := Lib.hid (show (rowU (D.mixK st (P.drop x) 136)).size = (rowU (D.perm (D.mixK st (P.drop x) 136))).size by rw [rowU_size, rowU_size, hvl, hrl])
              have HNX : Hid (D.takeN (List.replicate 25 0) (t + 1) P = D.perm (D.mixK st (P.drop x) 136)) := by
                unfold Hid
                rw [D.takeN_succ, D.take1_take, ← HX.out, ← HST.out]
                rfl
              have HJ2 := Lib.hid HJ.out
              clear HJ hvl hvs hrl
              generalize D.perm (D.mixK st (P.drop x) 136) = s2 at HPM hi' HZ HNX
              generalize D.mixK st (P.drop x) 136 = v at HPM hi HZ HJ2
              have hA : wr.heap[G]? = some (.cells (rowU v) 121 (0, 0)) := HJ2.out.2.2.2.1
              go_wp2_with (refine wpList_load_row rfl 121 _ rfl G rfl 121 _ (0, 0) _ hA Tryz.underlying121 rfl hi.out ?_)
              refine (HPM.out _).mono ?_
              rintro e w5 ⟨rfl, d5⟩
              have HJ5 := Lib.hid (HJ2.out.ext d5)
              clear HJ2 hA d5
              have hA5 : w5.heap[G]? = some (.cells (rowU v) 121 (0, 0)) := HJ5.out.2.2.2.1
              go_wp2_with (refine wpList_store_row rfl 121 (.tmp 4) (.tmp 64) rfl G (rowU s2) rfl rfl 121 _ hA5 hi'.out HZ.out (rowU_one s2) ?_)
              refine ⟨⟨t + 1, x + 136, by omega, by go_num, ?_⟩, by simp [intOf]; omega⟩
              exact ⟨by have := HX.out; omega, by rw [HNX.out]; exact HJ5.out.put s2⟩
        · have hdx : decide ((x : Int) < (L : Int)) = false := decide_eq_false (by omega)
          have HF : Hid (t = q) := by
            have hx := HK.out.1
            have hq := HLQ.out
            unfold Hid
            omega
          obtain ⟨F, hF⟩ : ∃ F, F = D.takeN (List.replicate 25 0) q P := ⟨_, rfl⟩
          have HB : Hid (BlkS w wr g G cap P F) := by
            have := HK.out.2
            rw [HF.out, ← hF] at this
            exact this
          have HRF : Hid (R = D.outB F) := by
            unfold Hid
            rw [HR.out, D.sha_pad, HML.out, ← HP.out, ← HQ.out, hF]
          have hFl : F.length = 25 := by rw [hF]; exact D.takeN_length rfl _ _
          have HFL := Lib.hid hFl
          have hmk := fun W => run_make_row' (P := Tryz.prog) 102 5 (.int .u8 0) 1 Tryz.underlying102 byte_info rfl .i64 .i64 32 (by decide) (by decide) W
          rw [show ((32 : Nat) : Int) = 32 from rfl] at hmk
          have hdx2 : decide (x < L) = false := decide_eq_false hlt
          have hge : L ≤ x := by omega
          clear HK HF hF hFl ht
          go_upto_region 16 with (fail)
          generalize hW3 : World.alloc wr _ = W3
          have hB3 : BlkS w W3 g G cap P F ∧ ByRow W3 wr.heap.size 5 32 (D.outK F 0) ∧ G < wr.heap.size := by
            rw [← hW3]
            exact ⟨HB.out.ext ((Ext.refl wr).alloc _), outRow wr F, HB.out.2.2.2.1.lt⟩
          obtain ⟨O, hO⟩ : ∃ O, O = wr.heap.size := ⟨_, rfl⟩
          rw [← hO] at hB3 ⊢
          have HB3 := Lib.hid hB3
          clear hO hB3 hW3 HB hmk hdx hdx2
          go_wp2_with fail
          go_loopw [8] (fun i wr => ∃ k : Nat, k ≤ 32 ∧ i = .int .i64 k ∧ Hid (BlkS w wr g G cap P F ∧ ByRow wr O 5 32 (D.outK F k) ∧ G < O)) (fun i _ => 32 - (intOf i).toNat)
          case atStart => exact ⟨0, Nat.zero_le _, rfl, HB3.out⟩
          case round =>
            clear HB3
            obtain ⟨k, hk, rfl, HK⟩ := hrel
            by_cases hlk : k < 32
            · obtain ⟨d, hd⟩ : ∃ d, d = k / 8 := ⟨_, rfl⟩
              obtain ⟨e, he⟩ : ∃ e, e = k % 8 := ⟨_, rfl⟩
              obtain ⟨sh, hsh⟩ : ∃ sh, sh = 8 * e := ⟨_, rfl⟩
              have q3 : (k : Int) / 8 = (d : Int) := by omega
              have q3' : Int.tdiv (k : Int) 8 = (d : Int) := by rw [Int.tdiv_eq_ediv_of_nonneg (by omega)]; exact q3
              have q4 : (k : Int) % 8 = (e : Int) := by omega
              have q4' : Int.tmod (k : Int) 8 = (e : Int) := by rw [Int.tmod_eq_emod_of_nonneg (by omega)]; exact q4
              have q5 : 8 * (e : Int) = (sh : Int) := by omega
              have hd4 : d < 4 := by omega
              have he8 : e < 8 := by omega
              have hsh56 : sh ≤ 56 := by omega
              have c0 := HK.out.1.2.2.2.1.cell (i := d) (by have := HFL.out; omega)
              have c1 := HK.out.2.1.cell (i := k) (by rw [D.outK_length F hk]; exact hlk)
              have f1 := HK.out.2.1.frozen (i := k) hlk
              have HN := Lib.hid (D.outK_succ F hlk)
              rw [← hd, ← he, ← hsh] at HN
              have HB : Hid (∀ b : UInt8, BlkS w (wr.setCell ⟨O, k, none⟩ (.int .u8 (b.toNat : Int))) g G cap P F ∧ ByRow (wr.setCell ⟨O, k, none⟩ (.int .u8 (b.toNat : Int))) O 5 32 ((D.outK F k).set k b) ∧ G < O) := by
                intro b
                obtain ⟨⟨h1, h2, h3, h4, h5⟩, h6, h7⟩ := HK.out
                exact ⟨⟨h1.setCell (by simp only; omega) _, h2, h3.other (by omega) _ _, h4.other (by omega) _ _, h5⟩, h6.set k b, h7⟩
              generalize F.getD d 0 = a0 at c0 HN
              have HV := Lib.hid (out_val sh a0)
              generalize ((D.outK F k).getD k 0).toNat = old at c1
              clear hd he hsh HK
              go_wp2_with fail
              refine ⟨⟨k + 1, by omega, by go_num, ?_⟩, by simp [intOf]; omega⟩
              rw [HV.out, HN.out]
              exact HB.out _
            · obtain rfl : k = 32 := by omega
              have hol := D.outK_length F (Nat.le_refl 32)
              have hcv := run_convert_bytes_back (P := Tryz.prog) wr 102 9 5 ⟨O, 0, none⟩ 32 (D.outK F 32) Tryz.underlying102 Tryz.underlying5 Tryz.underlying9 (fun j hj => by
                rw [Addr.add_lit, Nat.zero_add, HK.out.2.1.cell hj, List.getD_eq_getElem?_getD, List.getElem?_eq_getElem hj]
                rfl)
              rw [hol, D.outK_end, ← HRF.out] at hcv
              have HE := Lib.hid HK.out.1.1
              clear HK hol
              go_wp2_with fail
              go_ret
              exact ⟨rfl, HE.out⟩
    · obtain ⟨L, hL⟩ : ∃ L, L = n + 1 + k := ⟨_, rfl⟩
      obtain ⟨r, hr⟩ : ∃ r, r = L % 136 := ⟨_, rfl⟩
      have hr0 : ¬ (r = 0) := by omega
      have q1 : (L : Int) % 136 = (r : Int) := by omega
      have q2 : Int.tmod (L : Int) 136 = (r : Int) := by rw [Int.tmod_eq_emod_of_nonneg (by omega)]; exact q1
      have hd1 : ((r : Int) == 0) = false := by simpa using hr0
      have hd2 : decide ((r : Int) = 0) = false := by simpa using hr0
      have HL := Lib.hid hL
      have hpl := D.padZ_length m k
      rw [HML.out, ← hL] at hpl
      have HPL := Lib.hid hpl
      rw [← hL]
      have hLs : L ≤ 1000000000200 := by omega
      clear hr hL hpl
      go_wp2_with (at_builtin; (refine wpList_append_byte _ rfl (.tmp 18) (.tmp 19) 102 rfl 5 i5 (.int .u8 0) Tryz.underlying102 hi5 hz5 hs5 hb5 rfl g cap L (D.padZ m k) rfl HPL.out.symm (HK.out.2.2.ext ((Ext.refl _).alloc _)) ⟨wr.heap.size, 0, none⟩ 1 0 rfl (cell_new wr #[.int .u8 0] 5 0) (by rw [HPL.out]; omega) ?_; intro g3 c3 w3 hB3 hg3 hg3'))
      refine ⟨⟨k + 1, g3, c3, by omega, by rw [HL.out]; rfl, ?_⟩, ?_⟩
      · exact ⟨(HK.out.1.alloc _).grownRow hg3 HK.out.2.1, by
          have h1 := HK.out.1.size
          have h2 := HK.out.2.1
          rcases hg3' with h | h
          · omega
          · simp at h; omega, by rw [D.padZ_succ]; exact hB3⟩
      · have hl := HL.out
        simp only [lenV]
        omega
end Go.Proofs.YtclhbcicbnoohaaGreatDoor

/- The given Sponge: its row, absorb. -/
namespace Go.Proofs.YtclhbcicbnoohaaGreatDoor
open Go.RowKit

def wdV (s : List Nat) : List Value := s.map fun a => Value.int .u64 ((a : Nat) : Int)
theorem wdV_length (s : List Nat) : (wdV s).length = s.length := by simp [wdV]
theorem rowU_eq (s : List Nat) : rowU s = (wdV s).toArray := rfl
/-- The cells of a Sponge. -/
def spR (st : List Nat) (rv : Value) (tk : Int) (sn : List Nat) (tl sm : ByteArray) : List Value := wdV st ++ (rv :: .int .i64 tk :: (wdV sn ++ [.string tl, .string sm]))
theorem setArr_list : ∀ (vs : List Value) (a b c : List Value), b.length = vs.length → setArr (a ++ b ++ c).toArray a.length vs = (a ++ vs ++ c).toArray
  | [], a, b, c, h => by
    have : b = [] := List.eq_nil_of_length_eq_zero h
    subst this
    rfl
  | v :: vs, a, b, c, h => by
    obtain ⟨x, b', rfl⟩ : ∃ x b', b = x :: b' := by
      cases b with
      | nil => cases h
      | cons x b' => exact ⟨x, b', rfl⟩
    have e : ((a ++ x :: b' ++ c).toArray.setIfInBounds a.length v) = ((a ++ [v]) ++ b' ++ c).toArray := by
      apply Array.ext'
      simp
    have := setArr_list vs (a ++ [v]) b' c (by simpa using h)
    rw [setArr, e]
    rw [List.length_append, List.length_singleton] at this
    rw [this]
    simp
/-- A Sponge lies in block g. -/
structure Spg (w : World) (g : Nat) (st : List Nat) (rv : Value) (tk : Int) (sn : List Nat) (tl sm : ByteArray) : Prop where
  heap : w.heap[g]? = some (.cells (spR st rv tk sn tl sm).toArray 130 (0, 0))
  st25 : st.length = 25
  sn25 : sn.length = 25
section
variable {w w' : World} {g : Nat} {st sn : List Nat} {rv : Value} {tk : Int} {tl sm : ByteArray}
theorem spR_length (h : st.length = 25) (h' : sn.length = 25) : (spR st rv tk sn tl sm).length = 54 := by simp [spR, wdV_length, h, h']
theorem Spg.lt (h : Spg w g st rv tk sn tl sm) : g < w.heap.size := (Array.getElem?_eq_some_iff.1 h.heap).1
theorem Spg.cell (h : Spg w g st rv tk sn tl sm) (i : Nat) : w.cell? ⟨g, i, none⟩ = (spR st rv tk sn tl sm)[i]? := by
  rw [cell_of_row w g i _ _ _ h.heap]
  simp
theorem Spg.frozen (h : Spg w g st rv tk sn tl sm) (i : Nat) : w.frozen? ⟨g, i, none⟩ = false := Lib.frozen_of_heap h.heap i
theorem Spg.word (h : Spg w g st rv tk sn tl sm) {i : Nat} (hi : i < 25) : w.cell? ⟨g, i, none⟩ = some (.int .u64 ((st.getD i 0 : Nat) : Int)) := by
  have h25 := h.st25
  rw [h.cell, spR, List.getElem?_append_left (by rw [wdV_length]; omega)]
  simp [wdV, h25, hi]
theorem Spg.rest (h : Spg w g st rv tk sn tl sm) : w.cell? ⟨g, 25, none⟩ = some rv := by
  rw [h.cell, spR, List.getElem?_append_right (by rw [wdV_length, h.st25]; decide), wdV_length, h.st25]
  rfl
theorem Spg.taken (h : Spg w g st rv tk sn tl sm) : w.cell? ⟨g, 26, none⟩ = some (.int .i64 tk) := by
  rw [h.cell, spR, List.getElem?_append_right (by rw [wdV_length, h.st25]; decide), wdV_length, h.st25]
  rfl
theorem Spg.tail (h : Spg w g st rv tk sn tl sm) : w.cell? ⟨g, 52, none⟩ = some (.string tl) := by
  rw [h.cell, spR, List.getElem?_append_right (by rw [wdV_length, h.st25]; decide), wdV_length, h.st25]
  show (wdV sn ++ [.string tl, .string sm])[25]? = _
  rw [List.getElem?_append_right (by rw [wdV_length, h.sn25]; decide), wdV_length, h.sn25]
  rfl
theorem Spg.sum (h : Spg w g st rv tk sn tl sm) : w.cell? ⟨g, 53, none⟩ = some (.string sm) := by
  rw [h.cell, spR, List.getElem?_append_right (by rw [wdV_length, h.st25]; decide), wdV_length, h.st25]
  show (wdV sn ++ [.string tl, .string sm])[26]? = _
  rw [List.getElem?_append_right (by rw [wdV_length, h.sn25]; decide), wdV_length, h.sn25]
  rfl
theorem Spg.state (h : Spg w g st rv tk sn tl sm) : w.rangeAt g 0 (wdV st) := fun j v hj => by
  rw [Nat.zero_add, h.cell, spR, List.getElem?_append_left (List.getElem?_eq_some_iff.1 hj).1]
  exact hj
theorem Spg.seen (h : Spg w g st rv tk sn tl sm) : w.rangeAt g 27 (wdV sn) := fun j v hj => by
  rw [h.cell, spR, List.getElem?_append_right (by rw [wdV_length, h.st25]; omega), wdV_length, h.st25, show 27 + j - 25 = j + 1 + 1 by omega]
  show (wdV sn ++ [.string tl, .string sm])[j]? = _
  rw [List.getElem?_append_left (List.getElem?_eq_some_iff.1 hj).1]
  exact hj
theorem Spg.there (h : Spg w g st rv tk sn tl sm) {o n : Nat} (hn : o + n ≤ 54) : w.there g o n := fun j hj => ⟨by
  rw [h.cell, List.getElem?_eq_getElem (by rw [spR_length h.st25 h.sn25]; omega)]
  rfl, h.frozen _⟩
theorem Spg.other (h : Spg w g st rv tk sn tl sm) (hh : w'.heap[g]? = w.heap[g]?) : Spg w' g st rv tk sn tl sm := ⟨hh.trans h.heap, h.st25, h.sn25⟩
theorem Spg.setState (h : Spg w g st rv tk sn tl sm) {s : List Nat} (hs : s.length = 25) : Spg (w.setCells g 0 (wdV s)) g s rv tk sn tl sm := by
  refine ⟨?_, hs, h.sn25⟩
  rw [heap_setCells_at g (wdV s) 0 w _ 130 h.heap]
  have := setArr_list (wdV s) [] (wdV st) (rv :: .int .i64 tk :: (wdV sn ++ [.string tl, .string sm])) (by rw [wdV_length, wdV_length, hs, h.st25])
  simp only [List.nil_append, List.length_nil] at this
  rw [spR, this]
  rfl
theorem Spg.setSeen (h : Spg w g st rv tk sn tl sm) {s : List Nat} (hs : s.length = 25) : Spg (w.setCells g 27 (wdV s)) g st rv tk s tl sm := by
  refine ⟨?_, h.st25, hs⟩
  rw [heap_setCells_at g (wdV s) 27 w _ 130 h.heap]
  have := setArr_list (wdV s) (wdV st ++ [rv, .int .i64 tk]) (wdV sn) [.string tl, .string sm] (by rw [wdV_length, wdV_length, hs, h.sn25])
  rw [List.length_append, wdV_length, h.st25] at this
  have e : ∀ x : List Nat, spR st rv tk x tl sm = wdV st ++ [rv, .int .i64 tk] ++ wdV x ++ [.string tl, .string sm] := fun x => by simp [spR]
  rw [e, e]
  exact congrArg (fun a => some (Obj.cells a 130 (0, 0))) this
theorem Spg.setWord (h : Spg w g st rv tk sn tl sm) {i : Nat} (hi : i < 25) (a : Nat) : Spg (w.setCell ⟨g, i, none⟩ (.int .u64 ((a : Nat) : Int))) g (st.set i a) rv tk sn tl sm := by
  refine ⟨?_, by rw [List.length_set]; exact h.st25, h.sn25⟩
  rw [heap_setCell_same w g i _ 130 _ h.heap]
  have : ((spR st rv tk sn tl sm).set i (.int .u64 ((a : Nat) : Int))) = spR (st.set i a) rv tk sn tl sm := by
    unfold spR
    rw [List.set_append_left _ _ (by rw [wdV_length, h.st25]; exact hi)]
    simp [wdV, List.map_set]
  rw [← this]
  simp
theorem Spg.setRest (h : Spg w g st rv tk sn tl sm) (v : Value) : Spg (w.setCell ⟨g, 25, none⟩ v) g st v tk sn tl sm := by
  refine ⟨?_, h.st25, h.sn25⟩
  rw [heap_setCell_same w g 25 _ 130 _ h.heap]
  have : ((spR st rv tk sn tl sm).set 25 v) = spR st v tk sn tl sm := by
    unfold spR
    rw [List.set_append_right _ _ (by rw [wdV_length, h.st25]; decide), wdV_length, h.st25]
    rfl
  rw [← this]
  simp
theorem Spg.setTaken (h : Spg w g st rv tk sn tl sm) (v : Int) : Spg (w.setCell ⟨g, 26, none⟩ (.int .i64 v)) g st rv v sn tl sm := by
  refine ⟨?_, h.st25, h.sn25⟩
  rw [heap_setCell_same w g 26 _ 130 _ h.heap]
  have : ((spR st rv tk sn tl sm).set 26 (.int .i64 v)) = spR st rv v sn tl sm := by
    unfold spR
    rw [List.set_append_right _ _ (by rw [wdV_length, h.st25]; decide), wdV_length, h.st25]
    rfl
  rw [← this]
  simp
end
end Go.Proofs.YtclhbcicbnoohaaGreatDoor

/- The given Sponge: absorb. -/
namespace Go.Proofs.YtclhbcicbnoohaaGreatDoor
open Go.RowKit

section
variable {w w' : World} {g : Nat} {st sn : List Nat} {rv : Value} {tk : Int} {tl sm : ByteArray}
theorem Spg.setTail (h : Spg w g st rv tk sn tl sm) (v : ByteArray) : Spg (w.setCell ⟨g, 52, none⟩ (.string v)) g st rv tk sn v sm := by
  refine ⟨?_, h.st25, h.sn25⟩
  rw [heap_setCell_same w g 52 _ 130 _ h.heap]
  have : ((spR st rv tk sn tl sm).set 52 (.string v)) = spR st rv tk sn v sm := by
    unfold spR
    rw [List.set_append_right _ _ (by rw [wdV_length, h.st25]; decide), wdV_length, h.st25]
    show wdV st ++ (rv :: .int .i64 tk :: (wdV sn ++ [Value.string tl, Value.string sm]).set 25 (Value.string v)) = _
    rw [List.set_append_right _ _ (by rw [wdV_length, h.sn25]; decide), wdV_length, h.sn25]
    rfl
  rw [← this]
  simp
theorem Spg.setSum (h : Spg w g st rv tk sn tl sm) (v : ByteArray) : Spg (w.setCell ⟨g, 53, none⟩ (.string v)) g st rv tk sn tl v := by
  refine ⟨?_, h.st25, h.sn25⟩
  rw [heap_setCell_same w g 53 _ 130 _ h.heap]
  have : ((spR st rv tk sn tl sm).set 53 (.string v)) = spR st rv tk sn tl v := by
    unfold spR
    rw [List.set_append_right _ _ (by rw [wdV_length, h.st25]; decide), wdV_length, h.st25]
    show wdV st ++ (rv :: .int .i64 tk :: (wdV sn ++ [Value.string tl, Value.string sm]).set 26 (Value.string v)) = _
    rw [List.set_append_right _ _ (by rw [wdV_length, h.sn25]; decide), wdV_length, h.sn25]
    rfl
  rw [← this]
  simp
end
/-- Nothing that was there has changed but block g. -/
def Gr (g : Nat) (w w' : World) : Prop := w.grownBy w' (some g)
theorem Gr.refl (g : Nat) (w : World) : Gr g w w := World.grownBy.refl w _
theorem Gr.trans {g : Nat} {a b c : World} (h : Gr g a b) (k : Gr g b c) : Gr g a c := World.grownBy.trans h k
theorem Ext.gr {a b : World} (h : Ext a b) (g : Nat) : Gr g a b := ⟨h.os, h.tape, h.output, h.size, fun k hk _ => h.block k hk⟩
theorem Gr.setCell {g : Nat} {a b : World} (h : Gr g a b) (i : Nat) (v : Value) : Gr g a (b.setCell ⟨g, i, none⟩ v) :=
  h.trans (World.grownBy.trans (grownBy_setCells g [v] i b) (World.grownBy.refl _ _))
theorem Gr.setCells {g : Nat} {a b : World} (h : Gr g a b) (i : Nat) (vs : List Value) : Gr g a (b.setCells g i vs) := h.trans (grownBy_setCells g vs i b)
theorem Gr.ext {g : Nat} {a b c : World} (h : Gr g a b) (e : Ext b c) : Gr g a c := h.trans (e.gr g)
theorem Gr.blk {g k : Nat} {a b : World} (h : Gr g a b) (hk : k < a.heap.size) (hne : k ≠ g) : b.heap[k]? = a.heap[k]? := h.block k hk fun e => hne (by cases e; rfl)
theorem Gr.cell {g : Nat} {a b : World} (h : Gr g a b) {x : Addr} (hk : x.block < a.heap.size) (hne : x.block ≠ g) : b.cell? x = a.cell? x := World.cell?_of_block (h.blk hk hne)
/-- n bytes lie in block b from off on. -/
def BysAt (w : World) (b off : Nat) (l : List UInt8) : Prop := b < w.heap.size ∧ ∀ i, i < l.length → w.cell? ⟨b, off + i, none⟩ = some (.int .u8 ((l.getD i 0).toNat : Int))
theorem BysAt.gr {w w' : World} {b off g : Nat} {l : List UInt8} (h : BysAt w b off l) (k : Gr g w w') (hne : b ≠ g) : BysAt w' b off l :=
  ⟨Nat.lt_of_lt_of_le h.1 k.size, fun i hi => (k.cell h.1 hne).trans (h.2 i hi)⟩
theorem info121' {s : List Nat} (h : s.length = 25) : (Tryz.prog.info? 121).map (·.size) = some (wdV s).length := by rw [wdV_length, h]; kernel_rfl
set_option maxRecDepth 100000 in
set_option maxHeartbeats 2000000 in
theorem absorb_any (g b off cap : Nat) (st sn : List Nat) (rv : Value) (tk : Int) (tl sm : ByteArray) (l : List UInt8) (w : World) (hg : Spg w g st rv tk sn tl sm) (hss : D.Small st) (hl : l.length = 136) (hb : BysAt w b off l) (hne : b ≠ g) :
    Calls Tryz.prog 123 #[.pointer (some ⟨g, 0, none⟩), .slice (some ⟨b, off, none⟩) 136 cap] w fun e w' => e = .returned (.tuple #[]) ∧ Gr g w w' ∧ Spg w' g (D.take1 st l) rv tk sn tl sm := by
  obtain ⟨R, hR⟩ : ∃ R, R = D.take1 st l := ⟨_, rfl⟩
  rw [← hR]
  have HR : Hid (R = D.perm (D.mixK st l 136)) := hR
  clear hR
  have hst := hg.st25
  have H0 : Hid (Gr g w w ∧ Spg w g (D.mixK st l 0) rv tk sn tl sm) := ⟨Gr.refl _ _, hg⟩
  have HSS := Lib.hid hss
  have HST := Lib.hid hst
  have HB := Lib.hid hb
  have HL := Lib.hid hl
  clear hg hss hst hb hl
  go_enter Tryz.func123, Tryz.ntmps123
  go_wp2_with fail
  go_loopw [7] (fun i wr => ∃ j : Nat, j ≤ 136 ∧ i = .int .i64 j ∧ Hid (Gr g w wr ∧ Spg wr g (D.mixK st l j) rv tk sn tl sm)) (fun i _ => 136 - (intOf i).toNat)
  case atStart => exact ⟨0, Nat.zero_le _, rfl, H0.out⟩
  case round =>
    clear H0
    obtain ⟨j, hj, rfl, HJ⟩ := hrel
    by_cases hlj : j < 136
    · obtain ⟨d, hd⟩ : ∃ d, d = j / 8 := ⟨_, rfl⟩
      obtain ⟨e, he⟩ : ∃ e, e = j % 8 := ⟨_, rfl⟩
      obtain ⟨sh, hsh⟩ : ∃ sh, sh = 8 * e := ⟨_, rfl⟩
      have q3 : (j : Int) / 8 = (d : Int) := by omega
      have q3' : Int.tdiv (j : Int) 8 = (d : Int) := by rw [Int.tdiv_eq_ediv_of_nonneg (by omega)]; exact q3
      have q4 : (j : Int) % 8 = (e : Int) := by omega
      have q4' : Int.tmod (j : Int) 8 = (e : Int) := by rw [Int.tmod_eq_emod_of_nonneg (by omega)]; exact q4
      have q5 : 8 * (e : Int) = (sh : Int) := by omega
      have hd25 : d < 25 := by omega
      have he8 : e < 8 := by omega
      have hsh56 : sh ≤ 56 := by omega
      have c0 := HJ.out.2.word (i := d) hd25
      have f0 := HJ.out.2.frozen d
      have c1 := (HB.out.gr HJ.out.1 hne).2 j (by rw [HL.out]; exact hlj)
      have b0 : (D.mixK st l j).getD d 0 < 18446744073709551616 := (D.mixK_small HSS.out l j).get d
      have HMX : Hid (D.mixK st l (j + 1) = (D.mixK st l j).set d ((D.mixK st l j).getD d 0 ^^^ ((l.getD j 0).toNat * 2 ^ sh) % D.W64)) := by
        unfold Hid
        rw [D.mixK, ← hd, ← he, ← hsh]
      have hbb : (l.getD j 0).toNat ≤ 255 := by have := (l.getD j 0).toNat_lt; omega
      have HSET : Hid (∀ a : Nat, Gr g w (wr.drew.setCell ⟨g, d, none⟩ (.int .u64 ((a : Nat) : Int))) ∧ Spg (wr.drew.setCell ⟨g, d, none⟩ (.int .u64 ((a : Nat) : Int))) g ((D.mixK st l j).set d a) rv tk sn tl sm) := fun a =>
        ⟨(HJ.out.1.ext (Ext.refl wr).drew).setCell d _, (HJ.out.2.other (w' := wr.drew) rfl).setWord hd25 a⟩
      generalize D.mixK st l j = v at HSET HMX HJ c0 b0
      generalize v.getD d 0 = a0 at c0 b0 HMX
      generalize (l.getD j 0).toNat = bb at c1 hbb HMX
      have HV := Lib.hid (mix_val sh a0 bb b0)
      clear hd he hsh HJ
      go_wp2_with fail
      obtain ⟨Φ, hΦ⟩ : ∃ Φ : World → Prop, ∀ x, Φ x ↔ x = wr.drew := ⟨_, fun _ => Iff.rfl⟩
      have h0 : Φ wr.drew := (hΦ _).2 rfl
      have fx0 : ∀ x : Lat Φ, x.w'.cell? ⟨g, d, none⟩ = some (.int .u64 (a0 : Int)) := fun x => by rw [(hΦ _).1 x.h]; exact c0
      have fx1 : ∀ x : Lat Φ, x.w'.cell? ⟨b, off + j, none⟩ = some (.int .u8 (bb : Int)) := fun x => by rw [(hΦ _).1 x.h]; exact c1
      have hne' := Lat.some h0
      clear hΦ
      refine wp_region_tail 20 [] Φ h0 (by kernel_rfl) (by kernel_rfl) (by kernel_rfl) ?_
      simp only [List.take_succ_cons, List.take_zero, List.drop_succ_cons, List.drop_zero]
      iterate 20 (refine lex_pure rfl rfl rfl ?_; intro K hK; go_big_quiet_op; go_big_quiet_on)
      refine lex_nil ?_
      clear fx0 fx1 hne' h0
      go_wp2_with fail
      refine ⟨⟨j + 1, by omega, by go_num, ?_⟩, by simp [intOf]; omega⟩
      rw [HMX.out, HV.out]
      exact HSET.out _
    · obtain rfl : j = 136 := by omega
      have hvl := (D.mixK_length st l 136).trans HST.out
      have hvs := D.mixK_small HSS.out l 136
      have HPM := Lib.hid (fun W => Permute_any (D.mixK st l 136) W hvl hvs)
      have hrl := D.perm_length hvl
      have hi := Lib.hid (info121' hvl)
      have hi' := Lib.hid (info121 hrl)
      have HRL := Lib.hid hrl
      have HJ2 := Lib.hid HJ.out
      clear HJ hvl hvs hrl
      rw [← HR.out] at hi' HPM HRL
      generalize D.mixK st l 136 = v at *
      have hA := HJ2.out.2.state
      go_wp2_with (refine wpList_load_mid rfl 121 _ rfl g 0 rfl (wdV v) _ hA Tryz.underlying121 rfl hi.out ?_)
      refine (HPM.out _).mono ?_
      rintro e w5 ⟨rfl, d5⟩
      have HJ5 : Hid (Gr g w w5 ∧ Spg w5 g v rv tk sn tl sm) := ⟨HJ2.out.1.ext d5, HJ2.out.2.other (d5.block g HJ2.out.2.lt)⟩
      clear HJ2 hA d5
      have hT := HJ5.out.2.there (o := 0) (n := (rowU R).size) (by rw [rowU_size, HRL.out]; decide)
      go_wp2_with (refine wpList_store_mid rfl 121 (.tmp 38) (.tmp 36) rfl g 0 (rowU R) rfl rfl hT hi'.out (rowU_one R) ?_)

      go_end0
      exact ⟨rfl, HJ5.out.1.setCells 0 _, HJ5.out.2.setState HRL.out⟩
end Go.Proofs.YtclhbcicbnoohaaGreatDoor

/- The given Sponge: Write of one string to a new one. -/
namespace Go.Proofs.YtclhbcicbnoohaaGreatDoor
open Go.RowKit

/-- The slice of these parts holds the bytes l in a row of the call's own, or is nil. -/
def RestB (base : Nat) (w : World) (A : Option Addr) (c : Nat) (l : List UInt8) : Prop :=
  (A = none ∧ c = 0 ∧ l = []) ∨ ∃ b, A = some ⟨b, 0, none⟩ ∧ base ≤ b ∧ ByRow w b 5 c l
theorem RestB.of_row {base n : Nat} {w : World} {v : Value} {l : List UInt8} (h : w.ownsRow base 5 1 v n (byV l)) (hl : l.length = n) : ∃ A c, v = .slice A n c ∧ RestB base w A c l := by
  obtain ⟨h1, ⟨rfl, hn⟩ | ⟨g, cap, cur, rfl, hb, hh, hnc, hc, hs, ht⟩⟩ := h
  · subst hn
    exact ⟨none, 0, rfl, .inl ⟨rfl, rfl, List.eq_nil_of_length_eq_zero hl⟩⟩
  · refine ⟨some ⟨g, 0, none⟩, cap, rfl, .inr ⟨g, rfl, hb, cur, (0, 0), hh, .inr rfl, by omega, by omega, by unfold maxLen at hc; omega, fun j hj => ?_⟩⟩
    rw [← ht, List.getElem?_take_of_lt (by omega)]
    simp
theorem ByRow.gr {w w' : World} {b e cap g : Nat} {l : List UInt8} (h : ByRow w b e cap l) (k : Gr g w w') (hne : b ≠ g) : ByRow w' b e cap l := by
  have hl := h.lt
  obtain ⟨cur, fr, hh, r⟩ := h
  exact ⟨cur, fr, (k.blk hl hne).trans hh, r⟩
theorem RestB.gr {base g : Nat} {w w' : World} {A : Option Addr} {c : Nat} {l : List UInt8} (h : RestB base w A c l) (k : Gr g w w') (hg : g < base) : RestB base w' A c l := by
  rcases h with h | ⟨b, h1, h2, h3⟩
  · exact .inl h
  · exact .inr ⟨b, h1, h2, h3.gr k (by omega)⟩
set_option maxRecDepth 100000 in
theorem slice_head (b n c : Nat) (w : World) (hc : 136 ≤ c) : (Instr.slice 102 (.slice (some ⟨b, 0, none⟩) n c) none (some (.int .i64 136)) none).run Tryz.prog w = .ok (.slice (some ⟨b, 0, none⟩) 136 c) w := by
  have hs : (sizeOf (Tryz.prog.elem 102)).run Tryz.prog w = .ok 1 w := by kernel_rfl
  rw [run_slice_h w 102 (some ⟨b, 0, none⟩) n c Tryz.underlying102 .i64 136 (by decide) (by omega), hs]
  simp only [Result.andThen, sliced]
  congr 2
  simp
  intro _
  rfl
set_option maxRecDepth 100000 in
theorem slice_tail (b n c : Nat) (hn : 136 ≤ n) : ∃ ad, (∀ w, (Instr.slice 102 (.slice (some ⟨b, 0, none⟩) n c) (some (.int .i64 136)) none none).run Tryz.prog w = .ok (.slice (some ad) (n - 136) (c - 136)) w) ∧ (136 < n → n ≤ c → ad = ⟨b, 136, none⟩) := by
  refine ⟨if c = 136 then ⟨b, 0, none⟩ else ⟨b, 136, none⟩, fun w => ?_, fun h1 h2 => if_neg (by omega)⟩
  have hs : (sizeOf (Tryz.prog.elem 102)).run Tryz.prog w = .ok 1 w := by kernel_rfl
  rw [run_slice_l w 102 (some ⟨b, 0, none⟩) n c Tryz.underlying102 .i64 136 (by decide) (by omega), hs]
  simp only [Result.andThen, sliced]
  split
  · rename_i h
    simp at h
    simp [h]
  · rename_i h
    simp at h
    simp [h, Addr.add_mid]
def restN (g : Nat) (w : World) : Nat := lenV ((w.cell? ⟨g, 25, none⟩).getD undef)
/-- Blocks are taken in: t of them, the rest in a row of its own. -/
def WrS (w wr : World) (g n : Nat) (m : List UInt8) (sn : List Nat) (tl sm : ByteArray) (t : Nat) (A : Option Addr) (c : Nat) : Prop :=
  Gr g w wr ∧ Spg wr g (D.takeN (List.replicate 25 0) t m) (.slice A (n - t * 136) c) n sn tl sm ∧ RestB w.heap.size wr A c (m.drop (t * 136))
theorem restN_eq {w wr : World} {g n : Nat} {m : List UInt8} {sn : List Nat} {tl sm : ByteArray} {t : Nat} {A : Option Addr} {c : Nat} (h : WrS w wr g n m sn tl sm t A c) : restN g wr = n - t * 136 := by
  unfold restN
  rw [h.2.1.rest]
  rfl
theorem rest_start {W w3 : World} {v3 : Value} {s : ByteArray} {m : List UInt8} {n : Nat} (hr : w3.ownsRow W.heap.size 5 1 v3 (0 + s.size) ([] ++ Lib.strCells s)) (hm : m = s.data.toList) (hn : n = s.size) :
    ∃ A c, v3 = .slice A n c ∧ RestB W.heap.size w3 A c m := by
  rw [List.nil_append, show Lib.strCells s = byV m by rw [hm]; rfl, Nat.zero_add, ← hn] at hr
  exact RestB.of_row hr (by rw [hm, hn]; exact Array.length_toList)
theorem RestB.mono {base base' : Nat} {w : World} {A : Option Addr} {c : Nat} {l : List UInt8} (h : RestB base w A c l) (hb : base' ≤ base) : RestB base' w A c l := by
  rcases h with h | ⟨b, h1, h2, h3⟩
  · exact .inl h
  · exact .inr ⟨b, h1, by omega, h3⟩
theorem rest_next {W w3 : World} {v3 : Value} {l : List UInt8} {n : Nat} (hr : w3.ownsRow W.heap.size 5 1 v3 (0 + n) ([] ++ byV l)) (hl : l.length = n) : ∃ A c, v3 = .slice A n c ∧ RestB W.heap.size w3 A c l := by
  rw [List.nil_append, Nat.zero_add] at hr
  exact RestB.of_row hr hl
theorem byV_one (l : List UInt8) : ∀ u ∈ byV l, u.oneCell' = true := by
  intro u hu
  unfold byV at hu
  obtain ⟨b, _, rfl⟩ := List.mem_map.1 hu
  rfl
theorem tail_cells {w : World} {b c q : Nat} {ad : Addr} {l : List UInt8} (h : ByRow w b 5 c l) (hl : l.length = q) (had : 136 < q → q ≤ c → ad = ⟨b, 136, none⟩) (hqc : q ≤ c) : ∀ j u, (byV (l.drop 136))[j]? = some u → w.cell? (ad.add j) = some u := by
  intro j u hj
  have hj' : j < (l.drop 136).length := by
    rw [← byV_length]
    exact (List.getElem?_eq_some_iff.1 hj).1
  rw [List.length_drop] at hj'
  rw [had (by omega) hqc, Addr.add_mid, h.cell (by omega), ← hj, byV_get (by rw [List.length_drop]; omega)]
  simp [List.getD_eq_getElem?_getD]
set_option maxRecDepth 100000 in
set_option maxHeartbeats 2000000 in
theorem Write_any (g bp : Nat) (sn : List Nat) (tl sm s : ByteArray) (w : World) (hg : Spg w g (List.replicate 25 0) (.slice none 0 0) 0 sn tl sm) (hp : w.cell? ⟨bp, 0, none⟩ = some (.string s)) (hs : s.size ≤ 1000000000000) :
    Calls Tryz.prog 105 #[.pointer (some ⟨g, 0, none⟩), .slice (some ⟨bp, 0, none⟩) 1 1] w fun e w' => e = .returned (.int .i64 s.size) ∧ ∃ A c, WrS w w' g s.size s.data.toList sn tl sm (s.size / 136) A c := by
  obtain ⟨i5, hi5, hz5, hs5, hb5⟩ := info5
  obtain ⟨m, hm⟩ : ∃ m, m = s.data.toList := ⟨_, rfl⟩
  obtain ⟨n, hn⟩ : ∃ n, n = s.size := ⟨_, rfl⟩
  have hml : m.length = n := by rw [hm, hn]; exact Array.length_toList
  rw [← hm, ← hn]
  rw [← hn] at hs
  have HM := Lib.hid hm
  have HN := Lib.hid hn
  have HML := Lib.hid hml
  have H0 := Lib.hid hg
  have HPC := Lib.hid hp
  have HLT := Lib.hid hg.lt
  clear hm hn hml hg hp
  go_enter Tryz.func105, Tryz.ntmps105
  go_wp2_with fail
  go_loopw [9] (fun i wr => ∃ k : Nat, k ≤ 1 ∧ i = .int .i64 k ∧ Hid ((k = 0 ∧ wr = w) ∨ (k = 1 ∧ ∃ A c, WrS w wr g n m sn tl sm (n / 136) A c))) (fun i _ => 1 - (intOf i).toNat)
  case atStart => exact ⟨0, Nat.zero_le _, rfl, .inl ⟨rfl, rfl⟩⟩
  case round =>
    obtain ⟨k, hk, rfl, HK⟩ := hrel
    by_cases hk0 : k = 0
    · subst hk0
      obtain rfl : w = wr := by
        rcases HK.out with ⟨_, h⟩ | ⟨h, _⟩
        · exact h.symm
        · omega
      clear HK
      have hp := HPC.out
      have ct := H0.out.taken
      have ft := H0.out.frozen 26
      have HT : Hid (Gr g w (w.setCell ⟨g, 26, none⟩ (.int .i64 (n : Int))) ∧ Spg (w.setCell ⟨g, 26, none⟩ (.int .i64 (n : Int))) g (List.replicate 25 0) (.slice none 0 0) (n : Int) sn tl sm) :=
        ⟨(Gr.refl g w).setCell 26 _, H0.out.setTaken n⟩
      have hsz : (s.size : Int) = (n : Int) := by rw [HN.out]
      go_upto_region 5 with (fail)
      generalize hW : World.setCell w _ _ = W
      have hT : Gr g w W ∧ Spg W g (List.replicate 25 0) (.slice none 0 0) (n : Int) sn tl sm := by
        rw [← hW]
        exact HT.out
      have HT2 := Lib.hid hT
      clear hW hT HT hp ct ft
      have cr := HT2.out.2.rest
      go_wp2_with (at_builtin; (refine Lib.wpList_append_own_string _ rfl (.tmp 26) (.tmp 27) 102 9 rfl W.heap.size 5 i5 Tryz.underlying102 Tryz.underlying9 hi5 hz5 hs5 hb5 (.slice none 0 0) 0 [] rfl ⟨rfl, .inl ⟨rfl, rfl⟩⟩ s rfl (by unfold maxLen; have := HN.out; omega) (by have := HN.out; omega) (Nat.le_refl _) ?_; intro v3 w3 hr3 hg3 _; obtain ⟨A3, c3, rfl, hR3⟩ := rest_start hr3 HM.out HN.out; have hS3 := HT2.out.2.other (hg3.block g HT2.out.2.lt (fun e => by cases e)); have c25 := hS3.rest; have f25 := hS3.frozen 25))
      have hW4 : WrS w (w3.setCell ⟨g, 25, none⟩ (.slice A3 n c3)) g n m sn tl sm 0 A3 c3 := by
        have hgr : Gr g w w3 := HT2.out.1.trans (World.grownBy.but hg3 (some g))
        have hg1 := HT2.out.1.size
        refine ⟨hgr.setCell 25 _, ?_, ?_⟩
        · have := hS3.setRest (.slice A3 n c3)
          rw [show n - 0 * 136 = n by omega]
          exact this
        · have h1 : RestB w.heap.size w3 A3 c3 m := hR3.mono hg1
          exact h1.gr ((Gr.refl g w3).setCell 25 _) HLT.out
      generalize World.setCell w3 _ _ = W4 at *
      have HW4 := Lib.hid hW4
      clear hW4 hS3 c25 f25 hR3 hg3 hr3 cr HT2
      go_loopw [36] (fun _ wx => Hid (∃ t A c, t ≤ n / 136 ∧ WrS w wx g n m sn tl sm t A c)) (fun _ wx => restN g wx)
      case atStart => exact ⟨0, A3, c3, Nat.zero_le _, HW4.out⟩
      case round =>
        clear HW4
        obtain ⟨t, A, c, ht, HK⟩ := hrel
        have HK := Lib.hid HK
        have hwn := restN_eq HK.out
        have cr := HK.out.2.1.rest
        obtain ⟨q, hq⟩ : ∃ q, q = n - t * 136 := ⟨_, rfl⟩
        rw [← hq] at cr hwn
        have HQ := Lib.hid hq
        by_cases hlt : 136 ≤ q
        · have hml := HML.out
          have hdl : (m.drop (t * 136)).length = q := by rw [List.length_drop, hml]; exact hq.symm
          obtain ⟨b, rfl, hwb, hrow⟩ : ∃ b, A = some ⟨b, 0, none⟩ ∧ w.heap.size ≤ b ∧ ByRow wr b 5 c (m.drop (t * 136)) := by
            rcases HK.out.2.2 with ⟨_, _, h⟩ | h
            · rw [h] at hdl
              simp at hdl
              omega
            · exact h
          have hqc : q ≤ c := by have := hrow.le; omega
          have hbg : b ≠ g := by have := HLT.out; omega
          have hsh := fun W => slice_head b q c W (by omega)
          obtain ⟨ad, hst, had⟩ := slice_tail b q c hlt
          have HAD := Lib.hid had
          have hbys : BysAt wr b 0 ((m.drop (t * 136)).take 136) := ⟨hrow.lt, fun i hi => by
            rw [List.length_take] at hi
            rw [Nat.zero_add, hrow.cell (by omega)]
            simp [List.getD_eq_getElem?_getD, show i < 136 by omega]⟩
          have hspg : Spg wr g (D.takeN (List.replicate 25 0) t m) (.slice (some ⟨b, 0, none⟩) q c) (n : Int) sn tl sm := by
            have := HK.out.2.1
            rw [← hq] at this
            exact this
          have HAB2 := Lib.hid (absorb_any g b 0 c (D.takeN (List.replicate 25 0) t m) sn (.slice (some ⟨b, 0, none⟩) q c) (n : Int) tl sm ((m.drop (t * 136)).take 136) wr hspg (D.takeN_small (D.small_zero 25) t m) (by rw [List.length_take]; omega) hbys hbg)
          have HROW := Lib.hid hrow
          have HDL := Lib.hid hdl
          have HLTQ := Lib.hid hlt
          rw [← D.takeN_succ] at HAB2
          clear hspg hbys hrow hdl hml hq had ht
          go_wp2_with fail
          refine HAB2.out.mono ?_
          rintro e w5 ⟨rfl, hg5, hs5⟩
          have hrow5 := HROW.out.gr hg5 hbg
          have hnews := tail_cells hrow5 HDL.out HAD.out hqc
          have cr5 := hs5.rest
          have HS5 := Lib.hid hs5
          have HG5 : Hid (Gr g w w5) := HK.out.1.trans hg5
          clear hs5 hg5 hrow5 cr hwn
          go_wp2_with (at_builtin; (refine wpList_append_own _ rfl (.const (.slice none 0 0)) (.tmp 49) 102 rfl w5.heap.size 5 i5 (.int .u8 0) 1 1 Tryz.underlying102 hi5 hz5 hs5 hb5 rfl (by decide) (.slice none 0 0) 0 [] rfl ⟨rfl, .inl ⟨rfl, rfl⟩⟩ ad (q - 136) (c - 136) (byV ((m.drop (t * 136)).drop 136)) rfl (by rw [byV_length, List.length_drop, HDL.out, Nat.mul_one]) hnews (byV_one _) (by unfold maxLen; have := HQ.out; omega) (by have := HQ.out; omega) (Nat.le_refl _) ?_; intro v6 w6 hr6 hg6 _; obtain ⟨A6, c6, rfl, hR6⟩ := rest_next hr6 (by rw [List.length_drop, HDL.out]); have hS6 := HS5.out.other (hg6.block g HS5.out.lt (fun e => by cases e)); have c25 := hS6.rest; have f25 := hS6.frozen 25))
          have hgr : Gr g w w6 := HG5.out.trans (World.grownBy.but hg6 (some g))
          have hsz := HG5.out.size
          have hE : WrS w (w6.setCell ⟨g, 25, none⟩ (.slice A6 (q - 136) c6)) g n m sn tl sm (t + 1) A6 c6 := by
            have hq2 : q - 136 = n - (t + 1) * 136 := by have := HQ.out; omega
            refine ⟨hgr.setCell 25 _, ?_, ?_⟩
            · rw [← hq2]
              exact hS6.setRest _
            · have h1 : RestB w.heap.size w6 A6 c6 (m.drop ((t + 1) * 136)) := by
                rw [show (t + 1) * 136 = t * 136 + 136 by omega, ← List.drop_drop]
                exact hR6.mono hsz
              exact h1.gr ((Gr.refl g w6).setCell 25 _) HLT.out
          refine ⟨⟨t + 1, A6, c6, by have := HQ.out; have := HLTQ.out; omega, hE⟩, ?_⟩
          have h1 := restN_eq hE
          have h2 := restN_eq HK.out
          have h3 := HQ.out
          have h4 := HLTQ.out
          omega
        · have hte : t = n / 136 := by omega
          have hge : decide (136 ≤ q) = false := decide_eq_false hlt
          have HE : Hid (∃ A c, WrS w wr g n m sn tl sm (n / 136) A c) := ⟨A, c, by rw [← hte]; exact HK.out⟩
          clear hte HK hwn
          go_wp2_with fail
          exact ⟨⟨1, Nat.le_refl _, by go_num, .inr ⟨rfl, HE.out⟩⟩, by simp [intOf]⟩
    · obtain rfl : k = 1 := by omega
      have HE : Hid (∃ A c, WrS w wr g n m sn tl sm (n / 136) A c) := by
        rcases HK.out with ⟨h, _⟩ | ⟨_, h⟩
        · omega
        · exact h
      have ct : wr.cell? ⟨g, 26, none⟩ = some (.int .i64 (n : Int)) := by
        obtain ⟨A, c, h⟩ := HE.out
        exact h.2.1.taken
      clear HK
      go_wp2_with fail
      go_ret
      exact ⟨rfl, HE.out⟩
end Go.Proofs.YtclhbcicbnoohaaGreatDoor

/- The given Sponge: New, Clone. -/
namespace Go.Proofs.YtclhbcicbnoohaaGreatDoor
open Go.RowKit

def zeros : List Nat := List.replicate 25 0
set_option maxRecDepth 100000 in
theorem New_any (w : World) : Calls Tryz.prog 104 #[] w fun e w' => e = .returned (.pointer (some ⟨w.heap.size, 0, none⟩)) ∧ Ext w w' ∧ Spg w' w.heap.size zeros (.slice none 0 0) 0 zeros ⟨#[]⟩ ⟨#[]⟩ := by
  go_enter Tryz.func104, Tryz.ntmps104
  go_wp2_with fail
  go_ret
  refine ⟨rfl, (Ext.refl w).alloc _, ?_, rfl, rfl⟩
  exact heap_alloc_new w _
theorem info130 {st sn : List Nat} {rv : Value} {tk : Int} {tl sm : ByteArray} (h : st.length = 25) (h' : sn.length = 25) : (Tryz.prog.info? 130).map (·.size) = some (spR st rv tk sn tl sm).toArray.size := by
  have e : (spR st rv tk sn tl sm).toArray.size = 54 := by simpa using spR_length (rv := rv) (tk := tk) (tl := tl) (sm := sm) h h'
  have h130 : (Tryz.prog.info? 130).map (·.size) = some 54 := by kernel_rfl
  rw [e]
  exact h130
theorem spR_one {st sn : List Nat} {A : Option Addr} {n c : Nat} {tk : Int} {tl sm : ByteArray} : (spR st (.slice A n c) tk sn tl sm).toArray.all (·.oneCell') = true := by
  rw [Array.all_eq_true_iff_forall_mem]
  intro v hv
  simp only [List.mem_toArray, spR, List.mem_append, List.mem_cons, List.mem_nil_iff, or_false] at hv
  rcases hv with h | rfl | rfl | h | rfl | rfl
  · unfold wdV at h
    obtain ⟨a, _, rfl⟩ := List.mem_map.1 h
    rfl
  · rfl
  · rfl
  · unfold wdV at h
    obtain ⟨a, _, rfl⟩ := List.mem_map.1 h
    rfl
  · rfl
  · rfl
theorem row_cells {w : World} {b c : Nat} {l : List UInt8} (h : ByRow w b 5 c l) : ∀ j u, (byV l)[j]? = some u → w.cell? ((⟨b, 0, none⟩ : Addr).add j) = some u := by
  intro j u hj
  have hj' : j < l.length := by
    rw [← byV_length]
    exact (List.getElem?_eq_some_iff.1 hj).1
  rw [Addr.add_mid, Nat.zero_add, h.cell hj', ← hj, byV_get hj']
set_option maxRecDepth 100000 in
set_option maxHeartbeats 2000000 in
theorem Clone_any (g n c base : Nat) (A : Option Addr) (st sn : List Nat) (tk : Int) (tl sm : ByteArray) (l : List UInt8) (w : World) (hg : Spg w g st (.slice A n c) tk sn tl sm) (hl : l.length = n) (hr : RestB base w A c l) (hn : n ≤ 1000) :
    Calls Tryz.prog 124 #[.pointer (some ⟨g, 0, none⟩)] w fun e w' => e = .returned (.pointer (some ⟨w.heap.size, 0, none⟩)) ∧ Ext w w' ∧ ∃ A' c', Spg w' w.heap.size st (.slice A' n c') tk sn tl sm ∧ RestB (w.heap.size + 1) w' A' c' l := by
  obtain ⟨i5, hi5, hz5, hs5, hb5⟩ := info5
  have hA := hg.heap
  have hi := Lib.hid (info130 (rv := .slice A n c) (tk := tk) (tl := tl) (sm := sm) hg.st25 hg.sn25)
  have H0 := Lib.hid hg
  have HR := Lib.hid hr
  have HL := Lib.hid hl
  have HZ : Hid (54 = (spR st (.slice A n c) tk sn tl sm).toArray.size) := by
    have := spR_length (rv := .slice A n c) (tk := tk) (tl := tl) (sm := sm) hg.st25 hg.sn25
    unfold Hid
    simpa using this.symm
  clear hg hr hl
  go_enter Tryz.func124, Tryz.ntmps124
  go_upto_region 2 with (first
    | (refine wpList_load_row rfl 130 _ rfl g rfl 130 _ (0, 0) _ hA Tryz.underlying130 rfl hi.out ?_)
    | (refine wpList_store_row rfl 130 (.tmp 3) (.tmp 6) rfl w.heap.size (spR st (.slice A n c) tk sn tl sm).toArray rfl rfl 130 _ (heap_alloc_new w _) hi.out HZ.out spR_one ?_))
  generalize hW : World.setRow _ _ _ = W
  have hS : Ext w W ∧ Spg W w.heap.size st (.slice A n c) tk sn tl sm ∧ w.heap.size < W.heap.size := by
    rw [← hW]
    exact ⟨((Ext.refl w).alloc _).setRow (Nat.le_refl _) _, ⟨heap_setRow _ _ _ (heap_alloc_new w _), H0.out.st25, H0.out.sn25⟩, by simp⟩
  have HS := Lib.hid hS
  clear hW hS hA hi HZ
  have cr : W.cell? ⟨g, 25, none⟩ = some (.slice A n c) := (World.cell?_of_block (HS.out.1.block g H0.out.lt)).trans H0.out.rest
  have c25 := HS.out.2.1.rest
  have f25 := HS.out.2.1.frozen 25
  rcases HR.out with ⟨rfl, rfl, rfl⟩ | ⟨b, rfl, hb, hrow⟩
  · obtain rfl : n = 0 := HL.out.symm
    have HE : Hid (Ext w (W.setCell ⟨w.heap.size, 25, none⟩ (.slice none 0 0)) ∧ ∃ A' c', Spg (W.setCell ⟨w.heap.size, 25, none⟩ (.slice none 0 0)) w.heap.size st (.slice A' 0 c') tk sn tl sm ∧ RestB (w.heap.size + 1) (W.setCell ⟨w.heap.size, 25, none⟩ (.slice none 0 0)) A' c' []) :=
      ⟨HS.out.1.setCell (Nat.le_refl _) _, none, 0, HS.out.2.1.setRest _, .inl ⟨rfl, rfl, rfl⟩⟩
    go_wp2_with fail
    go_ret
    exact ⟨rfl, HE.out⟩
  · have hrow2 : ByRow W b 5 c l := hrow.ext HS.out.1
    have hnews := row_cells hrow2
    have hln := HL.out
    have hsz := HS.out.2.2
    go_wp2_with (at_builtin; (refine wpList_append_own _ rfl (.const (.slice none 0 0)) (.tmp 10) 102 rfl W.heap.size 5 i5 (.int .u8 0) 1 1 Tryz.underlying102 hi5 hz5 hs5 hb5 rfl (by decide) (.slice none 0 0) 0 [] rfl ⟨rfl, .inl ⟨rfl, rfl⟩⟩ ⟨b, 0, none⟩ n c (byV l) rfl (by rw [byV_length, hln, Nat.mul_one]) hnews (byV_one _) (by unfold maxLen; omega) (by omega) (Nat.le_refl _) ?_; intro v6 w6 hr6 hg6 _; obtain ⟨A6, c6, rfl, hR6⟩ := rest_next hr6 hln; have hS6 := HS.out.2.1.other (hg6.block w.heap.size hsz (fun e => by cases e)); have c25 := hS6.rest; have f25 := hS6.frozen 25))
    go_ret
    have hx : Ext w w6 := HS.out.1.trans ⟨hg6.os, hg6.tape, hg6.output, hg6.size, fun k hk => hg6.block k hk (fun e => by cases e)⟩
    refine ⟨rfl, hx.setCell (Nat.le_refl _) _, A6, c6, hS6.setRest _, ?_⟩
    have h1 : RestB (w.heap.size + 1) w6 A6 c6 l := hR6.mono hsz
    exact h1.gr ((Gr.refl _ w6).setCell 25 _) (by omega)
end Go.Proofs.YtclhbcicbnoohaaGreatDoor
