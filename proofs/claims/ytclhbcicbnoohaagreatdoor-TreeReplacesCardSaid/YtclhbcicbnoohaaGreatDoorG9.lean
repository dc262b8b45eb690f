/- The texts Mr Ms Mt Fl Mu of the seat, joined. -/
import Derived.Test.YtclhbcicbnoohaaGreatDoorG8
import Derived.Lib.AppendZeros
import Derived.Laws.IdiomCopy
import Derived.Lib.AppendZerosOnto
import Derived.Lib.Overlaps
import Derived.Laws.CopyOwn
import Derived.Laws.Externs
/- slices.Delete of one file; tree.Drop. -/
namespace Go.Proofs.YtclhbcicbnoohaaGreatDoor
open Go.RowKit

theorem file_size (w : World) : (Go.sizeOf 25).run Tryz.prog w = .ok 2 w := by kernel_rfl
/-- A slice of the call's own, opened. -/
structure Own1 (w : World) (base g off cap : Nat) (cur : Array Value) (n : Nat) (xs : List Value) : Prop where
  len : xs.length = n * 2
  low : base ≤ g
  row : w.heap[g]? = some (.cells cur 25 (0, 0))
  room : n ≤ cap
  big : cap ≤ 9223372036854775807
  fits : off + cap * 2 ≤ cur.size
  at' : ∀ j, j < n * 2 → cur[off + j]? = xs[j]?
theorem own1_of {w : World} {base : Nat} {v : Value} {n : Nat} {xs : List Value} (h : OwnAt w base 25 2 v n xs) (hn : 0 < n) : ∃ g off cap cur, v = .slice (some ⟨g, off, none⟩) n cap ∧ Own1 w base g off cap cur n xs := by
  obtain ⟨h1, ⟨rfl, h2⟩ | ⟨g, off, cap, cur, rfl, hb, hh, hc, hc2, hs, hx⟩⟩ := h
  · omega
  · exact ⟨g, off, cap, cur, rfl, h1, hb, hh, hc, hc2, hs, hx⟩
theorem Own1.own {w : World} {base g off cap n : Nat} {cur : Array Value} {xs : List Value} (h : Own1 w base g off cap cur n xs) : OwnAt w base 25 2 (.slice (some ⟨g, off, none⟩) n cap) n xs :=
  ⟨h.len, .inr ⟨g, off, cap, cur, rfl, h.low, h.row, h.room, h.big, h.fits, h.at'⟩⟩
theorem Own1.cell {w : World} {base g off cap n : Nat} {cur : Array Value} {xs : List Value} (h : Own1 w base g off cap cur n xs) {j : Nat} {u : Value} (hj : xs[j]? = some u) : w.cell? ⟨g, off + j, none⟩ = some u := by
  have hlt : j < n * 2 := by
    rcases Nat.lt_or_ge j xs.length with h' | h'
    · rw [h.len] at h'; exact h'
    · rw [List.getElem?_eq_none h'] at hj; cases hj
  rw [cell_of_row w g _ cur 25 (0, 0) h.row, h.at' j hlt, hj]
theorem Own1.there {w : World} {base g off cap n : Nat} {cur : Array Value} {xs : List Value} (h : Own1 w base g off cap cur n xs) {j : Nat} (hj : j < cap * 2) : (w.cell? ⟨g, off + j, none⟩).isSome = true := by
  have := h.fits
  rw [cell_of_row w g _ cur 25 (0, 0) h.row]
  simp
  omega
theorem Own1.free {w : World} {base g off cap n : Nat} {cur : Array Value} {xs : List Value} (h : Own1 w base g off cap cur n xs) (j : Nat) : w.frozen? ⟨g, j, none⟩ = false := by simp [World.frozen?, h.row]
/-- Some cells of the row are written; the slice may have another length then. -/
theorem Own1.write {w : World} {base g off cap n : Nat} {cur : Array Value} {xs : List Value} (h : Own1 w base g off cap cur n xs) (o : Nat) (ys : List Value) (ho : o + ys.length ≤ cap * 2) (m : Nat) (hm : m ≤ cap) (zs : List Value) (hz : zs.length = m * 2)
    (h1 : ∀ j, j < m * 2 → j < o → zs[j]? = cur[off + j]?) (h2 : ∀ j, j < m * 2 → o ≤ j → j < o + ys.length → zs[j]? = ys[j - o]?) (h3 : ∀ j, j < m * 2 → o + ys.length ≤ j → zs[j]? = cur[off + j]?) :
    Own1 (w.setCells g (off + o) ys) base g off cap (setArr cur (off + o) ys) m zs := by
  have hf := h.fits
  refine ⟨hz, h.low, heap_setCells_at g ys _ w cur 25 h.row, hm, h.big, by rw [setArr_size]; exact h.fits, fun j hj => ?_⟩
  rcases Nat.lt_or_ge j o with hjo | hjo
  · rw [setArr_lt _ _ _ _ (by omega), h1 j hj hjo]
  · rcases Nat.lt_or_ge j (o + ys.length) with hjl | hjl
    · rw [show off + j = off + o + (j - o) by omega, setArr_in ys cur (off + o) (j - o) (by omega) (by omega), h2 j hj hjo hjl]
    · rw [h3 j hj hjl]
      have key : ∀ (vs : List Value) (c : Array Value) (p q : Nat), p + vs.length ≤ q → (setArr c p vs)[q]? = c[q]? := by
        intro vs
        induction vs with
        | nil => intro _ _ _ _; rfl
        | cons v vs ih =>
          intro c p q hq
          simp only [List.length_cons] at hq
          rw [setArr, ih _ _ _ (by omega), Array.getElem?_setIfInBounds_ne (by omega)]
      exact key ys cur (off + o) (off + j) (by omega)
theorem Own1.drew {w : World} {base g off cap n : Nat} {cur : Array Value} {xs : List Value} (h : Own1 w base g off cap cur n xs) : Own1 w.drew base g off cap cur n xs := ⟨h.len, h.low, h.row, h.room, h.big, h.fits, h.at'⟩
/-- clear of a slice of one file. -/
theorem run_clear_file (w : World) (ty : TypeId) (b o c : Nat) (hc : ∀ j, j < 2 → (w.cell? ⟨b, o + j, none⟩).isSome = true) (hf : ∀ j, j < 2 → w.frozen? ⟨b, o + j, none⟩ = false) :
    (Builtin.clear_ #[23] ty #[.slice (some ⟨b, o, none⟩) 1 c]).run Tryz.prog w = .ok (.tuple #[]) (w.setCells b o [.string ⟨#[]⟩, .string ⟨#[]⟩]) := by
  have hv : ∀ w, (zeroValue 25).run Tryz.prog w = .ok (.agg #[.string ⟨#[]⟩, .string ⟨#[]⟩]) w := fun w => by kernel_rfl
  have hzc : (Builtin.zeroCells (Value.agg #[.string ⟨#[]⟩, .string ⟨#[]⟩]).cells 1).toList = [.string ⟨#[]⟩, .string ⟨#[]⟩] := by simp [Builtin.zeroCells, Value.cells]; rfl
  have hst := run_storeCells_cells (P := Tryz.prog) b o [.string ⟨#[]⟩, .string ⟨#[]⟩] 0 w (by simpa using hc) (by simpa using hf) (by intro v hv'; simp at hv'; subst hv'; rfl)
  simp only [Nat.add_zero] at hst
  simp [Builtin.clear_, run_underlying Tryz.underlying23, hv, hzc, hst]
theorem wpList_clear_run {P : Program} (w : World) {ops : Array Oper} {rest : List Oper} {o : Oper} {a : Act} {Q : Exit → Act → World → Prop} (hgd : o.guard = none) (s : Operand) (t : TypeId)
    (ho : o.op = .call { callee := .builtin .clear, args := #[s], argTypes := #[t] }) (vs : Value) (hs : a.eval s = vs)
    (v' : Value) (w' : World) (hr : (Builtin.clear_ #[t] o.type #[vs]).run P w = .ok v' w') (h : wpList P ops Q rest (a.put o.dst v') w') : wpList P ops Q (o :: rest) a w :=
  wpList_plain hgd fun K hK => by
    unfold Oper.wp execOp
    simp only [ho, resolve, invoke, builtin, Sem.run_bind, Sem.run_pure, Result.andThen_ok, List.map_toArray, List.map_cons, List.map_nil, hs, hr]
    exact hK _ _ h
set_option maxRecDepth 100000 in
set_option maxHeartbeats 2000000 in
theorem Delete_any (L : T.Tr) (v : Value) (n i : Nat) (w : World) (base : Nat) (hn : n = L.length) (hi : i < n) (hown : OwnFiles w base v L) (hbase : base ≤ w.heap.size) :
    Calls Tryz.prog 54 #[v, .int .i64 (i : Int), .int .i64 ((i : Int) + 1)] w fun e w' => ∃ v', e = .returned v' ∧ OwnFiles w' base v' (L.take i ++ L.drop (i + 1)) ∧ Below base w w' := by
  obtain ⟨i0, hi0, hz0, hz1, hz2⟩ := info_parts file_info
  subst hn
  obtain ⟨g, off, cap, cur, rfl, hO⟩ := own1_of hown (by omega)
  clear hown
  obtain ⟨n, hn⟩ : ∃ n, n = L.length := ⟨_, rfl⟩
  rw [← hn] at hO hi ⊢
  have hcap := hO.room
  have hbig := hO.big
  have hdl : (fcells (L.drop (i + 1))).length = (n - (i + 1)) * 2 := by rw [fcells_len, List.length_drop, ← hn]
  have hxs : ∀ j, j < (n - (i + 1)) * 2 → (fcells (L.drop (i + 1)))[j]? = (fcells L)[(i + 1) * 2 + j]? := by
    intro j hj
    have e : fcells L = fcells (L.take (i + 1)) ++ fcells (L.drop (i + 1)) := by rw [← fcells_append, List.take_append_drop]
    rw [e, List.getElem?_append_right (by rw [fcells_len, List.length_take, ← hn]; omega), fcells_len, List.length_take, ← hn]
    congr 1
    omega
  -- the worlds behind the append and the clearing
  have hO1 : ∀ W, W = w.drew.setCells g (off + i * 2) (fcells (L.drop (i + 1))) → ∃ cur', Own1 W base g off cap cur' (n - 1) (fcells (L.take i ++ L.drop (i + 1))) := by
    rintro W rfl
    refine ⟨_, hO.drew.write (i * 2) (fcells (L.drop (i + 1))) (by rw [hdl]; omega) (n - 1) (by omega) _ (by rw [fcells_len, List.length_append, List.length_take, List.length_drop, ← hn]; omega) ?_ ?_ ?_⟩
    · intro j hj hjo
      rw [fcells_append, List.getElem?_append_left (by rw [fcells_len, List.length_take, ← hn]; omega), hO.at' j (by omega)]
      have e : fcells L = fcells (L.take i) ++ fcells (L.drop i) := by rw [← fcells_append, List.take_append_drop]
      rw [e, List.getElem?_append_left (by rw [fcells_len, List.length_take, ← hn]; omega)]
    · intro j hj hjo hjl
      rw [fcells_append, List.getElem?_append_right (by rw [fcells_len, List.length_take, ← hn]; omega), fcells_len, List.length_take, ← hn, Nat.min_eq_left (by omega)]
    · intro j hj hjl
      rw [hdl] at hjl
      omega
  have hap : ∀ (ty : TypeId) (A2 : Addr) (c2 : Nat), (∀ j u, (fcells (L.drop (i + 1)))[j]? = some u → w.drew.cell? (A2.add j) = some u) →
      (Builtin.append_ #[23, 23] ty #[.slice (some ⟨g, off, none⟩) i cap, .slice (some A2) (n - (i + 1)) c2]).run Tryz.prog w.drew = .ok (.slice (some ⟨g, off, none⟩) (i + (n - (i + 1))) cap) (w.drew.setCells g (off + i * 2) (fcells (L.drop (i + 1)))) := fun ty A2 c2 hA2 => by
    have := run_append_room_cells (P := Tryz.prog) w.drew 23 ty 25 i0 Tryz.underlying23 hi0 g off i cap A2 (n - (i + 1)) c2 (fcells (L.drop (i + 1))) (by rw [hz1]; exact hdl) hA2 (fcells_one _) (by omega)
      (fun j hj => by rw [hz1, Nat.add_assoc]; exact hO.drew.there (by rw [hdl] at hj; omega)) (fun j hj => hO.drew.free _)
    rw [hz1] at this
    exact this
  have hA : ∃ A2 : Addr, (if cap = i + 1 then (some ⟨g, off, none⟩ : Option Addr) else some ⟨g, off + (i + 1) * 2, none⟩) = some A2 ∧ ∀ j u, (fcells (L.drop (i + 1)))[j]? = some u → w.drew.cell? (A2.add j) = some u := by
    by_cases hc : cap = i + 1
    · refine ⟨_, if_pos hc, fun j u hj => ?_⟩
      have : (fcells (L.drop (i + 1))).length = 0 := by rw [hdl]; omega
      rw [List.length_eq_zero_iff.1 this] at hj
      simp at hj
    · refine ⟨_, if_neg hc, fun j u hj => ?_⟩
      have hlt : j < (n - (i + 1)) * 2 := by
        rcases Nat.lt_or_ge j (fcells (L.drop (i + 1))).length with h' | h'
        · rw [hdl] at h'; exact h'
        · rw [List.getElem?_eq_none h'] at hj; cases hj
      rw [Addr.add_lit, Nat.add_assoc]
      refine hO.drew.cell ?_
      rw [← hxs j hlt]
      exact hj
  have HO1 := Lib.hid hO1
  have HAP := Lib.hid hap
  obtain ⟨A2, hA2, hAc⟩ := hA
  have HAC := Lib.hid hAc
  have HLOW : Hid (base ≤ g) := hO.low
  clear hO1 hap hAc hO hxs hdl
  have HN := Lib.hid hn
  clear hn
  have hicap : i + 1 ≤ cap := by omega
  have hne : ((i : Int) == (i : Int) + 1) = false := by simp; omega
  have hw1 : IntKind.i64.wrap ((i : Int) + 1) = (i : Int) + 1 := by rw [IntKind.wrap_i64]; omega
  have ht1 : ((i : Int) + 1).toNat = i + 1 := by omega
  have hs2 : ∀ W : World, (Instr.slice 23 (.slice (some ⟨g, off, none⟩) n cap) (some (.int .i64 ((i : Int) + 1))) none none).run Tryz.prog W = .ok (.slice (some A2) (n - (i + 1)) (cap - (i + 1))) W := fun W => by
    have := run_slice_l (P := Tryz.prog) W 23 (some ⟨g, off, none⟩) n cap Tryz.underlying23 .i64 (i + 1) (by omega) (by omega)
    have he : Tryz.prog.elem 23 = 25 := by kernel_rfl
    rw [he] at this
    rw [this, file_size, ← hA2]
    simp [Result.andThen, sliced, Addr.add_lit, ht1]
  clear hA2
  go_enter Tryz.func54, Tryz.ntmps54
  go_wp2_with fail
  obtain ⟨Φ, hΦ⟩ : ∃ Φ : World → Prop, ∀ x, Φ x := ⟨fun _ => True, fun _ => trivial⟩
  have h0 : Φ w.drew := hΦ _
  have hne' := Lat.some h0
  have HΦ := Lib.hid hΦ
  clear hΦ
  refine wp_region_lat [6] Φ h0 (by kernel_rfl) (by kernel_rfl) (by kernel_rfl) ?_
  iterate 6 (refine lex_pure rfl rfl rfl ?_; intro K hK; go_big_quiet_op; go_big_quiet_on)
  refine lex_eff rfl ?_
  refine Lib.wpList_append_run _ rfl (.tmp 22) (.tmp 25) 23 23 rfl _ _ rfl rfl _ _ (HAP.out _ A2 (cap - (i + 1)) HAC.out) ?_
  obtain ⟨W1, hW1⟩ : ∃ W1, W1 = w.drew.setCells g (off + i * 2) (fcells (L.drop (i + 1))) := ⟨_, rfl⟩
  obtain ⟨cur1, hO1⟩ := HO1.out W1 hW1
  have HB1 : Hid (Below base w W1) := by
    unfold Hid
    rw [hW1]
    exact Below.grown (Below.drew (Below.refl base w)) (grownBy_setCells g _ _ w.drew) hbase fun k hk => by cases hk; exact HLOW.out
  rw [← hW1]
  clear hW1
  have HO2 := Lib.hid hO1
  clear hO1
  go_wp2_with fail
  refine ⟨⟨⟨_, HΦ.out _⟩, rfl⟩, ?_⟩
  repeat (refine lex_pure rfl rfl rfl ?_; intro K hK; go_big_quiet_op; go_big_quiet_on)
  refine lex_nil ?_
  clear hne' h0
  have hO1 := HO2.out
  have hcl : ∀ ty : TypeId, (Builtin.clear_ #[23] ty #[.slice (some ⟨g, off + (i + (n - (i + 1))) * 2, none⟩) (n - (i + (n - (i + 1)))) (cap - (i + (n - (i + 1))))]).run Tryz.prog W1 = .ok (.tuple #[]) (W1.setCells g (off + (n - 1) * 2) [.string ⟨#[]⟩, .string ⟨#[]⟩]) := fun ty => by
    rw [show i + (n - (i + 1)) = n - 1 by omega, show n - (n - 1) = 1 by omega]
    exact run_clear_file W1 ty g (off + (n - 1) * 2) _ (fun j hj => by rw [Nat.add_assoc]; exact hO1.there (by omega)) fun j hj => hO1.free _
  have HO3 : Hid (OwnFiles (W1.setCells g (off + (n - 1) * 2) [.string ⟨#[]⟩, .string ⟨#[]⟩]) base (.slice (some ⟨g, off, none⟩) (i + (n - (i + 1))) cap) (L.take i ++ L.drop (i + 1))) := by
    unfold Hid OwnFiles
    have hl : (L.take i ++ L.drop (i + 1)).length = n - 1 := by rw [List.length_append, List.length_take, List.length_drop, ← HN.out]; omega
    rw [hl, show i + (n - (i + 1)) = n - 1 by omega]
    refine (hO1.write ((n - 1) * 2) [.string ⟨#[]⟩, .string ⟨#[]⟩] (by simp; omega) (n - 1) (by omega) _ (by rw [fcells_len, hl]) (fun j hj _ => (hO1.at' j hj).symm) (fun j hj h _ => by omega) (fun j hj h => by omega)).own
  have HB2 : Hid (Below base w (W1.setCells g (off + (n - 1) * 2) [.string ⟨#[]⟩, .string ⟨#[]⟩])) :=
    Below.grown HB1.out (grownBy_setCells g _ _ W1) (Nat.le_trans hbase (Below.size HB1.out)) fun k hk => by cases hk; exact HLOW.out
  clear hO1 HO2 HB1
  go_wp2_with fail
  go_ret
  exact ⟨_, rfl, HO3.out, HB2.out⟩
set_option maxRecDepth 100000 in
theorem Drop_any (t : T.Tr) (A : Option Addr) (c n : Nat) (p : ByteArray) (w : World) (hn : n = t.length) (hA : SliceAt fileR w (Old w) A c t) (hp : ∀ f ∈ t, f.1.size ≤ 1000000) (hg : Gl w) :
    Calls Tryz.prog 17 #[.slice A n c, .string p] w (RetTr w (T.dropE okB t p.data.toList)) := by
  have hck : Hid (Calls Tryz.prog 24 #[.slice A n c] w (Al (.int .i64 (T.checkE okB t)) w)) := Check_any t A c n w hn hA hp hg
  have hix : Hid (∀ W, Ext w W → Calls Tryz.prog 44 #[.slice A n c, .string p] W (Al (.int .i64 (idxI (T.idxT t p.data.toList))) W)) := fun W hW => index_any t A c n p W hn (hA.ext hW)
  obtain ⟨Z, hZ⟩ : ∃ Z, Z = T.dropE okB t p.data.toList := ⟨_, rfl⟩
  rw [← hZ]
  have HZ := Lib.hid hZ
  have HN := Lib.hid hn
  have HA := Lib.hid hA
  clear hZ hn hA hp hg
  by_cases h0 : T.checkE okB t = 0
  · rw [h0] at hck
    have hok := checkE_ok h0
    have hn64 : n ≤ 64 := by rw [HN.out]; exact hok.few
    have HZ2 : Hid (Z = if T.findT t p.data.toList = none then ([], 7) else (T.dropT t p.data.toList, 0)) := by unfold Hid; rw [HZ.out, T.dropE, if_neg (by rw [h0]; simp)]
    cases hi : T.idxT t p.data.toList with
    | none =>
      rw [hi] at hix
      have HF : Hid (Z = ([], 7)) := by unfold Hid; rw [HZ2.out, if_pos (T.idxT_no hi).2]
      have hz : idxI none = -1 := rfl
      rw [hz] at hix
      clear HZ HZ2 hok h0 hi hz
      go_enter Tryz.func17, Tryz.ntmps17
      go_wp2_with fail
      refine hck.out.mono ?_
      rintro e w1 ⟨rfl, d1⟩
      go_wp2_with fail
      refine (hix.out _ d1).mono ?_
      rintro e w2 ⟨rfl, d2⟩
      go_wp2_with fail
      go_ret2
      exact ⟨_, by rw [HF.out]; rfl, by rw [HF.out]; exact own_files_nil _ _, d1.trans d2⟩
    | some i =>
      rw [hi] at hix
      obtain ⟨hk, he, _, hf⟩ := T.idxT_some hi
      have HF : Hid (Z = (t.take i ++ t.drop (i + 1), 0)) := by unfold Hid; rw [HZ2.out, hf, if_neg (by simp), T.erase_drop hok.sorted hk he]
      have hz : idxI (some i) = (i : Int) := rfl
      rw [hz] at hix
      have hin : i < n := by rw [HN.out]; exact hk
      have HCL : Hid (∀ W, Ext w W → Calls Tryz.prog 48 #[.slice A n c] W (RetT W t)) := fun W hW => CloneF_any t A c n W HN.out (HA.out.ext hW) (by omega)
      clear HZ HZ2 hok h0 hi hz hk he hf
      go_enter Tryz.func17, Tryz.ntmps17
      go_wp2_with fail
      refine hck.out.mono ?_
      rintro e w1 ⟨rfl, d1⟩
      go_wp2_with fail
      refine (hix.out _ d1).mono ?_
      rintro e w2 ⟨rfl, d2⟩
      go_wp2_with fail
      refine (HCL.out _ (d1.trans d2)).mono ?_
      rintro e w3 ⟨v, rfl, ho, d3⟩
      have HDL : Hid (Calls Tryz.prog 54 #[v, .int .i64 (i : Int), .int .i64 ((i : Int) + 1)] w3 fun e w' => ∃ v', e = .returned v' ∧ OwnFiles w' w2.heap.size v' (t.take i ++ t.drop (i + 1)) ∧ Below w2.heap.size w3 w') := Delete_any t v n i w3 w2.heap.size HN.out hin ho d3.size
      have X3 : Hid (Ext w w2) := d1.trans d2
      have HD3 := Lib.hid d3
      clear d1 d2 d3 ho
      go_wp2_with fail
      refine HDL.out.mono ?_
      rintro e w4 ⟨v', rfl, ho, d4⟩
      have d5 : Ext w w4 := X3.out.trans (Below.trans HD3.out d4)
      have HO := Lib.hid (ho.mono X3.out.size)
      clear ho d4 HDL
      go_wp2_with fail
      go_ret2
      exact ⟨_, by rw [HF.out]; rfl, by rw [HF.out]; exact HO.out, d5⟩
  · have HF : Hid (Z = ([], 1)) := by unfold Hid; rw [HZ.out, T.dropE, if_pos h0]
    have hd : ((T.checkE okB t) == 0) = false := by simp [h0]
    generalize T.checkE okB t = x at hck h0 hd
    have hd2 : (!(x == 0)) = true := by rw [hd]; rfl
    clear HZ
    go_enter Tryz.func17, Tryz.ntmps17
    go_wp2_with fail
    refine hck.out.mono ?_
    rintro e w1 ⟨rfl, d1⟩
    go_wp2_with fail
    go_ret2
    exact ⟨_, by rw [HF.out]; rfl, by rw [HF.out]; exact own_files_nil _ _, d1⟩
end Go.Proofs.YtclhbcicbnoohaaGreatDoor

/- The closures of tree.Put; slices.BinarySearchFunc of files by their paths. -/
namespace Go.Proofs.YtclhbcicbnoohaaGreatDoor
open Go.RowKit

theorem cmp_ways : ∀ a b : List UInt8, (a < b ∧ Lib.compareBytes a b = -1) ∨ (a = b ∧ Lib.compareBytes a b = 0) ∨ (b < a ∧ Lib.compareBytes a b = 1)
  | [], [] => .inr (.inl ⟨rfl, rfl⟩)
  | [], _ :: _ => .inl ⟨List.nil_lt_cons _ _, rfl⟩
  | _ :: _, [] => .inr (.inr ⟨List.nil_lt_cons _ _, rfl⟩)
  | x :: a, y :: b => by
    have ih := cmp_ways a b
    rw [Lib.compareBytes]
    simp only [List.cons_lt_cons_iff]
    by_cases h1 : x < y
    · rw [if_pos h1]; exact .inl ⟨.inl h1, rfl⟩
    · rw [if_neg h1]
      by_cases h2 : y < x
      · rw [if_pos h2]; exact .inr (.inr ⟨.inl h2, rfl⟩)
      · rw [if_neg h2]
        have e : x = y := UInt8.le_antisymm (UInt8.not_lt.1 h2) (UInt8.not_lt.1 h1)
        subst e
        rcases ih with ⟨h3, h4⟩ | ⟨h3, h4⟩ | ⟨h3, h4⟩
        · exact .inl ⟨.inr ⟨rfl, h3⟩, h4⟩
        · subst h3; exact .inr (.inl ⟨rfl, h4⟩)
        · exact .inr (.inr ⟨.inr ⟨rfl, h3⟩, h4⟩)
theorem egc46 : ∀ (args : Array Value) (w : World), (callFunc 46 args).run Tryz.prog w = .ok (.enter 46 args) w := enters_of Tryz.func46 (by kernel_rfl) rfl
theorem egc50 : ∀ (args : Array Value) (w : World), (callFunc 50 args).run Tryz.prog w = .ok (.enter 50 args) w := enters_of Tryz.func50 (by kernel_rfl) rfl
set_option maxRecDepth 8000 in
theorem chk2_any (s d x : ByteArray) (bp : Nat) (w : World) (hs : s.size ≤ 1000000000) (hx : x.size ≤ 1000000000) (c1 : w.cell? ⟨bp, 0, none⟩ = some (.string x)) :
    Calls Tryz.prog 46 #[.agg #[.string s, .string d], .pointer (some ⟨bp, 0, none⟩)] w (Al (.bool (T.below x.data.toList s.data.toList || T.below s.data.toList x.data.toList)) w) := by
  have d1 := alloc_keepc (.cells #[.string s, .string d] 25) c1
  have HC : Hid (∀ W, Calls Tryz.prog 47 #[.string x, .string s] W fun e w' => e = .returned (.bool (T.below x.data.toList s.data.toList)) ∧ W = w') := fun W => below_any x s W hs
  have HC2 : Hid (∀ W, Calls Tryz.prog 47 #[.string s, .string x] W fun e w' => e = .returned (.bool (T.below s.data.toList x.data.toList)) ∧ W = w') := fun W => below_any s x W hx
  clear c1
  generalize T.below x.data.toList s.data.toList = b at HC ⊢
  generalize T.below s.data.toList x.data.toList = b2 at HC2 ⊢
  cases b
  · go_enter Tryz.func46, Tryz.ntmps46
    go_wp2_with fail
    refine (HC.out _).mono ?_
    rintro e w1 ⟨rfl, rfl⟩
    go_wp2_with fail
    refine (HC2.out _).mono ?_
    rintro e w1 ⟨rfl, rfl⟩
    go_wp2_with fail
    go_ret
    exact ⟨by simp, (Ext.refl w).alloc _⟩
  · go_enter Tryz.func46, Tryz.ntmps46
    go_wp2_with fail
    refine (HC.out _).mono ?_
    rintro e w1 ⟨rfl, rfl⟩
    go_wp2_with fail
    go_ret
    exact ⟨by simp, (Ext.refl w).alloc _⟩
theorem cmpP_any (s d x : ByteArray) (w : World) : Calls Tryz.prog 50 #[.agg #[.string s, .string d], .string x] w (Al (.int .i64 (Lib.compareBytes s.data.toList x.data.toList)) w) := by
  have HC : Hid (∀ W, Calls Tryz.prog 51 #[.string s, .string x] W fun e w' => e = .returned (.int .i64 (Lib.compareBytes s.data.toList x.data.toList)) ∧ w' = W) := fun W => Tryz.strings_Compare s x W
  generalize Lib.compareBytes s.data.toList x.data.toList = c at HC ⊢
  go_enter Tryz.func50, Tryz.ntmps50
  go_wp2_with fail
  refine (HC.out _).mono ?_
  rintro e w1 ⟨rfl, rfl⟩
  go_wp2_with fail
  go_ret
  exact ⟨rfl, (Ext.refl w).alloc _⟩
set_option maxRecDepth 100000 in
set_option maxHeartbeats 2000000 in
theorem BinSearch_any (t : T.Tr) (A : Option Addr) (c n : Nat) (x : ByteArray) (w : World) (hn : n = t.length) (hA : SliceAt fileR w (Old w) A c t) (hl : n ≤ 1000) (hs : T.Srt t) :
    Calls Tryz.prog 49 #[.slice A n c, .string x, .func (.func 50) #[] #[]] w fun e w' => ∃ (p : Nat) (b : Bool), e = .returned (.tuple #[.int .i64 (p : Int), .bool b]) ∧ p ≤ n ∧ (∀ i (h : i < t.length), i < p → T.pth t[i] < x.data.toList) ∧ (∀ i (h : i < t.length), p ≤ i → ¬ T.pth t[i] < x.data.toList) ∧ Ext w w' := by
  have HN := Lib.hid hn
  have HA := Lib.hid hA
  have HS : Hid (∀ i j (hi : i < t.length) (hj : j < t.length), i < j → T.pth t[i] < T.pth t[j]) := fun i j hi hj hij => T.srt_lt hs hi hj hij
  have eg := egc50
  clear hn hA hs
  go_enter Tryz.func49, Tryz.ntmps49
  go_wp2_with fail
  go_loopw [9, 10] (fun s1 s2 wr => ∃ lo hi : Nat, s1 = .int .i64 lo ∧ s2 = .int .i64 hi ∧ lo ≤ hi ∧ hi ≤ n ∧ Hid ((∀ i (h : i < t.length), i < lo → T.pth t[i] < x.data.toList) ∧ (∀ i (h : i < t.length), hi ≤ i → ¬ T.pth t[i] < x.data.toList) ∧ Ext w wr)) (fun s1 s2 _ => (intOf s2).toNat - (intOf s1).toNat)
  case atStart => exact ⟨0, n, rfl, rfl, Nat.zero_le _, Nat.le_refl _, fun _ _ h => absurd h (Nat.not_lt_zero _), fun i h h2 => by have := HN.out; omega, Ext.refl w⟩
  case round =>
    obtain ⟨lo, hi, rfl, rfl, hlh, hhn, HK⟩ := hrel
    by_cases hlt : lo < hi
    · have hml : (lo + hi) / 2 < t.length := by have := HN.out; omega
      obtain ⟨b, off, hAe, hb, c0, c1, h1, h2⟩ := file_get (HA.out.ext HK.out.2.2) hml
      subst hAe
      rw [← Nat.add_assoc] at c1
      have HX := Lib.hid HK.out.2.2
      have HCM := Lib.hid (fun W => cmpP_any t[(lo + hi) / 2].1 t[(lo + hi) / 2].2 x W)
      have HLO : Hid (T.pth t[(lo + hi) / 2] < x.data.toList → ∀ i (h : i < t.length), i < (lo + hi) / 2 + 1 → T.pth t[i] < x.data.toList) := fun h0 i hi' hik => by
        rcases Nat.lt_or_ge i ((lo + hi) / 2) with h3 | h3
        · exact T.lt_trans (HS.out i _ hi' hml h3) h0
        · obtain rfl : i = (lo + hi) / 2 := by omega
          exact h0
      have HHI : Hid (¬ T.pth t[(lo + hi) / 2] < x.data.toList → ∀ i (h : i < t.length), (lo + hi) / 2 ≤ i → ¬ T.pth t[i] < x.data.toList) := fun h0 i hi' hik h4 => by
        rcases Nat.eq_or_lt_of_le hik with h3 | h3
        · subst h3; exact h0 h4
        · exact h0 (T.lt_trans (HS.out _ i hml hi' h3) h4)
      have HK1 := Lib.hid HK.out.1
      have HK2 := Lib.hid HK.out.2.1
      have hp : T.pth t[(lo + hi) / 2] = t[(lo + hi) / 2].1.data.toList := rfl
      rw [hp] at HLO HHI
      clear HK hp
      generalize t[(lo + hi) / 2] = f at *
      obtain ⟨fp, fd⟩ := f
      simp only at c0 c1 h1 h2 HCM HLO HHI
      by_cases hc : fp.data.toList < x.data.toList
      · have hci : Lib.compareBytes fp.data.toList x.data.toList = -1 := by
          rcases cmp_ways fp.data.toList x.data.toList with h3 | h3 | h3
          · exact h3.2
          · rw [h3.1] at hc; exact absurd hc (T.lt_irrefl _)
          · exact absurd (T.lt_trans hc h3.1) (T.lt_irrefl _)
        rw [hci] at HCM
        have HQ := Lib.hid (HLO.out hc)
        clear HLO HHI hc hci
        go_wp2_with (go_at_fn 50; refine (HCM.out _).mono ?_; rintro e w1 ⟨rfl, d1⟩)
        go_roundw
        case rel => exact ⟨(lo + hi) / 2 + 1, hi, by rw [show ((lo : Int) + (hi : Int)) / 2 + 1 = (((lo + hi) / 2 + 1 : Nat) : Int) by omega], rfl, by omega, hhn, HQ.out, HK2.out, HX.out.trans d1⟩
        case measure => simp [intOf]; omega
      · have hci : Lib.compareBytes fp.data.toList x.data.toList = 0 ∨ Lib.compareBytes fp.data.toList x.data.toList = 1 := by
          rcases cmp_ways fp.data.toList x.data.toList with h3 | h3 | h3
          · exact absurd h3.1 hc
          · exact .inl h3.2
          · exact .inr h3.2
        have HQ := Lib.hid (HHI.out hc)
        clear HLO HHI hc
        rcases hci with hci | hci
        all_goals
          rw [hci] at HCM
          clear hci
          go_wp2_with (go_at_fn 50; refine (HCM.out _).mono ?_; rintro e w1 ⟨rfl, d1⟩)
          go_roundw
          case rel => exact ⟨lo, (lo + hi) / 2, rfl, by rw [show ((lo : Int) + (hi : Int)) / 2 = (((lo + hi) / 2 : Nat) : Int) by omega], by omega, by omega, HK1.out, HQ.out, HX.out.trans d1⟩
          case measure => simp [intOf]; omega
    · obtain rfl : hi = lo := by omega
      have HX := Lib.hid HK.out.2.2
      have HK1 := Lib.hid HK.out.1
      have HK2 := Lib.hid HK.out.2.1
      clear HK
      by_cases hln : hi < n
      · have hml : hi < t.length := by have := HN.out; omega
        obtain ⟨b, off, hAe, hb, c0, c1, h1, h2⟩ := file_get (HA.out.ext HX.out) hml
        subst hAe
        rw [← Nat.add_assoc] at c1
        have HCM := Lib.hid (fun W => cmpP_any t[hi].1 t[hi].2 x W)
        generalize t[hi] = f at *
        obtain ⟨fp, fd⟩ := f
        simp only at c0 c1 h1 h2 HCM
        generalize Lib.compareBytes fp.data.toList x.data.toList = ci at HCM
        go_wp2_with (go_at_fn 50; refine (HCM.out _).mono ?_; rintro e w1 ⟨rfl, d1⟩)
        go_ret2
        exact ⟨hi, _, rfl, by omega, HK1.out, HK2.out, HX.out.trans d1⟩
      · have hd : decide (hi < n) = false := decide_eq_false hln
        go_wp2_with fail
        go_ret2
        exact ⟨hi, _, rfl, by omega, HK1.out, HK2.out, HX.out⟩
end Go.Proofs.YtclhbcicbnoohaaGreatDoor

/- slices.Insert of one file. -/
namespace Go.Proofs.YtclhbcicbnoohaaGreatDoor
open Go.RowKit

theorem u22 : Tryz.prog.underlying 22 = some (.slice 25) := Tryz.underlying22
/-- The second type of an append of files is that of a slice too. -/
theorem app_eq (w : World) (ty : TypeId) (a b : Value) : (Builtin.append_ #[23, 22] ty #[a, b]).run Tryz.prog w = (Builtin.append_ #[23, 23] ty #[a, b]).run Tryz.prog w := by
  cases a with
  | slice base n c => simp [Builtin.append_, run_underlying Tryz.underlying23, run_underlying Tryz.underlying22]
  | _ => simp [Builtin.append_, run_underlying Tryz.underlying23]
/-- copy of files: all is read before anything is written. -/
theorem run_copy_files (w : World) (sT ty : TypeId) (b o dLen dCap : Nat) (a : Addr) (sLen sCap : Nat) (cs : List Value) (hn : cs.length = Nat.min sLen dLen * 2)
    (hsrc : ∀ j v, cs[j]? = some v → w.cell? (a.add j) = some v) (hc : ∀ j, j < cs.length → (w.cell? ⟨b, o + j, none⟩).isSome = true) (hf : ∀ j, j < cs.length → w.frozen? ⟨b, o + j, none⟩ = false) (h1 : ∀ v ∈ cs, v.oneCell' = true) :
    (Builtin.copy_ #[23, sT] ty #[.slice (some ⟨b, o, none⟩) dLen dCap, .slice (some a) sLen sCap]).run Tryz.prog w = .ok (goInt (Nat.min sLen dLen : Nat)) (w.setCells b o cs) := by
  obtain ⟨i0, hi, hz0, hz1, hz2⟩ := info_parts file_info
  have hl := run_loadCells_list (P := Tryz.prog) w a cs hsrc
  have hst := run_storeCells_cells (P := Tryz.prog) b o cs 0 w (by simpa using hc) (by simpa using hf) h1
  simp [Builtin.copy_, run_underlying Tryz.underlying23, Builtin.lenOf, Builtin.firstCells, sizeOf, typeInfo, hi, hz1, ← hn, hl, hst]
theorem wpList_copy_at {P : Program} (w : World) {ops : Array Oper} {rest : List Oper} {o : Oper} {a : Act} {Q : Exit → Act → World → Prop} (hgd : o.guard = none) (d s : Operand) (t t' : TypeId)
    (ho : o.op = .call { callee := .builtin .copy, args := #[d, s], argTypes := #[t, t'] }) (v u : Value) (hd : a.eval d = v) (hs : a.eval s = u) {v' : Value} {w' : World}
    (hr : (Builtin.copy_ #[t, t'] o.type #[v, u]).run P w = .ok v' w') (h : wpList P ops Q rest (a.put o.dst v') w') : wpList P ops Q (o :: rest) a w :=
  wpList_plain hgd fun K hK => by
    unfold Oper.wp execOp
    simp only [ho, resolve, invoke, builtin, Sem.run_bind, Sem.run_pure, Result.andThen_ok, List.map_toArray, List.map_cons, List.map_nil, hd, hs, hr]
    exact hK _ _ h
/-- The row as it stands, at another length. -/
theorem Own1.raw {w : World} {base g off cap n : Nat} {cur : Array Value} {xs : List Value} (h : Own1 w base g off cap cur n xs) (m : Nat) (hm : m ≤ cap) : Own1 w base g off cap cur m ((cur.toList.drop off).take (m * 2)) := by
  have hf := h.fits
  refine ⟨by rw [List.length_take, List.length_drop, Array.length_toList]; omega, h.low, h.row, hm, h.big, h.fits, fun j hj => ?_⟩
  rw [List.getElem?_take_of_lt hj, List.getElem?_drop, Array.getElem?_toList]
theorem Own1.writeRaw {w : World} {base g off cap n : Nat} {cur : Array Value} {xs : List Value} (h : Own1 w base g off cap cur n xs) (o : Nat) (ys : List Value) : ∃ zs, Own1 (w.setCells g (off + o) ys) base g off cap (setArr cur (off + o) ys) n zs := by
  have hf := h.fits
  refine ⟨(((setArr cur (off + o) ys).toList.drop off).take (n * 2)), by rw [List.length_take, List.length_drop, Array.length_toList, setArr_size]; have := h.room; omega, h.low, heap_setCells_at g ys _ w cur 25 h.row, h.room, h.big, by rw [setArr_size]; exact h.fits, fun j hj => ?_⟩
  rw [List.getElem?_take_of_lt hj, List.getElem?_drop, Array.getElem?_toList]
section
variable {L : T.Tr} {f : T.File} {i n : Nat}
theorem ins_len (hn : n = L.length) (hi : i ≤ n) : (fcells (L.take i ++ f :: L.drop i)).length = (n + 1) * 2 := by
  rw [fcells_len, List.length_append, List.length_take, List.length_cons, List.length_drop]
  omega
theorem ins_lo (hn : n = L.length) (hi : i ≤ n) {j : Nat} (hj : j < i * 2) : (fcells (L.take i ++ f :: L.drop i))[j]? = (fcells L)[j]? := by
  have e : fcells L = fcells (L.take i) ++ fcells (L.drop i) := by rw [← fcells_append, List.take_append_drop]
  rw [fcells_append, e, List.getElem?_append_left (by rw [fcells_len, List.length_take]; omega), List.getElem?_append_left (by rw [fcells_len, List.length_take]; omega)]
theorem ins_at (hn : n = L.length) (hi : i ≤ n) {j : Nat} (hj : i * 2 ≤ j) (hj2 : j < i * 2 + 2) : (fcells (L.take i ++ f :: L.drop i))[j]? = (fcells [f])[j - i * 2]? := by
  have e : f :: L.drop i = [f] ++ L.drop i := rfl
  rw [fcells_append, List.getElem?_append_right (by rw [fcells_len, List.length_take]; omega), fcells_len, List.length_take, Nat.min_eq_left (by omega), e, fcells_append, List.getElem?_append_left (by rw [fcells_len]; simp; omega)]
theorem ins_hi (hn : n = L.length) (hi : i ≤ n) {j : Nat} (hj : (i + 1) * 2 ≤ j) : (fcells (L.take i ++ f :: L.drop i))[j]? = (fcells (L.drop i))[j - (i + 1) * 2]? := by
  have e : f :: L.drop i = [f] ++ L.drop i := rfl
  rw [fcells_append, List.getElem?_append_right (by rw [fcells_len, List.length_take]; omega), fcells_len, List.length_take, Nat.min_eq_left (by omega), e, fcells_append, List.getElem?_append_right (by rw [fcells_len]; simp; omega), fcells_len]
  congr 1
  simp
  omega
theorem drop_cells (hn : n = L.length) (hi : i ≤ n) {j : Nat} : (fcells (L.drop i))[j]? = (fcells L)[i * 2 + j]? := by
  have e : fcells L = fcells (L.take i) ++ fcells (L.drop i) := by rw [← fcells_append, List.take_append_drop]
  rw [e, List.getElem?_append_right (by rw [fcells_len, List.length_take]; omega), fcells_len, List.length_take]
  congr 1
  omega
end
/-- What Insert gives. -/
def RetIns (w : World) (base : Nat) (l : T.Tr) (e : Ending) (w' : World) : Prop := ∃ v', e = .returned v' ∧ OwnFiles w' base v' l ∧ Below base w w'
set_option maxRecDepth 100000 in
set_option maxHeartbeats 2000000 in
theorem Insert_end (L : T.Tr) (v : Value) (n : Nat) (fp fd : ByteArray) (vb : Nat) (w : World) (base : Nat) (hn : n = L.length) (hl : n ≤ 100) (hown : OwnFiles w base v L) (hbase : base ≤ w.heap.size)
    (hv : w.heap[vb]? = some (.cells #[.string fp, .string fd] 25 (0, 0))) :
    Calls Tryz.prog 52 #[v, .int .i64 (n : Int), .slice (some ⟨vb, 0, none⟩) 1 1] w (RetIns w base (L ++ [(fp, fd)])) := by
  obtain ⟨i0, hi, hz0, hz1, hz2⟩ := info_parts file_info
  obtain ⟨q, Ao, co, hq, rfl, hown'⟩ := own_files_q hown
  have hqn : q = n := by rw [hq, hn]
  subst hqn
  have hle : q ≤ co := by
    obtain ⟨A', c', e, h1, _⟩ := own_files_form hown'
    cases e
    exact h1
  obtain ⟨v', w', hrun, h2, h3, _, _⟩ := run_append_ownAt (P := Tryz.prog) w base 23 23 25 i0 (.agg #[.string ⟨#[]⟩, .string ⟨#[]⟩]) 2 32 Tryz.underlying23 hi hz0 hz1 hz2 rfl (by decide) _ q (fcells L) hown' ⟨vb, 0, none⟩ 1 1 (fcells [(fp, fd)]) rfl
    (fun j u hj => by rw [Addr.add_lit, Nat.zero_add, cell_of_row w vb _ _ 25 (0, 0) hv, ← hj]; simp [fcells]) (fcells_one _) (by unfold maxLen; omega) (by omega) hbase (by decide)
  have HR : Hid ((Builtin.append_ #[23, 22] 23 #[.slice Ao q co, .slice (some ⟨vb, 0, none⟩) 1 1]).run Tryz.prog w = .ok v' w') := by
    unfold Hid
    rw [app_eq]
    exact hrun
  have HO : Hid (OwnFiles w' base v' (L ++ [(fp, fd)])) := own_files_snoc hq h2
  have HB : Hid (Below base w w') := Below.grown (Below.refl _ _) h3 hbase fun k hk => (own_at_lt hown' hk).1
  clear hrun h2 h3 hown' hown hv hbase hq hn
  have hs1 : ∀ W : World, ∃ A2, (Instr.slice 23 (.slice Ao q co) (some (.int .i64 (q : Int))) none none).run Tryz.prog W = .ok A2 W := fun W => by
    have := run_slice_l (P := Tryz.prog) W 23 Ao q co Tryz.underlying23 .i64 q (by omega) (by omega)
    have he : Tryz.prog.elem 23 = 25 := by kernel_rfl
    rw [he] at this
    rw [this, file_size]
    exact ⟨_, rfl⟩
  obtain ⟨A2, hA2⟩ := hs1 w
  go_enter Tryz.func52, Tryz.ntmps52
  go_wp2_with (at_builtin; refine Lib.wpList_append_run _ rfl (.tmp 23) (.tmp 24) 23 22 rfl _ _ rfl rfl _ _ HR.out ?_)
  go_ret
  exact ⟨_, rfl, HO.out, HB.out⟩
theorem call75 (args : Array Value) (w : World) : (callFunc 75 args).run Tryz.prog w = ((Extern.SlicesOverlaps.overlaps #[22, 22] #[4] args).run Tryz.prog w).andThen fun v w' => .ok (.value v) w' :=
  have x1 : (Tryz.f75.name == "runtime.NumGoroutine") = false := by kernel_rfl
  have x2 : Tryz.f75.body.isNone = true := by kernel_rfl
  have x3 : Extern.findNext Tryz.f75 = none := by kernel_rfl
  have x4 : Extern.find Tryz.f75 = some (Extern.SlicesOverlaps.overlaps #[22, 22] #[4]) := by kernel_rfl
  run_callFunc_extern Tryz.func75 x1 x2 x3 x4 args w
set_option maxRecDepth 100000 in
theorem run_cut {W : World} {g off n cap : Nat} (m : Nat) (hm : m ≤ n) (hne : ¬ cap = m) : (Instr.slice 23 (.slice (some ⟨g, off, none⟩) n cap) (some (.int .i64 (m : Int))) none none).run Tryz.prog W = .ok (.slice (some ⟨g, off + m * 2, none⟩) (n - m) (cap - m)) W := by
  have := run_slice_l (P := Tryz.prog) W 23 (some ⟨g, off, none⟩) n cap Tryz.underlying23 .i64 m (by omega) (by omega)
  have he : Tryz.prog.elem 23 = 25 := by kernel_rfl
  rw [he] at this
  rw [this, file_size]
  simp [Result.andThen, sliced, Addr.add_lit, hne]
set_option maxRecDepth 100000 in
set_option maxHeartbeats 4000000 in
theorem Insert_room (L : T.Tr) (g off cap : Nat) (cur : Array Value) (n i : Nat) (fp fd : ByteArray) (vb : Nat) (w : World) (base : Nat) (hn : n = L.length) (hi : i < n) (hO : Own1 w base g off cap cur n (fcells L)) (hroom : n + 1 ≤ cap) (hbase : base ≤ w.heap.size)
    (hv : w.heap[vb]? = some (.cells #[.string fp, .string fd] 25 (0, 0))) (hvb : vb ≠ g) :
    Calls Tryz.prog 52 #[.slice (some ⟨g, off, none⟩) n cap, .int .i64 (i : Int), .slice (some ⟨vb, 0, none⟩) 1 1] w (RetIns w base (L.take i ++ (fp, fd) :: L.drop i)) := by
  have hbig := hO.big
  have hov : ∀ lb cb, (callFunc 75 #[.slice (some ⟨vb, 0, none⟩) 1 1, .slice (some ⟨g, off + (i + 1) * 2, none⟩) lb cb]).run Tryz.prog w = .ok (.value (.bool false)) w := fun lb cb => by
    rw [call75, Lib.run_overlaps_apart w 22 4 25 Tryz.underlying22 2 file_size ⟨vb, 0, none⟩ ⟨g, off + (i + 1) * 2, none⟩ 1 1 lb cb hvb 25 25 2 cur.size (by simp [World.shape?, hv]) (by simp [World.shape?, hO.row]) (by have := hO.fits; omega) (by simp [World.frozen?, hv]) (by simp [World.frozen?, hv])]
    rfl
  have hdl : (fcells (L.drop i)).length = (n - i) * 2 := by rw [fcells_len, List.length_drop, ← hn]
  have hO1 := hO.drew.raw (n + 1) hroom
  obtain ⟨W1, hW1⟩ : ∃ W1, W1 = w.drew.setCells g (off + (i + 1) * 2) (fcells (L.drop i)) := ⟨_, rfl⟩
  obtain ⟨zs1, hO2⟩ := hO1.writeRaw ((i + 1) * 2) (fcells (L.drop i))
  have hcp1 : ∀ ty dc sc, (Builtin.copy_ #[23, 23] ty #[.slice (some ⟨g, off + (i + 1) * 2, none⟩) (n - i) dc, .slice (some ⟨g, off + i * 2, none⟩) (n + 1 - i) sc]).run Tryz.prog w.drew = .ok (goInt ((n - i : Nat) : Int)) W1 := fun ty dc sc => by
    have hm1 : Nat.min (n + 1 - i) (n - i) = n - i := by simp only [Nat.min_def]; split <;> omega
    rw [hW1]
    suffices hfin : (Builtin.copy_ #[23, 23] ty #[.slice (some ⟨g, off + (i + 1) * 2, none⟩) (n - i) dc, .slice (some ⟨g, off + i * 2, none⟩) (n + 1 - i) sc]).run Tryz.prog w.drew = .ok (goInt ((Nat.min (n + 1 - i) (n - i) : Nat) : Int)) (w.drew.setCells g (off + (i + 1) * 2) (fcells (L.drop i))) by
      rwa [hm1] at hfin
    refine run_copy_files w.drew 23 ty g (off + (i + 1) * 2) (n - i) dc ⟨g, off + i * 2, none⟩ (n + 1 - i) sc (fcells (L.drop i)) ?_ (fun j v hj => ?_) (fun j hj => ?_) (fun j hj => hO.drew.free _) (fcells_one _)
    · rw [hdl]; simp only [Nat.min_def]; split <;> omega
    · rw [Addr.add_lit, Nat.add_assoc]
      refine hO.drew.cell ?_
      rw [← drop_cells hn (by omega)]
      exact hj
    · rw [hdl] at hj
      rw [Nat.add_assoc]
      exact hO.drew.there (by omega)
  rw [← hW1] at hO2
  have hcp2 : ∀ (ty : TypeId) dc, (Builtin.copy_ #[23, 22] ty #[.slice (some ⟨g, off + i * 2, none⟩) (n + 1 - i) dc, .slice (some ⟨vb, 0, none⟩) 1 1]).run Tryz.prog W1 = .ok (goInt ((1 : Nat) : Int)) (W1.setCells g (off + i * 2) (fcells [(fp, fd)])) := fun ty dc => by
    have hm1 : Nat.min 1 (n + 1 - i) = 1 := by simp only [Nat.min_def]; split <;> omega
    suffices hfin : (Builtin.copy_ #[23, 22] ty #[.slice (some ⟨g, off + i * 2, none⟩) (n + 1 - i) dc, .slice (some ⟨vb, 0, none⟩) 1 1]).run Tryz.prog W1 = .ok (goInt ((Nat.min 1 (n + 1 - i) : Nat) : Int)) (W1.setCells g (off + i * 2) (fcells [(fp, fd)])) by
      rwa [hm1] at hfin
    refine run_copy_files W1 22 ty g (off + i * 2) (n + 1 - i) dc ⟨vb, 0, none⟩ 1 1 (fcells [(fp, fd)]) ?_ (fun j v hj => ?_) (fun j hj => ?_) (fun j hj => hO2.free _) (fcells_one _)
    · simp only [Nat.min_def]; split
      · rfl
      · omega
    · have hblk : W1.heap[vb]? = w.heap[vb]? := by
        rw [hW1]
        have hlt : vb < w.heap.size := (Array.getElem?_eq_some_iff.1 hv).1
        exact (grownBy_setCells g _ _ w.drew).block vb hlt (fun e => hvb (Option.some.inj e))
      rw [Addr.add_lit, Nat.zero_add, cell_of_row W1 vb _ _ 25 (0, 0) (hblk.trans hv), ← hj]
      simp [fcells]
    · rw [fcells_len] at hj
      simp only [List.length_cons, List.length_nil] at hj
      rw [Nat.add_assoc]
      exact hO2.there (by omega)
  have hf := hO.fits
  have HO : Hid (OwnFiles (W1.setCells g (off + i * 2) (fcells [(fp, fd)])) base (.slice (some ⟨g, off, none⟩) (n + 1) cap) (L.take i ++ (fp, fd) :: L.drop i)) := by
    unfold Hid OwnFiles
    have hl : (L.take i ++ (fp, fd) :: L.drop i).length = n + 1 := by rw [List.length_append, List.length_take, List.length_cons, List.length_drop]; omega
    rw [hl]
    refine (hO2.write (i * 2) (fcells [(fp, fd)]) (by rw [fcells_len]; simp; omega) (n + 1) hroom _ (ins_len hn (by omega)) (fun j hj hjo => ?_) (fun j hj h1 h2 => ?_) (fun j hj h => ?_)).own
    · rw [ins_lo hn (by omega) hjo, setArr_lt _ _ _ _ (by omega), hO.at' j (by omega)]
    · rw [fcells_len] at h2
      exact ins_at hn (by omega) h1 (by simpa using h2)
    · rw [fcells_len] at h
      have h' : (i + 1) * 2 ≤ j := by simp at h; omega
      rw [ins_hi hn (by omega) h', show off + j = off + (i + 1) * 2 + (j - (i + 1) * 2) by omega, setArr_in _ _ _ _ (by rw [hdl]; omega) (by rw [hdl]; omega)]
  have HB : Hid (Below base w (W1.setCells g (off + i * 2) (fcells [(fp, fd)]))) := by
    have h1 : Below base w W1 := by
      rw [hW1]
      exact Below.grown (Below.drew (Below.refl base w)) (grownBy_setCells g _ _ w.drew) hbase fun k hk => by cases hk; exact hO.low
    exact Below.grown h1 (grownBy_setCells g _ _ W1) (Nat.le_trans hbase (Below.size h1)) fun k hk => by cases hk; exact hO.low
  have HC1 := Lib.hid hcp1
  have HC2 := Lib.hid hcp2
  have HN := Lib.hid hn
  clear hO hO1 hO2 hdl hW1 hv hf hcp1 hcp2 hn
  have hicap : ¬ cap = i := by omega
  have hicap1 : ¬ cap = i + 1 := by omega
  have hne : ((i : Int) == (n : Int)) = false := by simp; omega
  have hw1 : IntKind.i64.wrap ((i : Int) + 1) = (i : Int) + 1 := by rw [IntKind.wrap_i64]; omega
  have ht1 : ((i : Int) + 1).toNat = i + 1 := by omega
  have hin : i ≤ n := by omega
  have hc1 : ∀ W : World, (Instr.slice 23 (.slice (some ⟨g, off, none⟩) (n + 1) cap) (some (.int .i64 ((i : Int) + 1))) none none).run Tryz.prog W = .ok (.slice (some ⟨g, off + (i + 1) * 2, none⟩) (n - i) (cap - (i + 1))) W := fun W => by
    have := run_cut (W := W) (g := g) (off := off) (n := n + 1) (cap := cap) (i + 1) (by omega) hicap1
    rwa [show n + 1 - (i + 1) = n - i by omega] at this
  have hc2 : ∀ W : World, (Instr.slice 23 (.slice (some ⟨g, off, none⟩) (n + 1) cap) (some (.int .i64 (i : Int))) none none).run Tryz.prog W = .ok (.slice (some ⟨g, off + i * 2, none⟩) (n + 1 - i) (cap - i)) W := fun W => run_cut i (by omega) hicap
  have hc3 : ∀ W : World, (Instr.slice 23 (.slice (some ⟨g, off, none⟩) n cap) (some (.int .i64 (i : Int))) none none).run Tryz.prog W = .ok (.slice (some ⟨g, off + i * 2, none⟩) (n - i) (cap - i)) W := fun W => run_cut i (by omega) hicap
  go_enter Tryz.func52, Tryz.ntmps52
  go_wp2_with (simp only [hov])
  obtain ⟨Φ, hΦ⟩ : ∃ Φ : World → Prop, ∀ x, Φ x := ⟨fun _ => True, fun _ => trivial⟩
  have h0 : Φ w.drew := hΦ _
  have hne' := Lat.some h0
  have HΦ := Lib.hid hΦ
  clear hΦ
  refine wp_region_lat [8] Φ h0 (by kernel_rfl) (by kernel_rfl) (by kernel_rfl) ?_
  iterate 8 (refine lex_pure rfl rfl rfl ?_; intro K hK; go_big_quiet_op; go_big_quiet_on)
  refine lex_eff rfl ?_
  refine wpList_copy_at _ rfl (.tmp 73) (.tmp 76) 23 23 rfl _ _ rfl rfl (HC1.out _ _ _) ?_
  go_wp2_with fail
  refine ⟨⟨⟨_, HΦ.out _⟩, rfl⟩, ?_⟩
  refine lex_nil ?_
  clear hne' h0
  go_wp2_with (refine wpList_copy_at _ rfl (.tmp 80) (.tmp 81) 23 22 rfl _ _ rfl rfl (HC2.out _ _) ?_)
  go_ret
  exact ⟨_, rfl, HO.out, HB.out⟩
end Go.Proofs.YtclhbcicbnoohaaGreatDoor

/- Slices that the call builds, of elements that may point to other blocks of the call. For any program. -/
namespace Go.Proofs.YtclhbcicbnoohaaGreatDoor
open Go.RowKit

/-- The blocks from base on that are there, but for the row of v. -/
def Bl (w : World) (base : Nat) (v : Value) : Nat → Prop := fun k => base ≤ k ∧ k < w.heap.size ∧ v.ownBlock ≠ some k
/-- The blocks that have come since w. -/
def New (w w' : World) : Nat → Prop := fun k => w.heap.size ≤ k ∧ k < w'.heap.size
/-- The slice v of n elements holds l, in a row of the call's own; what the elements point to lies in blocks from base on. -/
def OwnF {α : Type} (r : Rep α) (w : World) (base : Nat) (e : TypeId) (v : Value) (n : Nat) (l : List α) : Prop :=
  n = l.length ∧ ∃ xs, OwnAt w base e r.size v n xs ∧ Flat r w (Bl w base v) l xs
section
variable {α : Type} {r : Rep α} {w w' : World} {base n : Nat} {e : TypeId} {v : Value} {l : List α}
theorem OwnF.nil (r : Rep α) (w : World) (base : Nat) (e : TypeId) : OwnF r w base e (.slice none 0 0) 0 [] := ⟨rfl, [], OwnAt.nil _ _ _ _, rfl⟩
/-- Blocks below base are written, and new ones are made. -/
theorem OwnF.below (h : OwnF r w base e v n l) (hs : w.heap.size ≤ w'.heap.size) (hk : ∀ k, base ≤ k → k < w.heap.size → w'.heap[k]? = w.heap[k]?) : OwnF r w' base e v n l := by
  obtain ⟨hn, xs, ho, hf⟩ := h
  have hlow : ∀ g, v.ownBlock = some g → base ≤ g := by
    intro g hg
    obtain ⟨_, ⟨rfl, _⟩ | ⟨g', off, cap, cur, rfl, hb, _⟩⟩ := ho
    · simp [Value.ownBlock] at hg
    · simp [Value.ownBlock] at hg; omega
  exact ⟨hn, xs, ho.keep fun g hg hlt => hk g (hlow g hg) hlt, hf.keep (fun k hk => ⟨hk.1, Nat.lt_of_lt_of_le hk.2.1 hs, hk.2.2⟩) fun k hk' => hk k hk'.1 hk'.2.1⟩
theorem OwnF.ext (h : OwnF r w base e v n l) (he : Ext w w') : OwnF r w' base e v n l := h.below he.size fun k _ hk => he.block k hk
theorem OwnF.grownLow (h : OwnF r w base e v n l) {b : Nat} (hg : w.grownBy w' (some b)) (hb : b < base) : OwnF r w' base e v n l :=
  h.below hg.size fun k hk1 hk2 => hg.block k hk2 fun e => by have := Option.some.inj e; omega
/-- A row of a slice that was begun later is written. -/
theorem OwnF.grownHigh (h : OwnF r w base e v n l) {b : Nat} (hg : w.grownBy w' (some b)) (hb : w.heap.size ≤ b) : OwnF r w' base e v n l :=
  h.below hg.size fun k _ hk2 => hg.block k hk2 fun e => by have := Option.some.inj e; omega
theorem OwnF.form (h : OwnF r w base e v n l) : ∃ A c, v = .slice A n c ∧ n ≤ c ∧ c ≤ 9223372036854775807 := by
  obtain ⟨hn, xs, ⟨_, ⟨rfl, rfl⟩ | ⟨g, off, cap, cur, rfl, _, _, h1, h2, _⟩⟩, hf⟩ := h
  · exact ⟨none, 0, rfl, Nat.le_refl _, by decide⟩
  · exact ⟨_, cap, rfl, h1, h2⟩
/-- Its cells, in blocks from base on. -/
theorem OwnF.slice (h : OwnF r w base e v n l) : ∃ A c, v = .slice A n c ∧ SliceAt r w (fun k => base ≤ k ∧ k < w.heap.size) A c l := by
  obtain ⟨hn, xs, ho, hf⟩ := h
  have hf' : Flat r w (fun k => base ≤ k ∧ k < w.heap.size) l xs := hf.keep (fun k hk => ⟨hk.1, hk.2.1⟩) fun _ _ => rfl
  rcases Nat.eq_zero_or_pos n with h0 | h0
  · have hl : l = [] := List.eq_nil_of_length_eq_zero (by omega)
    subst hl
    obtain ⟨_, ⟨rfl, _⟩ | ⟨g, off, cap, cur, rfl, _, _, h1, h2, _⟩⟩ := ho
    · exact ⟨none, 0, by rw [h0], SliceAt.nil _ _ _ _ _ (by decide)⟩
    · exact ⟨_, cap, rfl, SliceAt.nil _ _ _ _ _ h2⟩
  · obtain ⟨g, off, cap, rfl, hb, hlt, hnc, hcap, hc⟩ := ho.cells h0
    exact ⟨_, cap, rfl, by omega, hcap, fun _ => ⟨g, off, rfl, ⟨hb, hlt⟩, hf'.row hc⟩⟩
/-- One element more, behind an append. -/
theorem OwnF.push {xs us : List Value} {v' : Value} {a : α} (hn : n = l.length) (hf : Flat r w (Bl w base v) l xs) (ha : r.is w (Bl w base v) a us)
    (ho : OwnAt w' base e r.size v' (n + 1) (xs ++ us)) (hg : w.grownBy w' v.ownBlock) (hv : v'.ownBlock = v.ownBlock ∨ ∃ g, v'.ownBlock = some g ∧ w.heap.size ≤ g ∧ g < w'.heap.size) : OwnF r w' base e v' (n + 1) (l ++ [a]) := by
  refine ⟨by simp [hn], xs ++ us, ho, ?_⟩
  have hs : ∀ k, Bl w base v k → Bl w' base v' k := by
    rintro k ⟨h1, h2, h3⟩
    refine ⟨h1, Nat.lt_of_lt_of_le h2 hg.size, ?_⟩
    rcases hv with hv | ⟨g, hv, h4, _⟩
    · rw [hv]; exact h3
    · rw [hv]
      intro e
      have := Option.some.inj e
      omega
  have hk : ∀ k, Bl w base v k → w'.heap[k]? = w.heap[k]? := fun k hk => hg.block k hk.2.1 fun e => hk.2.2 e.symm
  exact Flat.append (Flat.one (r.keep ha hs hk)) (hf.keep hs hk)
end
theorem SliceAt.sub {α : Type} {r : Rep α} {w : World} {B B' : Nat → Prop} {A : Option Addr} {c : Nat} {l : List α} (h : SliceAt r w B A c l) (hB : ∀ k, B k → B' k) : SliceAt r w B' A c l := h.keep hB fun _ _ => rfl
theorem SliceAt.grown {α : Type} {r : Rep α} {w w' : World} {b : Nat} {A : Option Addr} {c : Nat} {l : List α} (h : SliceAt r w (fun k => k < w.heap.size ∧ k ≠ b) A c l) (hg : w.grownBy w' (some b)) : SliceAt r w' (fun k => k < w'.heap.size ∧ k ≠ b) A c l :=
  h.keep (fun _ hk => ⟨Nat.lt_of_lt_of_le hk.1 hg.size, hk.2⟩) fun k hk => hg.block k hk.1 fun e => hk.2 (Option.some.inj e)
theorem Ext.grownNew {a b c : World} (h : Ext a b) {g : Nat} (hg : a.heap.size ≤ g) (k : b.grownBy c (some g)) : Ext a c := Below.grown h k h.size fun _ hk => by cases hk; exact hg

end Go.Proofs.YtclhbcicbnoohaaGreatDoor

/- slices.Insert of one file: the road on which the row grows. -/
namespace Go.Proofs.YtclhbcicbnoohaaGreatDoor
open Go.RowKit

theorem zero_cells_size (k : Nat) : (Builtin.zeroCells (Value.agg #[.string ⟨#[]⟩, .string ⟨#[]⟩]).cells k).size = k * 2 := by simp [Builtin.zeroCells, Value.cells]
set_option maxRecDepth 100000 in
set_option maxHeartbeats 4000000 in
theorem Insert_grow (L : T.Tr) (g off cap : Nat) (cur : Array Value) (n i : Nat) (fp fd : ByteArray) (vb : Nat) (w : World) (base : Nat) (hn : n = L.length) (hi : i < n) (hl : n ≤ 100) (hO : Own1 w base g off cap cur n (fcells L)) (hroom : cap < n + 1) (hbase : base ≤ w.heap.size)
    (hv : w.heap[vb]? = some (.cells #[.string fp, .string fd] 25 (0, 0))) :
    Calls Tryz.prog 52 #[.slice (some ⟨g, off, none⟩) n cap, .int .i64 (i : Int), .slice (some ⟨vb, 0, none⟩) 1 1] w (RetIns w base (L.take i ++ (fp, fd) :: L.drop i)) := by
  obtain ⟨i0, hi0, hz0, hz1, hz2⟩ := info_parts file_info
  have hnc := hO.room
  have hgw : g < w.heap.size := (Array.getElem?_eq_some_iff.1 hO.row).1
  have hvw : vb < w.heap.size := (Array.getElem?_eq_some_iff.1 hv).1
  obtain ⟨B, hB⟩ : ∃ B, B = w.heap.size := ⟨_, rfl⟩
  have hold : (Builtin.firstCells i0.size i (.slice (some ⟨g, off, none⟩) i cap)).run Tryz.prog w.drew = .ok (fcells (L.take i)).toArray w.drew := by
    rw [hz1]
    refine run_firstCells_some w.drew 2 i ⟨g, off, none⟩ i cap (fcells (L.take i)) (by rw [fcells_len, List.length_take]; omega) fun j v hj => ?_
    rw [Addr.add_lit]
    refine hO.drew.cell ?_
    have e : fcells L = fcells (L.take i) ++ fcells (L.drop i) := by rw [← fcells_append, List.take_append_drop]
    have hlt : j < (fcells (L.take i)).length := by
      rcases Nat.lt_or_ge j (fcells (L.take i)).length with h' | h'
      · exact h'
      · rw [List.getElem?_eq_none h'] at hj; cases hj
    rw [e, List.getElem?_append_left hlt]
    exact hj
  obtain ⟨G, hG⟩ : ∃ G, G = grownCap w (n + 1) cap 25 := ⟨_, rfl⟩
  have hGn : n + 1 ≤ G := by rw [hG]; exact grownCap_ge w _ _ _
  have hG63 : G ≤ 9223372036854775807 := by
    have := grownCap_le_maxLen w (n + 1) cap 25 (by unfold maxLen; omega)
    rw [← hG] at this
    unfold maxLen at this
    omega
  obtain ⟨ROW, hROW⟩ : ∃ ROW : Array Value, ROW = (fcells (L.take i)).toArray ++ Builtin.zeroCells (Value.agg #[.string ⟨#[]⟩, .string ⟨#[]⟩]).cells (n + 1 - i) ++ Builtin.zeroCells (Value.agg #[.string ⟨#[]⟩, .string ⟨#[]⟩]).cells (G - (n + 1)) := ⟨_, rfl⟩
  have hRs : ROW.size = G * 2 := by
    rw [hROW, Array.size_append, Array.size_append, zero_cells_size, zero_cells_size, List.size_toArray, fcells_len, List.length_take]
    omega
  obtain ⟨W1, hW1⟩ : ∃ W1, W1 = w.drew.alloc (.cells ROW 25) := ⟨_, rfl⟩
  have hrz : ∀ ty, (Builtin.append_ #[23, 3] ty #[.slice (some ⟨g, off, none⟩) i cap, .int .i64 ((n : Int) + 1 - (i : Int))]).run Tryz.prog w = .ok (.slice (some ⟨B, 0, none⟩) (n + 1) G) W1 := fun ty => by
    have h := Lib.run_append_grow_zeros (P := Tryz.prog) w 23 3 ty 25 i0 _ .i64 .i64 Tryz.underlying23 Tryz.underlying3 hi0 hz0 (some ⟨g, off, none⟩) i cap (fcells (L.take i)) hold (n + 1 - i) (by omega) (by omega) (by omega) (by omega) (by rw [hz2]; omega) (by rw [hz2]; exact growslice_fits (by omega) (by omega))
    rw [show i + (n + 1 - i) = n + 1 by omega, ← hG, ← hROW, ← hW1, ← hB, show ((n + 1 - i : Nat) : Int) = (n : Int) + 1 - (i : Int) by omega] at h
    exact h
  have hrow : W1.heap[B]? = some (.cells ROW 25 (0, 0)) := by rw [hW1, hB]; exact heap_alloc_new w.drew _
  have hO1 : Own1 W1 base B 0 G ROW (n + 1) ((ROW.toList.drop 0).take ((n + 1) * 2)) :=
    ⟨by rw [List.length_take, List.length_drop, Array.length_toList]; omega, by omega, hrow, hGn, hG63, by omega, fun j hj => by rw [List.getElem?_take_of_lt hj, List.getElem?_drop, Array.getElem?_toList]⟩
  have hE1 : Ext w W1 := by rw [hW1]; exact (Ext.refl w).drew.alloc _
  -- the worlds behind the two copies
  obtain ⟨W2, hW2⟩ : ∃ W2, W2 = W1.setCells B (0 + i * 2) (fcells [(fp, fd)]) := ⟨_, rfl⟩
  obtain ⟨zs2, hO2⟩ := hO1.writeRaw (i * 2) (fcells [(fp, fd)])
  rw [← hW2] at hO2
  have hE2 : Ext w W2 := by rw [hW2]; exact hE1.grownNew (by omega) (grownBy_setCells B _ _ W1)
  have hdl : (fcells (L.drop i)).length = (n - i) * 2 := by rw [fcells_len, List.length_drop, ← hn]
  have hcp1 : ∀ (ty : TypeId) dc, (Builtin.copy_ #[23, 22] ty #[.slice (some ⟨B, i * 2, none⟩) (n + 1 - i) dc, .slice (some ⟨vb, 0, none⟩) 1 1]).run Tryz.prog W1 = .ok (goInt ((1 : Nat) : Int)) W2 := fun ty dc => by
    have hm1 : Nat.min 1 (n + 1 - i) = 1 := by simp only [Nat.min_def]; split <;> omega
    suffices hfin : (Builtin.copy_ #[23, 22] ty #[.slice (some ⟨B, i * 2, none⟩) (n + 1 - i) dc, .slice (some ⟨vb, 0, none⟩) 1 1]).run Tryz.prog W1 = .ok (goInt ((Nat.min 1 (n + 1 - i) : Nat) : Int)) (W1.setCells B (i * 2) (fcells [(fp, fd)])) by
      rw [hW2, Nat.zero_add]
      rwa [hm1] at hfin
    refine run_copy_files W1 22 ty B (i * 2) (n + 1 - i) dc ⟨vb, 0, none⟩ 1 1 (fcells [(fp, fd)]) ?_ (fun j v hj => ?_) (fun j hj => ?_) (fun j hj => hO1.free _) (fcells_one _)
    · rw [hm1]; rfl
    · rw [Addr.add_lit, Nat.zero_add, cell_of_row W1 vb _ _ 25 (0, 0) ((hE1.block vb hvw).trans hv), ← hj]
      simp [fcells]
    · rw [fcells_len] at hj
      simp only [List.length_cons, List.length_nil] at hj
      have := hO1.there (j := i * 2 + j) (by omega)
      rwa [Nat.zero_add] at this
  have hcp2 : ∀ (ty : TypeId) dc sc, (Builtin.copy_ #[23, 23] ty #[.slice (some ⟨B, (i + 1) * 2, none⟩) (n - i) dc, .slice (some ⟨g, off + i * 2, none⟩) (n - i) sc]).run Tryz.prog W2.drew = .ok (goInt ((n - i : Nat) : Int)) (W2.drew.setCells B ((i + 1) * 2) (fcells (L.drop i))) := fun ty dc sc => by
    have hm1 : Nat.min (n - i) (n - i) = n - i := Nat.min_self _
    suffices hfin : (Builtin.copy_ #[23, 23] ty #[.slice (some ⟨B, (i + 1) * 2, none⟩) (n - i) dc, .slice (some ⟨g, off + i * 2, none⟩) (n - i) sc]).run Tryz.prog W2.drew = .ok (goInt ((Nat.min (n - i) (n - i) : Nat) : Int)) (W2.drew.setCells B ((i + 1) * 2) (fcells (L.drop i))) by
      rwa [hm1] at hfin
    refine run_copy_files W2.drew 23 ty B ((i + 1) * 2) (n - i) dc ⟨g, off + i * 2, none⟩ (n - i) sc (fcells (L.drop i)) ?_ (fun j v hj => ?_) (fun j hj => ?_) (fun j hj => hO2.drew.free _) (fcells_one _)
    · rw [hdl, hm1]
    · rw [Addr.add_lit, Nat.add_assoc]
      refine (show W2.drew.cell? _ = _ from (hE2.cell (p := ⟨g, off + (i * 2 + j), none⟩) hgw)).trans ?_
      refine hO.cell ?_
      rw [← drop_cells hn (by omega)]
      exact hj
    · rw [hdl] at hj
      have := hO2.drew.there (j := (i + 1) * 2 + j) (by omega)
      rwa [Nat.zero_add] at this
  have HO : Hid (OwnFiles (W2.drew.setCells B ((i + 1) * 2) (fcells (L.drop i))) base (.slice (some ⟨B, 0, none⟩) (n + 1) G) (L.take i ++ (fp, fd) :: L.drop i)) := by
    unfold Hid OwnFiles
    have hl' : (L.take i ++ (fp, fd) :: L.drop i).length = n + 1 := by rw [List.length_append, List.length_take, List.length_cons, List.length_drop]; omega
    rw [hl', show B = B from rfl]
    have h3 := hO2.drew.write ((i + 1) * 2) (fcells (L.drop i)) (by rw [hdl]; omega) (n + 1) hGn (fcells (L.take i ++ (fp, fd) :: L.drop i)) (ins_len hn (by omega)) (fun j hj hjo => ?_) (fun j hj h1 h2 => ?_) (fun j hj h => ?_)
    · rw [Nat.zero_add] at h3; exact h3.own
    · rw [Nat.zero_add]
      rcases Nat.lt_or_ge j (i * 2) with h1 | h1
      · rw [setArr_lt _ _ _ _ (by omega), ins_lo hn (by omega) h1, hROW, Array.append_assoc, Array.getElem?_append_left (by rw [List.size_toArray, fcells_len, List.length_take]; omega)]
        have e : fcells L = fcells (L.take i) ++ fcells (L.drop i) := by rw [← fcells_append, List.take_append_drop]
        rw [e, List.getElem?_append_left (by rw [fcells_len, List.length_take]; omega)]
        simp
      · have h5 : j - i * 2 < (fcells [(fp, fd)]).length := by rw [fcells_len]; simp; omega
        have h6 := setArr_in (fcells [(fp, fd)]) ROW (i * 2) (j - i * 2) h5 (by rw [fcells_len, hRs]; simp; omega)
        rw [show i * 2 + (j - i * 2) = j by omega] at h6
        rw [ins_at hn (by omega) h1 (by omega), Nat.zero_add, h6]
    · exact ins_hi hn (by omega) h1
    · rw [hdl] at h; omega
  have HB : Hid (Below base w (W2.drew.setCells B ((i + 1) * 2) (fcells (L.drop i)))) := by
    have h1 : Ext w W2.drew := hE2.drew
    have h2 : Ext w (W2.drew.setCells B ((i + 1) * 2) (fcells (L.drop i))) := h1.grownNew (by omega) (grownBy_setCells B _ _ W2.drew)
    exact Below.mono h2 hbase
  have HRZ := Lib.hid hrz
  have HC1 := Lib.hid hcp1
  have HC2 := Lib.hid hcp2
  have HN := Lib.hid hn
  clear hO hO1 hO2 hdl hW1 hW2 hv hcp1 hcp2 hn hrz hold hrow hROW hRs hE1 hE2 hG hB hgw hvw
  have hGi : ¬ G = i := by omega
  have hGi1 : ¬ G = i + 1 := by omega
  have hcapi : ¬ cap = i := by omega
  have hcap : cap = n := by omega
  have hne : ((i : Int) == (n : Int)) = false := by simp; omega
  have hw1 : IntKind.i64.wrap ((i : Int) + 1) = (i : Int) + 1 := by rw [IntKind.wrap_i64]; omega
  have ht1 : ((i : Int) + 1).toNat = i + 1 := by omega
  have hin : i ≤ n := by omega
  have hc1 : ∀ W : World, (Instr.slice 23 (.slice (some ⟨B, 0, none⟩) (n + 1) G) (some (.int .i64 ((i : Int) + 1))) none none).run Tryz.prog W = .ok (.slice (some ⟨B, (i + 1) * 2, none⟩) (n - i) (G - (i + 1))) W := fun W => by
    have := run_cut (W := W) (g := B) (off := 0) (n := n + 1) (cap := G) (i + 1) (by omega) hGi1
    rwa [show n + 1 - (i + 1) = n - i by omega, Nat.zero_add] at this
  have hc2 : ∀ W : World, (Instr.slice 23 (.slice (some ⟨B, 0, none⟩) (n + 1) G) (some (.int .i64 (i : Int))) none none).run Tryz.prog W = .ok (.slice (some ⟨B, i * 2, none⟩) (n + 1 - i) (G - i)) W := fun W => by
    have := run_cut (W := W) (g := B) (off := 0) (n := n + 1) (cap := G) i (by omega) hGi
    rwa [Nat.zero_add] at this
  have hc3 : ∀ W : World, (Instr.slice 23 (.slice (some ⟨g, off, none⟩) n cap) (some (.int .i64 (i : Int))) none none).run Tryz.prog W = .ok (.slice (some ⟨g, off + i * 2, none⟩) (n - i) (cap - i)) W := fun W => run_cut i (by omega) hcapi
  have hHC := Lib.hid hcap
  clear hcap
  go_enter Tryz.func52, Tryz.ntmps52
  go_wp2_with (first | (at_builtin; refine Lib.wpList_append_run _ rfl (.tmp 34) (.tmp 39) 23 3 rfl _ _ rfl rfl _ _ (HRZ.out _) ?_) | (refine wpList_copy_at _ rfl (.tmp 43) (.tmp 44) 23 22 rfl _ _ rfl rfl (HC1.out _ _) ?_))
  obtain ⟨Φ, hΦ⟩ : ∃ Φ : World → Prop, ∀ x, Φ x := ⟨fun _ => True, fun _ => trivial⟩
  have h0 : Φ W2.drew := hΦ _
  have hne' := Lat.some h0
  have HΦ := Lib.hid hΦ
  clear hΦ
  go_simp
  refine wp_region_lat [8] Φ h0 (by kernel_rfl) (by kernel_rfl) (by kernel_rfl) ?_
  iterate 8 (refine lex_pure rfl rfl rfl ?_; intro K hK; go_big_quiet_op; go_big_quiet_on)
  refine lex_eff rfl ?_
  refine wpList_copy_at _ rfl (.tmp 50) (.tmp 53) 23 23 rfl _ _ rfl rfl (HC2.out _ _ _) ?_
  go_wp2_with fail
  refine ⟨⟨⟨_, HΦ.out _⟩, rfl⟩, ?_⟩
  refine lex_nil ?_
  clear hne' h0
  go_wp2_with fail
  go_ret
  exact ⟨_, rfl, HO.out, HB.out⟩
end Go.Proofs.YtclhbcicbnoohaaGreatDoor
