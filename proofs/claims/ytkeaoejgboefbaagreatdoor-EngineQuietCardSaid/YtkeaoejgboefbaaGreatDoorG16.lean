/- The texts Kl Itr Kn Slc LexF of the seat, joined. -/
import Derived.Test.YtkeaoejgboefbaaGreatDoorG15
import Derived.Shelf.SlIter.Nil
import Derived.Shelf.SortM.Plain
import Derived.Shelf.SortM.SortNone
import Derived.Ground.GgzProg
import Derived.Ground.SlgmProg
/- An engine and its model, from a world on: their calls. -/
namespace Go.Proofs.YtkeaoejgboefbaaGreatDoor
open Go.RowKit Go.Maps

/-- Both have come since w0 and lie in blocks D; behind m acts. -/
def Both1 (w0 w : World) (D : Nat → Prop) (g : Nat) (cs : List E.Cell) (m : Nat) (e : E.En) : Prop := Gl w0 ∧ Ext w0 w ∧ Fit cs m e ∧ BothAt w w0.heap.size D g e
section
variable {w0 w w' : World} {D : Nat → Prop} {g m : Nat} {cs : List E.Cell} {e : E.En}
theorem Both1.ext (h : Both1 w0 w D g cs m e) (hx : Ext w w') : Both1 w0 w' D g cs m e := ⟨h.1, h.2.1.trans hx, h.2.2.1, h.2.2.2.ext hx⟩
theorem Both1.ahead (h : Both1 w0 w D g cs m e) : Ext w0 w := h.2.1
theorem Both1.fit (h : Both1 w0 w D g cs m e) : Fit cs m e := h.2.2.1
theorem Both1.dom (h : Both1 w0 w D g cs m e) : ∀ k, D k → w0.heap.size ≤ k ∧ k < w.heap.size := h.2.2.2.dom
/-- What an act of both answers: the blocks that turn are theirs. -/
theorem Both1.act (h : Both1 w0 w D g cs m e) (hm : m ≤ 1000000) {a : ActE} (h1 : (Lit.int .u8 a.1).wf = true) (h2 : (Lit.int .u8 a.2.1).wf = true) (h3 : a.2.2.size ≤ 9223372036854775807) :
    Calls Tryz.prog 11 #[.pointer (some ⟨g, 0, none⟩), .agg #[.int .u8 a.1, .int .u8 a.2.1, .string a.2.2]] w fun ed w' => ed = .returned (.bool true) ∧ Tch D w w' ∧ ∃ D', Both1 w0 w' D' g cs (m + 1) (actE e a) ∧ ∀ k, D' k → D k ∨ w.heap.size ≤ k := by
  obtain ⟨hg, hx, hf, S, S2, ge, bc, bi, br, p, ft, hb⟩ := h
  obtain ⟨k, c, v⟩ := a
  have b1 : 0 ≤ k ∧ k ≤ 255 := bounds_u8 h1
  have b2 : 0 ≤ c ∧ c ≤ 255 := bounds_u8 h2
  clear h1 h2
  obtain ⟨c', rfl⟩ : ∃ c' : Nat, c = c' := ⟨c.toNat, by omega⟩
  refine (act_row hb (hg.ext hx) hx.size (fun k hk => hg.lt hk) hf hm (by omega) b1.1 h3).mono ?_
  rintro ed w' ⟨e1, e2, D', e3, e4⟩
  exact ⟨e1, e2, D', ⟨hg, hx.wrote e2 fun k hk => (hb.dom k hk).1, hf.act _, e3⟩, e4⟩
/-- What start answers. -/
theorem Both1.start {A : Option Addr} {kc n : Nat} (hg : Gl w) (hA : SliceAt cellR w (Old w) A kc cs) (hn : n = cs.length) (harg : ∀ c ∈ cs, c.2.2.1.length ≤ 1000) (hl : n ≤ 1000000) :
    Calls Tryz.prog 10 #[.slice A n kc] w fun ed w' => Ext w w' ∧ ((E.newErr cs ≠ 0 ∧ ed = .returned (.tuple #[.pointer none, .bool true])) ∨ (E.newErr cs = 0 ∧ ∃ g D, ed = .returned (.tuple #[.pointer (some ⟨g, 0, none⟩), .bool true]) ∧ Both1 w w' D g cs 0 (E.fresh cs))) := by
  refine (start_any hA hn harg hl).mono ?_
  rintro ed w' ⟨hx, h⟩
  refine ⟨hx, h.imp_right fun ⟨h0, g, D, h1, h2⟩ => ⟨h0, g, D, h1, hg, hx, fit_fresh h0, h2⟩⟩
end
end Go.Proofs.YtkeaoejgboefbaaGreatDoor

/- The sorted keys of a map of strings: contracts of the library, laid at this program by the shelf. No conditions. -/
namespace Go.Proofs
open Go.Shelf
def Tryz.keys34_ren : Go.Shelf.Ren := ⟨fun | 7 => 34 | 10 => 50 | n => n, fun | 23 => 75 | 26 => 9 | 3 => 9 | 28 => 73 | 0 => 0 | 27 => 72 | 33 => 99 | 4 => 4 | n => n, fun | n => n⟩
theorem Tryz.keys34 : Go.Proofs.SlLaysZ.n7 Tryz.prog Tryz.keys34_ren := {
  mixed := by kernel_rfl
  f7 := ⟨Tryz.f34.name, by decide, Tryz.func34.trans (congrArg some (by kernel_rfl))⟩
  f10 := ⟨Tryz.f50.name, by decide, Tryz.func50.trans (congrArg some (by kernel_rfl))⟩
  t0 := Tryz.underlying0
  a0 := Tryz.isAgg0
  z0 := Tryz.sizeOf0
  v0 := Tryz.zeroValue0
  t4 := Tryz.underlying4
  a4 := Tryz.isAgg4
  z4 := Tryz.sizeOf4
  v4 := Tryz.zeroValue4
  t23 := Tryz.underlying75
  a23 := Tryz.isAgg75
  z23 := Tryz.sizeOf75
  v23 := Tryz.zeroValue75
  t26 := Tryz.underlying9
  a26 := Tryz.isAgg9
  z26 := Tryz.sizeOf9
  v26 := Tryz.zeroValue9
  t27 := Tryz.underlying72
  a27 := Tryz.isAgg72
  z27 := Tryz.sizeOf72
  v27 := Tryz.zeroValue72
  t28 := Tryz.underlying73
  a28 := Tryz.isAgg73
  z28 := Tryz.sizeOf73
  v28 := Tryz.zeroValue73
  t33 := Tryz.underlying99
  a33 := Tryz.isAgg99
  z33 := Tryz.sizeOf99
  v33 := Tryz.zeroValue99 }
def Tryz.sorted33_ren : Go.Shelf.Ren := ⟨fun | 6 => 33 | 8 => 48 | 9 => 49 | 11 => 59 | 13 => 61 | 12 => 60 | 23 => 78 | 24 => 79 | 14 => 69 | 15 => 70 | 16 => 71 | 17 => 72 | 18 => 73 | 19 => 74 | 20 => 75 | 21 => 76 | 22 => 77 | 25 => 85 | 26 => 86 | 27 => 87 | 28 => 88 | 29 => 89 | 30 => 90 | 31 => 102 | n => n, fun | 26 => 9 | 28 => 73 | 24 => 48 | 0 => 0 | 3 => 3 | 37 => 127 | 48 => 142 | 50 => 144 | 4 => 4 | 40 => 135 | 39 => 134 | 45 => 114 | 5 => 5 | 9 => 9 | 51 => 149 | 55 => 153 | 57 => 167 | 58 => 115 | 33 => 99 | n => n, fun | n => n⟩
theorem Tryz.sorted33 : Go.Proofs.SlLaysZ.n6 Tryz.prog Tryz.sorted33_ren := {
  mixed := by kernel_rfl
  f6 := ⟨Tryz.f33.name, by decide, Tryz.func33.trans (congrArg some (by kernel_rfl))⟩
  f8 := ⟨Tryz.f48.name, by decide, Tryz.func48.trans (congrArg some (by kernel_rfl))⟩
  f11 := ⟨Tryz.f59.name, by decide, Tryz.func59.trans (congrArg some (by kernel_rfl))⟩
  t0 := Tryz.underlying0
  a0 := Tryz.isAgg0
  z0 := Tryz.sizeOf0
  v0 := Tryz.zeroValue0
  t24 := Tryz.underlying48
  a24 := Tryz.isAgg48
  z24 := Tryz.sizeOf48
  v24 := Tryz.zeroValue48
  t26 := Tryz.underlying9
  a26 := Tryz.isAgg9
  z26 := Tryz.sizeOf9
  v26 := Tryz.zeroValue9
  t28 := Tryz.underlying73
  a28 := Tryz.isAgg73
  z28 := Tryz.sizeOf73
  v28 := Tryz.zeroValue73
  i26 := by kernel_rfl }
def Tryz.sort49_ren : Go.Shelf.Ren := ⟨fun | 6 => 49 | 8 => 61 | 9 => 60 | 19 => 78 | 20 => 79 | 21 => 69 | 22 => 70 | 23 => 71 | 24 => 72 | 25 => 73 | 26 => 74 | 27 => 75 | 28 => 76 | 29 => 77 | 36 => 85 | 31 => 86 | 32 => 87 | 37 => 88 | 38 => 89 | 39 => 90 | 41 => 102 | n => n, fun | 27 => 48 | 29 => 9 | 3 => 3 | 32 => 127 | 26 => 48 | 0 => 0 | 44 => 142 | 46 => 144 | 4 => 4 | 36 => 135 | 35 => 134 | 41 => 114 | 5 => 5 | 9 => 9 | 53 => 149 | 57 => 153 | 63 => 167 | 64 => 115 | n => n, fun | n => n⟩
theorem Tryz.sort49 : Go.Proofs.SlLaysM.n6 Tryz.prog Tryz.sort49_ren := {
  mixed := by kernel_rfl
  f6 := ⟨Tryz.f49.name, by decide, Tryz.func49.trans (congrArg some (by kernel_rfl))⟩
  f8 := Tryz.func61.trans (congrArg some (by kernel_rfl))
  f9 := ⟨Tryz.f60.name, by decide, Tryz.func60.trans (congrArg some (by kernel_rfl))⟩
  f19 := Tryz.func78.trans (congrArg some (by kernel_rfl))
  f20 := Tryz.func79.trans (congrArg some (by kernel_rfl))
  f21 := ⟨Tryz.f69.name, by decide, Tryz.func69.trans (congrArg some (by kernel_rfl))⟩
  f22 := ⟨Tryz.f70.name, by decide, Tryz.func70.trans (congrArg some (by kernel_rfl))⟩
  f23 := ⟨Tryz.f71.name, by decide, Tryz.func71.trans (congrArg some (by kernel_rfl))⟩
  f24 := ⟨Tryz.f72.name, by decide, Tryz.func72.trans (congrArg some (by kernel_rfl))⟩
  f25 := ⟨Tryz.f73.name, by decide, Tryz.func73.trans (congrArg some (by kernel_rfl))⟩
  f26 := ⟨Tryz.f74.name, by decide, Tryz.func74.trans (congrArg some (by kernel_rfl))⟩
  f27 := ⟨Tryz.f75.name, by decide, Tryz.func75.trans (congrArg some (by kernel_rfl))⟩
  f28 := ⟨Tryz.f76.name, by decide, Tryz.func76.trans (congrArg some (by kernel_rfl))⟩
  f29 := ⟨Tryz.f77.name, by decide, Tryz.func77.trans (congrArg some (by kernel_rfl))⟩
  f31 := Tryz.func86.trans (congrArg some (by kernel_rfl))
  f32 := Tryz.func87.trans (congrArg some (by kernel_rfl))
  f36 := ⟨Tryz.f85.name, by decide, Tryz.func85.trans (congrArg some (by kernel_rfl))⟩
  f37 := ⟨Tryz.f88.name, by decide, Tryz.func88.trans (congrArg some (by kernel_rfl))⟩
  f38 := ⟨Tryz.f89.name, by decide, Tryz.func89.trans (congrArg some (by kernel_rfl))⟩
  f39 := ⟨Tryz.f90.name, by decide, Tryz.func90.trans (congrArg some (by kernel_rfl))⟩
  f41 := ⟨Tryz.f102.name, by decide, Tryz.func102.trans (congrArg some (by kernel_rfl))⟩
  t0 := Tryz.underlying0
  a0 := Tryz.isAgg0
  z0 := Tryz.sizeOf0
  v0 := Tryz.zeroValue0
  t3 := Tryz.underlying3
  a3 := Tryz.isAgg3
  z3 := Tryz.sizeOf3
  v3 := Tryz.zeroValue3
  t4 := Tryz.underlying4
  a4 := Tryz.isAgg4
  z4 := Tryz.sizeOf4
  v4 := Tryz.zeroValue4
  t5 := Tryz.underlying5
  a5 := Tryz.isAgg5
  z5 := Tryz.sizeOf5
  v5 := Tryz.zeroValue5
  t9 := Tryz.underlying9
  a9 := Tryz.isAgg9
  z9 := Tryz.sizeOf9
  v9 := Tryz.zeroValue9
  t26 := Tryz.underlying48
  a26 := Tryz.isAgg48
  z26 := Tryz.sizeOf48
  v26 := Tryz.zeroValue48
  t27 := Tryz.underlying48
  a27 := Tryz.isAgg48
  z27 := Tryz.sizeOf48
  v27 := Tryz.zeroValue48
  t29 := Tryz.underlying9
  a29 := Tryz.isAgg9
  z29 := Tryz.sizeOf9
  v29 := Tryz.zeroValue9
  t32 := Tryz.underlying127
  a32 := Tryz.isAgg127
  z32 := Tryz.sizeOf127
  v32 := Tryz.zeroValue127
  t35 := Tryz.underlying134
  a35 := Tryz.isAgg134
  z35 := Tryz.sizeOf134
  v35 := Tryz.zeroValue134
  t36 := Tryz.underlying135
  a36 := Tryz.isAgg135
  z36 := Tryz.sizeOf135
  v36 := Tryz.zeroValue135
  t41 := Tryz.underlying114
  a41 := Tryz.isAgg114
  z41 := Tryz.sizeOf114
  v41 := Tryz.zeroValue114
  t44 := Tryz.underlying142
  a44 := Tryz.isAgg142
  z44 := Tryz.sizeOf142
  v44 := Tryz.zeroValue142
  t46 := Tryz.underlying144
  a46 := Tryz.isAgg144
  z46 := Tryz.sizeOf144
  v46 := Tryz.zeroValue144
  t53 := Tryz.underlying149
  a53 := Tryz.isAgg149
  z53 := Tryz.sizeOf149
  v53 := Tryz.zeroValue149
  t57 := Tryz.underlying153
  a57 := Tryz.isAgg153
  z57 := Tryz.sizeOf153
  v57 := Tryz.zeroValue153
  t63 := Tryz.underlying167
  a63 := Tryz.isAgg167
  z63 := Tryz.sizeOf167
  v63 := Tryz.zeroValue167
  t64 := Tryz.underlying115
  a64 := Tryz.isAgg115
  z64 := Tryz.sizeOf115
  v64 := Tryz.zeroValue115 }
open Go.RowKit Go.Maps Go.Sort
theorem Tryz.sorts33 (m : Nat) : AnyZ.SortsIn Tryz.prog Tryz.sorted33_ren Fence.wide m :=
  ⟨fun blk off cap ss W hH hblk hsz => callsIn_wide.2 (AnyM.slices_Sort_string Tryz.sort49 blk off cap ss W hH hblk hsz),
   fun p cap W => callsIn_wide.2 (AnyM.slices_Sort_string_none Tryz.sort49 p cap W)⟩
theorem Tryz.maps_Keys_34 (mb : Option Nat) (W : World) : CallsIn Fence.wide 5 Tryz.prog 34 #[.map mb] W fun e w' => e = .returned (.func (.func 50) #[] #[.pointer (some ⟨W.heap.size, 0, none⟩)]) ∧ w' = W.alloc (.cells #[.map mb] 75) :=
  AnyZ.keys_in Tryz.keys34 Fence.wide 5 trivial rfl mb W
set_option maxHeartbeats 1000000 in
theorem Tryz.slices_Sorted_keys_33_34 {H : Type} (b nn : Nat) (D0 : DataW H) (R : Value → Option (DataW H × List MemPlace)) (w : World) (hown : w.ownsMap Tryz.prog 9 R b nn D0) (hmax : Maps.size D0 ≤ maxLen) (hbytes : Maps.size D0 * 16 ≤ 140737488355328) :
    CallsIn Fence.wide 5 Tryz.prog 33 #[.func (.func 50) #[] #[.pointer (some ⟨w.heap.size, 0, none⟩)]] (w.alloc (.cells #[.map (some b)] 75)) fun e w' => ∃ (v : Value) (ss : List (List UInt8)), e = .returned v ∧ ss.Perm (strKeys D0) ∧
      w'.ownsRow (w.alloc (.cells #[.map (some b)] 75)).heap.size 9 1 v ss.length ((ss.mergeSort (fun x y => decide (x ≤ y))).map encStr) ∧ (v = .slice none 0 0 ↔ ss = []) ∧ Below (w.alloc (.cells #[.map (some b)] 75)).heap.size (w.alloc (.cells #[.map (some b)] 75)) w' := by
  have hbl := hown.lt
  have hseq : SeqGives Fence.wide 2 Tryz.prog 50 #[.pointer (some ⟨w.heap.size, 0, none⟩)] encStr (fun ss => ss.Perm (strKeys D0)) (Maps.size D0) (w.alloc (.cells #[.map (some b)] 75)) :=
    AnyZ.keys_gives (ρ := Tryz.keys34_ren) { Tryz.keys34 with } Fence.wide _ trivial rfl (by omega) w.heap.size b nn D0 _ (by simp) (by simp) (by
      obtain ⟨es, clock, hb, Ft, hs, hD⟩ := hown
      exact ⟨es, clock, (Below.heap_alloc _ _ b hbl).trans hb, Ft, hs, hD⟩)
  exact AnyZ.sorted_in Tryz.sorted33 Fence.wide 5 trivial trivial trivial trivial rfl (by omega) (Tryz.sorts33 _) (enters_of Tryz.func49 (by kernel_rfl) rfl) 50 #[.pointer (some ⟨w.heap.size, 0, none⟩)] trivial (enters_of Tryz.func50 (by kernel_rfl) rfl) _ _ hmax hbytes _ hseq
end Go.Proofs
namespace Go.Proofs.YtkeaoejgboefbaaGreatDoor
open Go.RowKit Go.Maps Go.Sort
theorem Keys_any (b : Nat) (w : World) : Calls Tryz.prog 34 #[.map (some b)] w fun e w' => e = .returned (.func (.func 50) #[] #[.pointer (some ⟨w.heap.size, 0, none⟩)]) ∧ w' = w.alloc (.cells #[.map (some b)] 75) :=
  callsIn_wide.1 (Tryz.maps_Keys_34 (some b) w)
theorem Sorted_any {H : Type} (b nn : Nat) (D0 : DataW H) (R : Value → Option (DataW H × List MemPlace)) (w : World) (hown : w.ownsMap Tryz.prog 9 R b nn D0) (hmax : Maps.size D0 ≤ 1000) :
    Calls Tryz.prog 33 #[.func (.func 50) #[] #[.pointer (some ⟨w.heap.size, 0, none⟩)]] (w.alloc (.cells #[.map (some b)] 75)) fun e w' => ∃ (v : Value) (ss : List (List UInt8)), e = .returned v ∧ ss.Perm (strKeys D0) ∧
      OwnAt w' w.heap.size 9 1 v ss.length ((ss.mergeSort (fun x y => decide (x ≤ y))).map encStr) ∧ Ext w w' := by
  refine (callsIn_wide.1 (Tryz.slices_Sorted_keys_33_34 b nn D0 R w hown (by unfold maxLen; omega) (by omega))).mono ?_
  rintro e w' ⟨v, ss, rfl, hp, hr, _, hb⟩
  have hx : Ext w (w.alloc (.cells #[.map (some b)] 75)) := (Ext.refl w).alloc _
  exact ⟨v, ss, rfl, hp, (OwnAt.of_row hr).mono hx.size, hx.trans hb⟩
end Go.Proofs.YtkeaoejgboefbaaGreatDoor

/- Engine.Inputs. -/
namespace Go.Proofs.YtkeaoejgboefbaaGreatDoor
open Go.RowKit Go.Maps Go.Sort

theorem map_size {H : Type} {P : Program} {k : TypeId} {R : Value → Option (DataW H × List MemPlace)} {w : World} {b n : Nat} {D : DataW H} (h : w.ownsMap P k R b n D) : Maps.size D ≤ n := by
  obtain ⟨es, clock, _, _, hs, rfl⟩ := h
  have : Maps.size (DataW.map ((es.toList.map (WideElems.rg P k R)).foldr DataW.insert [])) = es.size := by
    show ((es.toList.map (WideElems.rg P k R)).foldr DataW.insert []).length = _
    rw [length_sorted]
    simp
  omega
theorem inputs_length (e : E.En) : (E.inputsE e).length ≤ e.cells.length := by
  have key : ∀ (cs : List E.Cell) (t : T.Tr), T.Srt t → (cs.foldl (E.inStep e.vals) t).length ≤ t.length + cs.length := by
    intro cs
    induction cs with
    | nil => intro t _; exact Nat.le_refl _
    | cons c cs ih =>
      intro t ht
      rw [List.foldl_cons, List.length_cons]
      have h1 := ih _ (E.srt_step e.vals ht c)
      have h2 : (E.inStep e.vals t c).length ≤ t.length + 1 := by
        unfold E.inStep
        split
        · exact Nat.le_succ _
        · rename_i s _
          rw [T.insT_length ht]
          split <;> omega
      omega
  have := key e.cells [] List.Pairwise.nil
  unfold E.inputsE
  simpa using this
theorem mk_toArray (x : ByteArray) : (⟨x.data.toList.toArray⟩ : ByteArray) = x := by cases x; simp
/-- The sorted keys are the inputs' names. -/
theorem keys_inputs {w : World} {b n : Nat} {R : Value → Option (DataW Value × List MemPlace)} {D : DataW Value} {e : E.En} {ss : List (List UInt8)} (hs : E.Sup e) (hown : w.ownsMap Tryz.prog 9 R b n D) (hh : ∀ x : ByteArray, Maps.has D (.string x.data.toList) = ((e.vals x).map Value.string).isSome) (hp : ss.Perm (strKeys D)) :
    ss.mergeSort (fun x y => decide (x ≤ y)) = (E.inputsE e).map T.pth := by
  have hsrt : ((E.inputsE e).map T.pth).Pairwise (· < ·) := by
    rw [List.pairwise_map]
    exact E.srt_inputs e
  have hnd : ((E.inputsE e).map T.pth).Nodup := List.Pairwise.imp (R := (· < ·)) (S := (· ≠ ·)) (fun {a b} hab (e : a = b) => by subst e; exact T.lt_irrefl _ hab) hsrt
  have hc : Collected D (fun _ => false) ((E.inputsE e).map T.pth) := ⟨hnd, fun x => by
    have h1 := hh (E.mk x)
    rw [E.mk_data] at h1
    rw [h1]
    constructor
    · intro hm
      obtain ⟨f, hf, hx⟩ := List.mem_map.1 hm
      have := (E.mem_inputs hs f).1 hf
      have e1 : E.mk x = f.1 := bytes_inj (by rw [E.mk_data]; exact hx.symm)
      rw [e1, this]
      simp
    · intro hm
      cases hv : e.vals (E.mk x) with
      | none => rw [hv] at hm; simp at hm
      | some s => exact List.mem_map.2 ⟨(E.mk x, s), (E.mem_inputs hs _).2 hv, E.mk_data x⟩⟩
  have h1 := hc.perm hown (string_keyed Tryz.underlying9) Tryz.underlying9 fun _ => rfl
  have h2 : ss.Perm ((E.inputsE e).map T.pth) := hp.trans h1.symm
  refine (mergeSort_of_perm h2).trans (List.mergeSort_of_pairwise (hsrt.imp fun h => decide_eq_true (T.le_of_lt h)))
set_option maxRecDepth 100000 in
set_option maxHeartbeats 4000000 in
theorem Inputs_any {w : World} {S : Nat → Prop} {g bc bi br m : Nat} {cs : List E.Cell} {e : E.En} (h : EngAt w S g bc bi br e) (hft : Fit cs m e) : Calls Tryz.prog 13 #[.pointer (some ⟨g, 0, none⟩)] w (RetT w (E.inputsE e)) := by
  have ho := hft.eok
  obtain ⟨D, hown, hhas, _⟩ := h.inputs.size Tryz.underlying9 ho.dom
  have hfew := ho.few
  have hsz : Maps.size D ≤ 1000 := by
    have := map_size hown
    unfold namesE at this
    rw [List.length_map] at this
    omega
  have HKE := Lib.hid (Keys_any bi w)
  have HSO := Lib.hid (Sorted_any bi _ D _ w hown hsz)
  have HKI := Lib.hid (fun (ss : List (List UInt8)) (hp : ss.Perm (strKeys D)) => keys_inputs (ss := ss) ho.vals hown hhas hp)
  have HEN := Lib.hid h
  have HVL := Lib.hid (fun f (hf : f ∈ E.inputsE e) => (E.mem_inputs ho.vals f).1 hf)
  have HSZ : Hid (SzF (E.inputsE e)) := Lib.hid fun f hf => by
    have h1 := (E.mem_inputs ho.vals f).1 hf
    obtain ⟨h2, h3⟩ := ho.vals _ _ h1
    refine ⟨?_, by omega⟩
    obtain ⟨c, hc, hce⟩ := List.mem_map.1 (input_name h2)
    rw [hft.cells] at hc
    have h4 := ((newErr_formed hft.right).2 c hc).2
    unfold E.nameB at h4
    simp only [Bool.and_eq_true, decide_eq_true_eq] at h4
    have hce : c.1 = f.1 := hce
    rw [← hce]
    omega
  have HLN := Lib.hid (inputs_length e)
  have a1 := h.row.c1
  clear h ho hown hhas hsz hft
  obtain ⟨L, hL⟩ : ∃ L, L = E.inputsE e := ⟨_, rfl⟩
  rw [← hL] at HKI HVL HSZ HLN ⊢
  clear hL
  go_enter Tryz.func13, Tryz.ntmps13
  go_wp2_with fail
  refine HKE.out.mono ?_
  rintro e1 w1 ⟨rfl, rfl⟩
  go_wp2_with fail
  refine HSO.out.mono ?_
  rintro e2 w2 ⟨v, ss, rfl, hperm, hown2, hx2⟩
  have hk := HKI.out ss hperm
  have hlen : ss.length = L.length := by rw [← List.length_mergeSort (le := fun x y => decide (x ≤ y)) ss, hk, List.length_map]
  have he : (L.map T.pth).map encStr = (L.map (·.1)).map Value.string := by
    rw [List.map_map, List.map_map]
    exact List.map_congr_left fun f _ => by show Value.string _ = _; unfold T.pth; rw [mk_toArray]; rfl
  rw [hk, he, hlen] at hown2
  obtain ⟨q, hq⟩ : ∃ q, q = L.length := ⟨_, rfl⟩
  rw [← hq] at hown2
  obtain ⟨A, k, rfl, hs⟩ := strs_slice hown2 (by rw [List.length_map]; exact hq) (fun s hs => by obtain ⟨f, hf, rfl⟩ := List.mem_map.1 hs; exact (HSZ.out f hf).1)
  have HS : Hid (SliceAt strR w2 (Old w2) A k (L.map (·.1))) := Lib.hid (hs.keep (fun k hk => hk.2) fun _ _ => rfl)
  have HQ := Lib.hid hq
  have HX2 := Lib.hid hx2
  have hqz : q ≤ 200 := by have := HLN.out; omega
  clear hown2 hs hk hlen he hperm hx2 hq HKE HSO HKI a1
  go_wp2_with fail
  go_loopw [3, 5, 13] (fun v _ i wr => ∃ (j : Nat), i = .int .i64 j ∧ j ≤ q ∧ Hid (OwnFiles wr w2.heap.size v (L.take j)) ∧ Hid (Ext w2 wr)) (fun _ _ i _ => q - (intOf i).toNat)
  case atStart => exact ⟨0, rfl, Nat.zero_le _, own_files_nil _ _, Ext.refl _⟩
  case round =>
    obtain ⟨j, rfl, hj, HO, HX⟩ := hrel
    by_cases hlt : j < q
    · have hjl : j < (L.map (·.1)).length := by rw [List.length_map]; have := HQ.out; omega
      have hjL : j < L.length := by have := HQ.out; omega
      obtain ⟨b, off, hAe, hbb, d0, hz⟩ := str_get (HS.out.ext HX.out) hjl
      subst hAe
      rw [List.getElem_map] at d0 hz
      have HTK : Hid (L.take (j + 1) = L.take j ++ [L[j]]) := Lib.hid (List.take_succ_eq_append_getElem hjL)
      have hv := HVL.out _ (List.getElem_mem hjL)
      have HER := Lib.hid (HEN.out.ext (HX2.out.trans HX.out))
      have a1 := HER.out.row.c1
      have hlk := HER.out.inputs.look1 Tryz.underlying9 Tryz.underlying75 (zv9 wr) hz
      generalize L[j] = f at *
      obtain ⟨fp, fd⟩ := f
      simp only at d0 hz hv
      replace hlk : (Instr.lookup 75 (.map (some bi)) (.string fp) false).run Tryz.prog wr = .ok (.string fd) wr := by rw [hlk, hv]; rfl
      obtain ⟨i0, hi, hz0, hz1, hz2⟩ := info_parts file_info
      have hbs : w2.heap.size ≤ wr.heap.size := HX.out.size
      have HJ : Hid (j = (L.take j).length) := Lib.hid (by rw [List.length_take]; have := HQ.out; omega)
      have HO2 : Hid (OwnAt wr w2.heap.size 57 2 u3 j (fcells (L.take j))) := Lib.hid (by have := HO.out; unfold OwnFiles at this; rw [← HJ.out] at this; exact this)
      clear hjl hv
      go_wp2_with (at_builtin; refine wpList_append_ownAt _ rfl (.tmp 17) (.tmp 26) 34 rfl w2.heap.size 57 i0 (.agg #[.string ⟨#[]⟩, .string ⟨#[]⟩]) 2 32 Tryz.underlying34 hi hz0 hz1 hz2 rfl (by decide) _ _ _ rfl (HO2.out.alloc _) ⟨_, 0, none⟩ 1 1 (fcells [(fp, fd)]) rfl rfl ?_ (fcells_one _) (by unfold maxLen; omega) (by omega) (by rw [size_alloc']; omega) (by decide) ?_)
      · exact cells_new_file wr fp fd
      · intro v' w4 hw hg _ hf
        have HO4 : Hid (OwnFiles w4 w2.heap.size v' (L.take (j + 1))) := Lib.hid (by rw [HTK.out]; exact own_files_snoc HJ.out hw)
        have HX4 : Hid (Ext w2 w4) := Lib.hid ((HX.out.alloc _).grown HO2.out hg)
        clear hw hg hf hi hz0 hz1 hz2 hlk
        go_wp2_with fail
        go_roundw
        case rel => exact ⟨j + 1, by go_num, by omega, HO4, HX4⟩
        case measure => simp [intOf]; omega
    · have hjn : j = q := by omega
      have htk : L.take j = L := List.take_of_length_le (by have := HQ.out; omega)
      rw [htk] at HO
      clear htk
      go_wp2_with fail
      go_ret
      exact ⟨_, rfl, OwnAt.mono HO.out HX2.out.size, HX2.out.trans HX.out⟩
end Go.Proofs.YtkeaoejgboefbaaGreatDoor

/- Slices of slices: one equation each, the new address opaque. For any program. -/
namespace Go.Proofs.YtkeaoejgboefbaaGreatDoor
open Go.RowKit

theorem SliceAt.cut {α : Type} {r : Rep α} {w : World} {S : Nat → Prop} {A : Option Addr} {c : Nat} {l : List α} (h : SliceAt r w S A c l) (i j : Nat) (hij : i ≤ j) (hj : j ≤ l.length) (A' : Option Addr)
    (hA : i < j → ∀ b off, A = some ⟨b, off, none⟩ → A' = some ⟨b, off + i * r.size, none⟩) : SliceAt r w S A' (c - i) ((l.drop i).take (j - i)) := by
  obtain ⟨h1, h2, h3⟩ := h
  have hlen : ((l.drop i).take (j - i)).length = j - i := by simp; omega
  refine ⟨by omega, by omega, fun hne => ?_⟩
  have hlt : i < j := by
    rcases Nat.lt_or_ge i j with h | h
    · exact h
    · exact absurd (List.eq_nil_of_length_eq_zero (by omega)) hne
  obtain ⟨b, off, hb, hS, hr⟩ := h3 (by intro h; rw [h] at hj; simp at hj; omega)
  refine ⟨b, off + i * r.size, hA hlt b off hb, hS, fun q hq => ?_⟩
  obtain ⟨us, g1, g2⟩ := hr (i + q) (by omega)
  refine ⟨us, by simpa using g1, fun p u hp => ?_⟩
  have := g2 p u hp
  rwa [show off + i * r.size + (q * r.size + p) = off + ((i + q) * r.size + p) by rw [Nat.add_mul]; omega]

theorem run_slice_from {P : Program} {α : Type} {r : Rep α} {w : World} {S : Nat → Prop} {A : Option Addr} {c n i : Nat} {l : List α} (t : TypeId) (ht : P.underlying t = some (.slice (P.elem t))) (hs : ∀ w', (sizeOf (P.elem t)).run P w' = .ok r.size w')
    (h : SliceAt r w S A c l) (hn : n = l.length) (hi : i ≤ n) :
    ∃ A', (∀ w', (Instr.slice t (.slice A n c) (some (.int .i64 (i : Int))) none none).run P w' = .ok (.slice A' (n - i) (c - i)) w') ∧ SliceAt r w S A' (c - i) (l.drop i) := by
  refine ⟨if c = i then A else A.map (·.add (i * r.size)), fun w' => ?_, ?_⟩
  · rw [run_slice_l w' t A n c ht .i64 i (by omega) (by omega), hs]
    simp [Result.andThen, sliced]
  · have hc := h.1
    have := h.cut i n hi (by omega) (if c = i then A else A.map (·.add (i * r.size))) (fun hlt b off hA => by
      rw [if_neg (by omega), hA]; simp [Addr.add_lit])
    rwa [List.take_of_length_le (by simp; omega)] at this
theorem run_slice_till {P : Program} {α : Type} {r : Rep α} {w : World} {S : Nat → Prop} {A : Option Addr} {c n i : Nat} {l : List α} (t : TypeId) (ht : P.underlying t = some (.slice (P.elem t))) (hs : ∀ w', (sizeOf (P.elem t)).run P w' = .ok r.size w')
    (h : SliceAt r w S A c l) (hn : n = l.length) (hi : i ≤ n) :
    ∃ A', (∀ w', (Instr.slice t (.slice A n c) none (some (.int .i64 (i : Int))) none).run P w' = .ok (.slice A' i c) w') ∧ SliceAt r w S A' c (l.take i) := by
  have hc := h.1
  refine ⟨if c = 0 then A else A.map (·.add (0 * r.size)), fun w' => ?_, ?_⟩
  · rw [run_slice_h w' t A n c ht .i64 i (by omega) (by omega), hs]
    simp [Result.andThen, sliced]
  · have := h.cut 0 i (by omega) (by omega) (if c = 0 then A else A.map (·.add (0 * r.size))) (fun hlt b off hA => by
      rw [if_neg (by omega), hA]; simp [Addr.add_lit])
    simpa using this
end Go.Proofs.YtkeaoejgboefbaaGreatDoor

/- A region that draws its order, with effects that may come in more than one order: a tree of orders, each walked once; what only reads has one value in all later worlds. For any program. -/
namespace Go.Proofs.YtkeaoejgboefbaaGreatDoor
open Go.RowKit

/-- The orders that are walked: operation k, then the rest; a fork: the next effect may be that of either. -/
inductive FT where
  | leaf
  | step (k : Nat) (t : FT)
  | fork (t u : FT)
def FT.path : List Nat → FT → FT
  | [], t => t
  | k :: l, t => .step k (FT.path l t)
def FT.firsts (E : List Nat) : FT → List Nat
  | .leaf => []
  | .step k t => if k ∈ E then [k] else t.firsts E
  | .fork t u => t.firsts E ++ u.firsts E
section
variable {P : Program} {ops : Array Oper} {md : Region.Mode} {C : World → Prop} {E : List Nat} {R : Act → World → Prop}

/-- Every effect that is still to come is one of fs, or waits for another one. -/
def Cover (md : Region.Mode) (ops : Array Oper) (E : List Nat) (listed : Array Bool) (fs : List Nat) : Prop :=
  ∀ e ∈ E, listed.getD e true = false → e ∈ fs ∨ ∃ f ∈ E, listed.getD f true = false ∧ e ∈ waiters md ops f ops.size
def FreeP (md : Region.Mode) (ops : Array Oper) (listed : Array Bool) (k : Nat) : Prop :=
  ∀ ok, ops[k]? = some ok → ∀ j oj, ops[j]? = some oj → j ≠ k → listed.getD j true = false → (∀ e ∈ oj.after, Region.binds md e = true → e.on ≠ k) → ok.apart ops oj = true
def okT (md : Region.Mode) (ops : Array Oper) (E : List Nat) : FT → Array Bool → Prop
  | .leaf, listed => Region.ready md ops listed = []
  | .step k t, listed => k ∈ Region.ready md ops listed ∧ FreeP md ops listed k ∧ (k ∈ E → Cover md ops E (listed.setIfInBounds k true) (t.firsts E)) ∧ okT md ops E t (listed.setIfInBounds k true)
  | .fork t u, listed => okT md ops E t listed ∧ okT md ops E u listed
def lenT : FT → Nat → Prop
  | .leaf, n => n = 0
  | .step _ t, n => ∃ m, n = m + 1 ∧ lenT t m
  | .fork t u, n => lenT t n ∧ lenT u n
def wpT (P : Program) (ops : Array Oper) (C : World → Prop) (E : List Nat) (R : Act → World → Prop) : FT → Act → World → Prop
  | .leaf, a, w => R a w
  | .step k t, a, w => xOp P ops C E k (wpT P ops C E R t) a w
  | .fork t u, a, w => wpT P ops C E R t a w ∧ wpT P ops C E R u a w
/-- Operation i, which only reads, is taken out. -/
def FT.pullP (i : Nat) : FT → FT
  | .leaf => .leaf
  | .step k t => if k = i then t else .step k (t.pullP i)
  | .fork t u => .fork (t.pullP i) (u.pullP i)
/-- Effect i is taken out of an order in which it is the first one. -/
def FT.pullE (E : List Nat) (i : Nat) : FT → FT
  | .leaf => .leaf
  | .step k t => if k = i then t else .step k (t.pullE E i)
  | .fork t u => if i ∈ t.firsts E then t.pullE E i else u.pullE E i

theorem getD_set_self {listed : Array Bool} {i : Nat} : (listed.setIfInBounds i true).getD i true = true := by
  rcases Nat.lt_or_ge i listed.size with h | h
  · simp [h]
  · simp
theorem Cover.congr {l1 l2 : Array Bool} {fs : List Nat} (h : Cover md ops E l1 fs) (he : ∀ e ∈ E, l2.getD e true = l1.getD e true) : Cover md ops E l2 fs := by
  intro e hm hu
  rcases h e hm (by rw [← he e hm]; exact hu) with h1 | ⟨f, hf, h2, h3⟩
  · exact .inl h1
  · exact .inr ⟨f, hf, by rw [he f hf]; exact h2, h3⟩
theorem set_off {listed : Array Bool} {i : Nat} (hi : i ∉ E) : ∀ e ∈ E, (listed.setIfInBounds i true).getD e true = listed.getD e true := fun _ he => getD_set_ne true fun h => hi (h ▸ he)
theorem FreeP.mono {listed : Array Bool} {i k : Nat} (h : FreeP md ops listed k) : FreeP md ops (listed.setIfInBounds i true) k := by
  intro ok hok j oj hoj hne hun hno
  refine h ok hok j oj hoj hne ?_ hno
  by_cases e : i = j
  · subst e; rw [getD_set_self] at hun; cases hun
  · rw [getD_set_ne true e] at hun; exact hun
theorem getD_false {listed : Array Bool} {i : Nat} (h : listed.getD i true = false) : listed.getD i false = false := by
  rcases Nat.lt_or_ge i listed.size with h' | h'
  · simp [h'] at h ⊢; exact h
  · simp [Array.getElem?_eq_none h'] at h
theorem firsts_pullP {i : Nat} (hi : i ∉ E) : ∀ t : FT, (t.pullP i).firsts E = t.firsts E
  | .leaf => rfl
  | .step k t => by
    unfold FT.pullP
    by_cases h : k = i
    · subst h
      rw [if_pos rfl]
      show t.firsts E = if k ∈ E then [k] else t.firsts E
      rw [if_neg hi]
    · rw [if_neg h]
      show (if k ∈ E then [k] else (t.pullP i).firsts E) = if k ∈ E then [k] else t.firsts E
      rw [firsts_pullP hi t]
  | .fork t u => by
    show (t.pullP i).firsts E ++ (u.pullP i).firsts E = _
    rw [firsts_pullP hi t, firsts_pullP hi u]
    rfl
/-- What is ready ahead of an order that starts otherwise is apart from its start. -/
theorem apart_of {listed : Array Bool} {i k : Nat} {ok oi : Oper} (hf : FreeP md ops listed k) (hk : k ∈ Region.ready md ops listed) (hok : ops[k]? = some ok) (hoi : ops[i]? = some oi) (hr : i ∈ Region.ready md ops listed) (hne : i ≠ k) : ok.apart ops oi = true := by
  obtain ⟨hun, oi', hoi', hall⟩ := mem_ready.1 hr
  obtain rfl : oi' = oi := Option.some.inj (hoi'.symm.trans hoi)
  have hku := getD_false (mem_ready.1 hk).1
  refine hf ok hok i oi' hoi hne hun fun e he hb heq => ?_
  have h1 := hall e he hb
  rw [heq, hku] at h1
  cases h1
theorem pullP_ok {i : Nat} (hi : i ∉ E) : ∀ (t : FT) (listed : Array Bool) (n : Nat), okT md ops E t listed → lenT t (n + 1) → i ∈ Region.ready md ops listed → okT md ops E (t.pullP i) (listed.setIfInBounds i true) ∧ lenT (t.pullP i) n
  | .leaf, listed, n, h, hl, hr => by rw [show Region.ready md ops listed = [] from h] at hr; cases hr
  | .step k t, listed, n, h, hl, hr => by
    obtain ⟨h1, h2, h3, h4⟩ := h
    obtain ⟨m, hm, hlm⟩ := hl
    obtain rfl : n = m := by omega
    unfold FT.pullP
    by_cases e : k = i
    · subst e
      rw [if_pos rfl]
      exact ⟨h4, hlm⟩
    · rw [if_neg e]
      have hik : i ≠ k := fun h => e h.symm
      cases n with
      | zero =>
        exfalso
        have hrr := ready_mono (i := k) hr hik
        have key : ∀ (t : FT) (listed : Array Bool), okT md ops E t listed → lenT t 0 → Region.ready md ops listed = [] := by
          intro t
          induction t with
          | leaf => intro listed h _; exact h
          | step k t _ => intro listed _ h; obtain ⟨m, hm, _⟩ := h; omega
          | fork t u iht _ => intro listed h hl; exact iht listed h.1 hl.1
        rw [key t _ h4 hlm] at hrr
        cases hrr
      | succ n =>
        obtain ⟨k1, k2⟩ := pullP_ok hi t _ n h4 hlm (ready_mono hr hik)
        rw [Array.setIfInBounds_comm _ _ e] at k1
        refine ⟨⟨ready_mono h1 e, h2.mono, fun hk => ?_, k1⟩, n, rfl, k2⟩
        rw [firsts_pullP hi, Array.setIfInBounds_comm _ _ hik]
        exact (h3 hk).congr (set_off hi)
  | .fork t u, listed, n, h, hl, hr => by
    obtain ⟨a1, a2⟩ := pullP_ok hi t listed n h.1 hl.1 hr
    obtain ⟨b1, b2⟩ := pullP_ok hi u listed n h.2 hl.2 hr
    exact ⟨⟨a1, b1⟩, a2, b2⟩
theorem xOp_and {i : Nat} {K L : Act → World → Prop} {a : Act} {w : World} (hi : i ∉ E) (hC : C w) (h : xOp P ops C E i K a w) (k : xOp P ops C E i L a w) : xOp P ops C E i (fun a1 w1 => K a1 w1 ∧ L a1 w1) a w := by
  unfold xOp at h k ⊢
  split
  · rename_i ho; simp only [ho] at h k; exact ⟨h, k⟩
  · rename_i o ho
    simp only [ho] at h k
    split
    · rename_i hw
      simp only [hw, if_true, hi, if_false] at h k ⊢
      obtain ⟨v, hv, h⟩ := h
      obtain ⟨u, hu, k⟩ := k
      obtain rfl := pureAt_det (hv w hC) (hu w hC)
      exact ⟨v, hv, h, k⟩
    · rename_i hw
      simp only [hw] at h k
      exact ⟨h, k⟩
theorem pullP_wp (hsel : ∀ (j : Nat) (o : Oper) cs b, ops[j]? = some o → o.op ≠ .select cs b) {i : Nat} (hi : i ∉ E) : ∀ (t : FT) (listed : Array Bool) (n : Nat) (a : Act) (w : World), okT md ops E t listed → lenT t (n + 1) → i ∈ Region.ready md ops listed → C w → wpT P ops C E R t a w → xOp P ops C E i (wpT P ops C E R (t.pullP i)) a w
  | .leaf, listed, n, a, w, h, hl, hr, hC, H => by rw [show Region.ready md ops listed = [] from h] at hr; cases hr
  | .step k t, listed, n, a, w, h, hl, hr, hC, H => by
    obtain ⟨h1, h2, h3, h4⟩ := h
    obtain ⟨m, hm, hlm⟩ := hl
    obtain rfl : n = m := by omega
    unfold FT.pullP
    by_cases e : k = i
    · subst e
      rw [if_pos rfl]
      exact H
    · rw [if_neg e]
      have hik : i ≠ k := fun h => e h.symm
      have hrr := ready_mono (i := k) hr hik
      cases n with
      | zero =>
        exfalso
        have key : ∀ (t : FT) (listed : Array Bool), okT md ops E t listed → lenT t 0 → Region.ready md ops listed = [] := by
          intro t
          induction t with
          | leaf => intro listed h _; exact h
          | step k t _ => intro listed _ h; obtain ⟨m, hm, _⟩ := h; omega
          | fork t u iht _ => intro listed h hl; exact iht listed h.1 hl.1
        rw [key t _ h4 hlm] at hrr
        cases hrr
      | succ n =>
        obtain ⟨_, ok, hok, _⟩ := mem_ready.1 h1
        obtain ⟨_, oi, hoi, _⟩ := mem_ready.1 hr
        have hap := apart_of h2 h1 hok hoi hr hik
        refine xOp_swap hok hoi hap (fun cs b => hsel k ok cs b hok) (fun cs b => hsel i oi cs b hoi) (fun h => hi h.2) hC ?_
        exact xOp_mono hC (fun a1 w1 hC1 h => pullP_wp hsel hi t _ n a1 w1 h4 hlm hrr hC1 h) H
  | .fork t u, listed, n, a, w, h, hl, hr, hC, H =>
    xOp_and hi hC (pullP_wp hsel hi t listed n a w h.1 hl.1 hr hC H.1) (pullP_wp hsel hi u listed n a w h.2 hl.2 hr hC H.2)
theorem pullE_ok {i : Nat} (hi : i ∈ E) : ∀ (t : FT) (listed : Array Bool) (n : Nat), okT md ops E t listed → lenT t (n + 1) → i ∈ Region.ready md ops listed → i ∈ t.firsts E → okT md ops E (t.pullE E i) (listed.setIfInBounds i true) ∧ lenT (t.pullE E i) n ∧ Cover md ops E (listed.setIfInBounds i true) ((t.pullE E i).firsts E)
  | .leaf, listed, n, h, hl, hr, hm => by cases hm
  | .step k t, listed, n, h, hl, hr, hm => by
    obtain ⟨h1, h2, h3, h4⟩ := h
    obtain ⟨m, hmm, hlm⟩ := hl
    obtain rfl : n = m := by omega
    unfold FT.pullE
    by_cases e : k = i
    · subst e
      rw [if_pos rfl]
      exact ⟨h4, hlm, h3 hi⟩
    · rw [if_neg e]
      have hik : i ≠ k := fun h => e h.symm
      have hm : i ∈ if k ∈ E then [k] else t.firsts E := hm
      by_cases hk : k ∈ E
      · rw [if_pos hk] at hm
        exact absurd (List.mem_singleton.1 hm) hik
      · rw [if_neg hk] at hm
        have hrr := ready_mono (i := k) hr hik
        cases n with
        | zero =>
          exfalso
          have key : ∀ (t : FT) (listed : Array Bool), okT md ops E t listed → lenT t 0 → Region.ready md ops listed = [] := by
            intro t
            induction t with
            | leaf => intro listed h _; exact h
            | step k t _ => intro listed _ h; obtain ⟨m, hm, _⟩ := h; omega
            | fork t u iht _ => intro listed h hl; exact iht listed h.1 hl.1
          rw [key t _ h4 hlm] at hrr
          cases hrr
        | succ n =>
          obtain ⟨k1, k2, k3⟩ := pullE_ok hi t _ n h4 hlm hrr hm
          rw [Array.setIfInBounds_comm _ _ e] at k1 k3
          refine ⟨⟨ready_mono h1 e, h2.mono, fun hk' => absurd hk' hk, k1⟩, ⟨n, rfl, k2⟩, ?_⟩
          show Cover md ops E _ (if k ∈ E then [k] else (t.pullE E i).firsts E)
          rw [if_neg hk]
          exact k3.congr fun f hf => (set_off hk f hf).symm
  | .fork t u, listed, n, h, hl, hr, hm => by
    unfold FT.pullE
    by_cases ht : i ∈ t.firsts E
    · rw [if_pos ht]
      exact pullE_ok hi t listed n h.1 hl.1 hr ht
    · rw [if_neg ht]
      exact pullE_ok hi u listed n h.2 hl.2 hr ((List.mem_append.1 hm).resolve_left ht)
theorem pullE_wp (hsel : ∀ (j : Nat) (o : Oper) cs b, ops[j]? = some o → o.op ≠ .select cs b) {i : Nat} (hi : i ∈ E) : ∀ (t : FT) (listed : Array Bool) (a : Act) (w : World), okT md ops E t listed → i ∈ Region.ready md ops listed → i ∈ t.firsts E → C w → wpT P ops C E R t a w → xOp P ops C E i (wpT P ops C E R (t.pullE E i)) a w
  | .leaf, listed, a, w, h, hr, hm, hC, H => by cases hm
  | .step k t, listed, a, w, h, hr, hm, hC, H => by
    obtain ⟨h1, h2, h3, h4⟩ := h
    unfold FT.pullE
    by_cases e : k = i
    · subst e
      rw [if_pos rfl]
      exact H
    · rw [if_neg e]
      have hik : i ≠ k := fun h => e h.symm
      have hm : i ∈ if k ∈ E then [k] else t.firsts E := hm
      by_cases hk : k ∈ E
      · rw [if_pos hk] at hm
        exact absurd (List.mem_singleton.1 hm) hik
      · rw [if_neg hk] at hm
        obtain ⟨_, ok, hok, _⟩ := mem_ready.1 h1
        obtain ⟨_, oi, hoi, _⟩ := mem_ready.1 hr
        have hap := apart_of h2 h1 hok hoi hr hik
        refine xOp_swap hok hoi hap (fun cs b => hsel k ok cs b hok) (fun cs b => hsel i oi cs b hoi) (fun h => hk h.1) hC ?_
        exact xOp_mono hC (fun a1 w1 hC1 h => pullE_wp hsel hi t _ a1 w1 h4 (ready_mono hr hik) hm hC1 h) H
  | .fork t u, listed, a, w, h, hr, hm, hC, H => by
    unfold FT.pullE
    by_cases ht : i ∈ t.firsts E
    · rw [if_pos ht]
      exact pullE_wp hsel hi t listed a w h.1 hr ht hC H.1
    · rw [if_neg ht]
      exact pullE_wp hsel hi u listed a w h.2 hr ((List.mem_append.1 hm).resolve_left ht) hC H.2
theorem lenT_zero : ∀ (t : FT) (listed : Array Bool) (a : Act) (w : World), okT md ops E t listed → lenT t 0 → wpT P ops C E R t a w → Region.ready md ops listed = [] ∧ R a w
  | .leaf, _, _, _, h, _, H => ⟨h, H⟩
  | .step _ _, _, _, _, _, hl, _ => by obtain ⟨m, hm, _⟩ := hl; omega
  | .fork t _, listed, a, w, h, hl, H => lenT_zero t listed a w h.1 hl.1 H.1
theorem lenT_succ : ∀ (t : FT) (listed : Array Bool) (n : Nat), okT md ops E t listed → lenT t (n + 1) → Region.ready md ops listed ≠ []
  | .leaf, _, _, _, hl => by cases hl
  | .step k _, listed, _, h, _ => fun e => by have := h.1; rw [e] at this; cases this
  | .fork t _, listed, n, h, hl => lenT_succ t listed n h.1 hl.1
theorem wpAnyX_tree (hsel : ∀ (j : Nat) (o : Oper) cs b, ops[j]? = some o → o.op ≠ .select cs b) : ∀ (n : Nat) (t : FT) (listed : Array Bool) (a : Act) (w : World), C w → Closed md ops listed → Cover md ops E listed (t.firsts E) → okT md ops E t listed → lenT t n → wpT P ops C E R t a w → wpAnyX P md ops C E R n listed a w
  | 0, t, listed, a, w, _, _, _, hok, hl, H => lenT_zero t listed a w hok hl H
  | n + 1, t, listed, a, w, hC, hcl, hcov, hok, hl, H => by
    refine ⟨fun h => absurd h (lenT_succ t listed n hok hl), fun i hr => ?_⟩
    by_cases hi : i ∈ E
    · obtain ⟨hun, oi, hoi, hall⟩ := mem_ready.1 hr
      have hm : i ∈ t.firsts E := by
        rcases hcov i hi hun with h | ⟨f, _, h1, h2⟩
        · exact h
        · have := waiters_spec hcl _ i oi hoi h2 hall
          rw [getD_false h1] at this
          cases this
      obtain ⟨k1, k2, k3⟩ := pullE_ok hi t listed n hok hl hr hm
      exact xOp_mono hC (fun a1 w1 hC1 h => wpAnyX_tree hsel n _ _ a1 w1 hC1 (hcl.set hr) k3 k1 k2 h) (pullE_wp hsel hi t listed a w hok hr hm hC H)
    · obtain ⟨k1, k2⟩ := pullP_ok hi t listed n hok hl hr
      refine xOp_mono hC (fun a1 w1 hC1 h => wpAnyX_tree hsel n _ _ a1 w1 hC1 (hcl.set hr) ?_ k1 k2 h) (pullP_wp hsel hi t listed n a w hok hl hr hC H)
      rw [firsts_pullP hi]
      exact hcov.congr (set_off hi)

/-! ### The check -/
def coverB (md : Region.Mode) (ops : Array Oper) (E : List Nat) (listed : Array Bool) (fs : List Nat) : Bool :=
  E.all fun e => listed.getD e true || fs.contains e || E.any fun f => !listed.getD f true && (waiters md ops f ops.size).contains e
theorem coverB_spec {listed : Array Bool} {fs : List Nat} (h : coverB md ops E listed fs = true) : Cover md ops E listed fs := by
  intro e he hun
  have h1 := List.all_eq_true.1 h e he
  rw [hun] at h1
  simp only [Bool.false_or, Bool.or_eq_true, List.contains_iff_mem, List.any_eq_true, Bool.and_eq_true, Bool.not_eq_true'] at h1
  rcases h1 with h1 | ⟨f, hf, h2, h3⟩
  · exact .inl h1
  · exact .inr ⟨f, hf, h2, h3⟩
def okB (md : Region.Mode) (ops : Array Oper) (E : List Nat) : FT → Array Bool → Bool
  | .leaf, listed => (Region.ready md ops listed).isEmpty
  | .step k t, listed => (Region.ready md ops listed).contains k && Region.free md ops listed k && (!E.contains k || coverB md ops E (listed.setIfInBounds k true) (t.firsts E)) && okB md ops E t (listed.setIfInBounds k true)
  | .fork t u, listed => okB md ops E t listed && okB md ops E u listed
theorem okB_spec : ∀ (t : FT) (listed : Array Bool), okB md ops E t listed = true → okT md ops E t listed
  | .leaf, listed, h => by
    have : (Region.ready md ops listed).isEmpty = true := h
    exact List.isEmpty_iff.1 this
  | .step k t, listed, h => by
    simp only [okB, Bool.and_eq_true, Bool.or_eq_true, Bool.not_eq_true', List.contains_iff_mem] at h
    obtain ⟨⟨⟨h1, h2⟩, h3⟩, h4⟩ := h
    refine ⟨h1, fun ok hok => Region.free_spec hok h2, fun hk => ?_, okB_spec t _ h4⟩
    rcases h3 with h3 | h3
    · exact absurd (List.contains_iff_mem.2 hk) (by rw [h3]; exact Bool.false_ne_true)
    · exact coverB_spec h3
  | .fork t u, listed, h => by
    simp only [okB, Bool.and_eq_true] at h
    exact ⟨okB_spec t listed h.1, okB_spec u listed h.2⟩
def lenB : FT → Nat → Bool
  | .leaf, n => n == 0
  | .step _ t, n => match n with
    | 0 => false
    | m + 1 => lenB t m
  | .fork t u, n => lenB t n && lenB u n
theorem lenB_spec : ∀ (t : FT) (n : Nat), lenB t n = true → lenT t n
  | .leaf, n, h => by simpa [lenB, lenT] using h
  | .step _ t, 0, h => by simp [lenB] at h
  | .step _ t, n + 1, h => ⟨n, rfl, lenB_spec t n h⟩
  | .fork t u, n, h => by
    simp only [lenB, Bool.and_eq_true] at h
    exact ⟨lenB_spec t n h.1, lenB_spec u n h.2⟩
def treeB (md : Region.Mode) (ops : Array Oper) (E : List Nat) (t : FT) : Bool :=
  Region.noSelect ops && coverB md ops E (Array.replicate ops.size false) (t.firsts E) && okB md ops E t (Array.replicate ops.size false) && lenB t ops.size
theorem wp_region_tree {id : Nat} {Q : Exit → Act → World → Prop} {a : Act} {w : World} {l : List Oper} (t : FT) (E : List Nat) (Φ : World → Prop) (h0 : Φ w.drew) (hm : P.follows .mixedOrders = true) (hB : treeB .any l.toArray E t = true)
    (h : wpT P l.toArray (fun w' => ∃ x : Lat Φ, w' = x.w') E (fun a' w' => Q .normal a' w') t a w.drew) : (Code.region id l.toArray true).wp P Q a w := by
  simp only [treeB, Bool.and_eq_true] at hB
  obtain ⟨⟨⟨h1, h2⟩, h3⟩, h4⟩ := hB
  have hC : (fun w' => ∃ x : Lat Φ, w' = x.w') w.drew := ⟨⟨w.drew, h0⟩, rfl⟩
  refine wp_region_any hm (wpAny_of_X (C := fun w' => ∃ x : Lat Φ, w' = x.w') (E := E) (R := fun a' w' => Q .normal a' w') (fun _ _ h => h) _ _ _ _ hC ?_)
  refine wpAnyX_tree (Region.noSelect_spec h1) _ t _ a w.drew hC (fun j oj _ hl => ?_) (coverB_spec h2) (okB_spec t _ h3) (lenB_spec t _ h4) h
  rcases Nat.lt_or_ge j l.length with h | h
  · simp [h] at hl
  · simp [h] at hl

/-! ### Its steps -/
theorem ft_leaf {a : Act} {w : World} (h : R a w) : wpT P ops C E R .leaf a w := h
theorem ft_fork {t u : FT} {a : Act} {w : World} (h : wpT P ops C E R t a w) (k : wpT P ops C E R u a w) : wpT P ops C E R (.fork t u) a w := ⟨h, k⟩
theorem ft_pure {k : Nat} {t : FT} {o : Oper} {a : Act} {w : World} (ho : ops[k]? = some o) (hk : decide (k ∈ E) = false) (hp : plainOp o = true) (hw : Region.wanted o (yielded ops a.tmps) = true)
    (h : ∀ K : Act → Prop, (∀ a, wpT P ops C E R t a w → K a) → o.quiet P a C K) : wpT P ops C E R (.step k t) a w := by
  have h1 := lex_pure (P := P) (ops := ops) (C := C) (E := E) (R := wpT P ops C E R t) (k := k) (o := o) (rest := []) hk hp hw h
  unfold wpT xOp
  simp only [ho]
  exact h1
theorem ft_eff {k : Nat} {t : FT} {o : Oper} {a : Act} {w : World} (ho : ops[k]? = some o) (hk : decide (k ∈ E) = true) (h : wpList P ops (LexQ C (wpT P ops C E R t)) [o] a w) : wpT P ops C E R (.step k t) a w := by
  have h1 := lex_eff (P := P) (ops := ops) (C := C) (E := E) (R := wpT P ops C E R t) (k := k) (o := o) (rest := []) hk h
  unfold wpT xOp
  simp only [ho]
  exact h1
theorem ft_skip {k : Nat} {t : FT} {o : Oper} {a : Act} {w : World} (ho : ops[k]? = some o) (hw : Region.wanted o (yielded ops a.tmps) = false) (h : wpT P ops C E R t (a.put o.dst undef) w) : wpT P ops C E R (.step k t) a w := by
  have h1 := lex_skip (P := P) (ops := ops) (C := C) (E := E) (R := wpT P ops C E R t) (k := k) (o := o) (rest := []) hw h
  unfold wpT xOp
  simp only [ho]
  exact h1
theorem ftl_pure {l : List Oper} {k : Nat} {t : FT} {o : Oper} {a : Act} {w : World} (ho : l[k]? = some o) (hk : decide (k ∈ E) = false) (hp : plainOp o = true) (hw : Region.wanted o (yielded l.toArray a.tmps) = true)
    (h : ∀ K : Act → Prop, (∀ a, wpT P l.toArray C E R t a w → K a) → o.quiet P a C K) : wpT P l.toArray C E R (.step k t) a w :=
  ft_pure (ops := l.toArray) (by rw [List.getElem?_toArray]; exact ho) hk hp hw h
theorem ftl_eff {l : List Oper} {k : Nat} {t : FT} {o : Oper} {a : Act} {w : World} (ho : l[k]? = some o) (hk : decide (k ∈ E) = true) (h : wpList P l.toArray (LexQ C (wpT P l.toArray C E R t)) [o] a w) : wpT P l.toArray C E R (.step k t) a w :=
  ft_eff (ops := l.toArray) (by rw [List.getElem?_toArray]; exact ho) hk h
theorem ftl_skip {l : List Oper} {k : Nat} {t : FT} {o : Oper} {a : Act} {w : World} (ho : l[k]? = some o) (hw : Region.wanted o (yielded l.toArray a.tmps) = false) (h : wpT P l.toArray C E R t (a.put o.dst undef) w) : wpT P l.toArray C E R (.step k t) a w :=
  ft_skip (ops := l.toArray) (by rw [List.getElem?_toArray]; exact ho) hw h
end
end Go.Proofs.YtkeaoejgboefbaaGreatDoor
