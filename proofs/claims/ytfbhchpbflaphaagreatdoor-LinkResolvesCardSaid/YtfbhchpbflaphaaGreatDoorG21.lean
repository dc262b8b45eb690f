/- The texts Sz Xg Xh of the seat, joined. -/
import Derived.Test.YtfbhchpbflaphaaGreatDoorG20
import Derived.SizedLaws
import Derived.Handed
import Derived.HandedShaped
import Derived.Lay
/- What comes in reads so, with bounds by the form's own reach: strings and slices take at most 2^47 - 4096 bytes. For any program. -/
namespace Go.Proofs.YtfbhchpbflaphaaGreatDoor
open Go.RowKit
section
variable {H : Type} {enc : TypeId × Value → H} {P : Program} {w : World}
theorem reach_is : reachBytes = 140737488351232 := rfl
/-- Type t's values read as r says, and bd holds of them, where nothing in them passes the reach. -/
def OpensB (enc : TypeId × Value → H) (P : Program) (w : World) (t : TypeId) {α : Type} (r : Rep α) (bd : α → Prop) : Prop :=
  P.cellsOf t = r.size ∧ ∀ (fuel : Nat) (cs : List Value) (x : DataW H × List MemPlace), DataW.trod enc P w 0 (fun _ => true) true fuel t cs = some x → (∀ n ∈ x.1.weights P t, n ≤ reachBytes) → ∃ a, r.is w (Old w) a cs ∧ bd a
theorem Opens.toB {t : TypeId} {α : Type} {r : Rep α} (h : Opens enc P w t r) : OpensB enc P w t r (fun _ => True) :=
  ⟨h.1, fun fuel cs x hx _ => by obtain ⟨a, ha⟩ := h.2 fuel cs x hx; exact ⟨a, ha, trivial⟩⟩
theorem OpensB.str {t : TypeId} (ht : P.underlying t = some .string) (hc : P.cellsOf t = 1) : OpensB enc P w t strR (fun s => s.size ≤ 140737488351232) :=
  ⟨hc, fun _ _ x h hz => by
    obtain ⟨s, rfl, hx, hs⟩ := DataW.trod_string ht h
    refine ⟨s, ⟨rfl, hs⟩, ?_⟩
    have hx1 : x.1 = .lit (.string s.data.toList) := by rw [hx]
    have := hz s.size (by rw [hx1]; simp [DataW.weights])
    rwa [reach_is] at this⟩
theorem weightsAll_mem {e : TypeId} : ∀ {l : List (DataW H)} {d : DataW H}, d ∈ l → ∀ n ∈ d.weights P e, n ∈ DataW.weightsAll P e l
  | _ :: _, _, hd, n, hn => by
    unfold DataW.weightsAll
    rcases List.mem_cons.1 hd with rfl | hd
    · exact List.mem_append_left _ hn
    · exact List.mem_append_right _ (weightsAll_mem hd n hn)
theorem OpensB.slice {t e : TypeId} {α : Type} {r : Rep α} {bd : α → Prop} (ht : P.underlying t = some (.slice e)) (hc : P.cellsOf t = 1) (hpos : 0 < r.size) (hby : 0 < P.bytesOf e) (he : OpensB enc P w e r bd) :
    OpensB enc P w t (sliceR r) (fun l => l.length ≤ 140737488351232 ∧ ∀ a ∈ l, bd a) := by
  refine ⟨hc, fun fuel cs x h hz => ?_⟩
  rcases Go.Deep.open_slice ht h with ⟨rfl, _⟩ | ⟨a, len, cap, m, n, D, Pl, rfl, _, hl, hm, hmm, hx, hall⟩
  · exact ⟨[], ⟨none, 0, rfl, SliceAt.nil _ _ _ _ _ (by omega)⟩, by simp, fun _ h => by cases h⟩
  · simp only [ite_true] at hmm
    have hx1 : x.1 = .slice ((List.range len).map D) ((List.range (m - len)).map fun j => D (len + j)) := by rw [hx]
    rw [hx1] at hz
    unfold DataW.weights at hz
    rw [ht] at hz
    simp only at hz
    have hcap : len ≤ 140737488351232 := by
      have h1 := hz _ (List.mem_cons_self)
      rw [reach_is] at h1
      simp only [List.length_map, List.length_range] at h1
      have h2 : len + (m - len) ≤ (len + (m - len)) * P.bytesOf e := Nat.le_mul_of_pos_right _ hby
      omega
    have hex : ∀ i, i < len → ∃ y, (∃ us, r.is w (Old w) y us ∧ us.length = r.size ∧ ∀ j, j < r.size → w.cell? ((a.add (i * r.size)).add j) = us[j]?) ∧ bd y := by
      intro i hi
      obtain ⟨cs', h1, h2⟩ := hall i (by omega)
      rw [he.1] at h1
      obtain ⟨y, hy, hby⟩ := he.2 _ _ _ h2 fun k hk => hz k (List.mem_cons_of_mem _ (List.mem_append_left _ (weightsAll_mem (List.mem_map.2 ⟨i, List.mem_range.2 hi, rfl⟩) k hk)))
      obtain ⟨_, g2, g3⟩ := World.cells?_some h1
      exact ⟨y, ⟨cs', hy, g2, g3⟩, hby⟩
    obtain ⟨l, hlen, hp⟩ := list_of_lt hex
    refine ⟨l, ⟨some a, cap, by rw [hlen], by omega, by unfold maxLen at hm; omega, fun hne => ?_⟩, by omega, fun y hy => ?_⟩
    · have hlpos : 0 < l.length := List.length_pos_iff.2 hne
      obtain ⟨⟨us, _, hul, hc0⟩, _⟩ := hp 0 hlpos
      have hc00 := hc0 0 hpos
      obtain ⟨u0, hu0⟩ : ∃ u0, us[0]? = some u0 := ⟨us[0]'(by omega), by simp [hul, hpos]⟩
      rw [hu0] at hc00
      have hc00' : w.cell? a = some u0 := by simpa [Addr.add] using hc00
      have hspot := World.cell?_spot hc00'
      have hblk := World.block_lt_of_cell? w _ hc00'
      obtain ⟨b, off, sp⟩ := a
      simp only at hspot
      subst hspot
      refine ⟨b, off, rfl, hblk, fun i hi => ?_⟩
      obtain ⟨⟨us, h1, h2, h3⟩, _⟩ := hp i hi
      refine ⟨us, h1, fun j u hj => ?_⟩
      have hj' : j < r.size := by
        rcases Nat.lt_or_ge j us.length with h | h
        · omega
        · rw [List.getElem?_eq_none h] at hj; cases hj
      have := h3 j hj'
      rw [hj] at this
      have e : ((⟨b, off, none⟩ : Addr).add (i * r.size)).add j = ⟨b, off + (i * r.size + j), none⟩ := by
        rw [Go.Deep.add_add]
        unfold Addr.add
        split
        · rename_i h0; rw [h0]; rfl
        · rfl
      rwa [e] at this
    · obtain ⟨i, hi, rfl⟩ := List.getElem_of_mem hy
      exact (hp i hi).2
/-- The fields from number k on, at offset o. -/
def OpensFieldsB (enc : TypeId × Value → H) (P : Program) (w : World) (fs : List Field) (o : Nat) {α : Type} (r : Rep α) (bd : α → Prop) : Prop :=
  ∀ (fuel : Nat) (cs : List Value) (xs : List (DataW H × List MemPlace)), cs.length = o + r.size →
    (∀ (i : Nat) (f : Field), fs[i]? = some f → DataW.trod enc P w 0 (fun _ => true) true fuel f.type ((cs.drop f.offset).take (P.cellsOf f.type)) = xs[i]?) → fs.length ≤ xs.length →
    (∀ n ∈ DataW.weightsEach P (fs.map (·.type)) (xs.map (·.1)), n ≤ reachBytes) → ∃ a, r.is w (Old w) a (cs.drop o) ∧ bd a
theorem OpensFieldsB.one {f : Field} {o : Nat} {α : Type} {r : Rep α} {bd : α → Prop} (h : OpensB enc P w f.type r bd) (ho : f.offset = o) : OpensFieldsB enc P w [f] o r bd := by
  intro fuel cs xs hl hf hx hz
  have h0 := hf 0 f rfl
  cases xs with
  | nil => simp at hx
  | cons x xs =>
    rw [List.getElem?_cons_zero, ho, h.1, List.take_of_length_le (by rw [List.length_drop]; omega)] at h0
    refine h.2 _ _ _ h0 fun n hn => hz n ?_
    simp only [List.map_cons, DataW.weightsEach]
    exact List.mem_append_left _ hn
theorem OpensFieldsB.cons {f : Field} {fs : List Field} {o : Nat} {α β : Type} {r : Rep α} {s : Rep β} {bd : α → Prop} {be : β → Prop} (h : OpensB enc P w f.type r bd) (ho : f.offset = o) (hs : OpensFieldsB enc P w fs (o + r.size) s be) : OpensFieldsB enc P w (f :: fs) o (prodR r s) (fun p => bd p.1 ∧ be p.2) := by
  intro fuel cs xs hl hf hx hz
  have h0 := hf 0 f rfl
  cases xs with
  | nil => simp at hx
  | cons x xs =>
    rw [List.getElem?_cons_zero, ho, h.1] at h0
    simp only [List.map_cons, DataW.weightsEach] at hz
    obtain ⟨a, ha, hba⟩ := h.2 _ _ _ h0 fun n hn => hz n (List.mem_append_left _ hn)
    have hl' : cs.length = o + (r.size + s.size) := hl
    obtain ⟨b, hb, hbb⟩ := hs fuel cs xs (by omega) (fun i g hg => by have := hf (i + 1) g (by simpa using hg); simpa using this) (by simp at hx; omega) fun n hn => hz n (List.mem_append_right _ hn)
    refine ⟨(a, b), ⟨_, _, ?_, ha, hb⟩, hba, hbb⟩
    rw [← List.drop_drop]
    exact (List.take_append_drop _ _).symm
theorem OpensB.struct {t : TypeId} {fs : Array Field} {α : Type} {r : Rep α} {bd : α → Prop} (ht : P.underlying t = some (.struct fs)) (hc : P.cellsOf t = r.size) (h : OpensFieldsB enc P w fs.toList 0 r bd) : OpensB enc P w t r bd := by
  refine ⟨hc, fun fuel cs x hx hz => ?_⟩
  obtain ⟨xs, n, _, hx1, hl, hxl, hf⟩ := DataW.trod_struct ht hx
  have hx2 : x.1 = .agg (xs.map (·.1)) := by rw [hx1]
  rw [hx2] at hz
  unfold DataW.weights at hz
  rw [ht] at hz
  simp only at hz
  have := h n cs xs (by omega) (fun i f hi => hf i f (by simpa using hi)) (by simp [hxl]) hz
  simpa using this
/-- An argument of the row, opened. -/
theorem OpensB.arg {t : TypeId} {α : Type} {r : Rep α} {bd : α → Prop} (h : OpensB enc P w t r bd) {v : Value} {d : DataW H} {p : List MemPlace} (ht : DataW.Trod enc P w 0 (fun _ => true) true t v d p) (hz : ∀ n ∈ d.weights P t, n ≤ reachBytes) (hv : r.size = 1 → v.cells = #[v]) : ∃ a, r.val w a v ∧ bd a := by
  obtain ⟨fuel, hf⟩ := ht
  obtain ⟨a, ha, hb⟩ := h.2 _ _ _ hf hz
  exact ⟨a, ⟨ha, hv⟩, hb⟩
/-- The weights of argument j. -/
theorem weights_at {ts : List TypeId} {ds : List (DataW H)} (h : (DataW.weightsEach P ts ds).all (· ≤ reachBytes) = true) (j : Nat) {t : TypeId} {d : DataW H} (ht : ts[j]? = some t) (hd : ds[j]? = some d) : ∀ n ∈ d.weights P t, n ≤ reachBytes := by
  intro n hn
  have := List.all_eq_true.1 h n (DataW.weights_mem_each ht hd n hn)
  simpa using this
theorem wrap_sized {a : Assume} {C : Checked} {os : Os} {f : FuncId} {fn : Func} {s : ChangeSpec} {conds : List PathCond} {apart fresh handsOn again : Bool} {X : World → Array Value → Prop}
    (hX : ∀ (w w' : World) (args : Array Value), w.heap = w'.heap → X w args → X w' args)
    (own : ownKnob C.prog.godebug = none) (started : os.Started) (noInit : C.prog.inits.idxOf? f = none) (hfn : C.prog.funcs[f]? = some fn)
    (witness : ∃ (w : World) (tape : Tape) (i : Input), w.os = os ∧ (w.forCall tape i).Shaped C.prog ∧ i.vars = [] ∧ Input.okWide C.prog (w.forCall tape i) .any w.heap.size f i ∧
      ((s.pre enc C.prog fn conds apart (w.forCall tape i).memory i.args ∧ X (w.forCall tape i).memory i.args) ∧ sizedMet enc C.prog fn (OpenSpec.ofChange s) apart (w.forCall tape i).memory i.args) ∧ a.holds C.prog (lone (Frame.enter C.prog f i.args .normal) [] (w.forCall tape i)))
    (contract : ∀ (W : World) (base : Nat) (args : Array Value) (ds gs : List (DataW H)) (before : List MemPlace),
      (∀ (j : Nat) t v, fn.params[j]? = some t → args[j]? = some v → Value.okWide C.prog W .any base t v) →
      DataW.Whole enc C.prog fn.params.toList s.vars apart W args.toList ds gs before →
      conds.all (PathCond.test C.prog ⟨fn.params.toList, ds, s.plain.varTypes C.prog, gs⟩) = true →
      X W args → W.ShapedOpen C.prog →
      (DataW.weightsEach C.prog (fn.params.toList ++ (OpenSpec.ofChange s).bare.plain.varTypes C.prog) (ds ++ gs)).all (· ≤ reachBytes) = true →
      Calls C.prog f args W fun e W' => ∃ v, e = .returned v ∧ s.post enc C.prog fn apart fresh handsOn again W args v W') :
    ReturnsInHanded a C os f .any (fun w args => (s.pre enc C.prog fn conds apart w args ∧ X w args) ∧ sizedMet enc C.prog fn (OpenSpec.ofChange s) apart w args) (s.post enc C.prog fn apart fresh handsOn again) := by
  refine returnsInHanded_of_calls own started noInit witness ?_
  intro w tape i _ hsh _ hok hpre _
  obtain ⟨_, _, _, fn', hfn', _, _, _, _, hval⟩ := hok
  have e : fn' = fn := Option.some.inj (hfn'.symm.trans hfn)
  subst e
  obtain ⟨⟨⟨ds, gs, before, hw, hc⟩, hx⟩, hsz⟩ := hpre
  have hw' := DataW.Whole.of_heap (w' := w.forCall tape i) (by rfl) hw
  refine (contract (w.forCall tape i) w.heap.size i.args ds gs before hval hw' hc (hX _ _ _ (by rfl) hx) hsh (sizedMet.weights hsz hw)).mono fun e W' ⟨v, he, hp⟩ => ?_
  subst he
  exact ChangeSpec.post_blind hp
theorem laidMetH_laidAll {P : Program} {os : Os} {laid : List (String × DataW Unit)} (args : Array Value) (hp : (laid.filter fun x => x.2.handleName?.isSome) = [])
    (hf : (World.holding P os ⟨#[], #[], []⟩).layFits P laid [] = true)
    (hi : (World.holding P os ⟨#[], #[], []⟩).layIfaces P laid (World.laidAll P os laid) = true) :
    laidMetH P laid ((World.laidAll P os laid).forCall (fun _ _ => 0) ⟨#[], args, []⟩).memory := by
  unfold laidMetH
  rw [hp]
  exact laidMet_laidAll args hf hi
end
end Go.Proofs.YtfbhchpbflaphaaGreatDoor

/- What the arguments read as; the cell that strings.Split reads: the frame of the cards of chapter 11. -/
namespace Go.Proofs.YtfbhchpbflaphaaGreatDoor
open Go.RowKit

abbrev CaseT := ByteArray × (List C.Mem × (List L.Shelf × List L.Libr))
def caseR : Rep CaseT := prodR strR (prodR (sliceR memR) (prodR (sliceR shelfR) (sliceR librR)))
def BdCs (c : CaseT) : Prop := BdC c.2.1 c.2.2.1
theorem OpensB.mono {H : Type} {enc : TypeId × Value → H} {P : Program} {w : World} {t : TypeId} {α : Type} {r : Rep α} {bd be : α → Prop} (h : OpensB enc P w t r bd) (hb : ∀ a, bd a → be a) : OpensB enc P w t r be :=
  ⟨h.1, fun fuel cs x hx hz => by obtain ⟨a, ha, hba⟩ := h.2 fuel cs x hx hz; exact ⟨a, ha, hb a hba⟩⟩
section
variable {H : Type} {enc : TypeId × Value → H} {w : World}
theorem op9 : OpensB enc Tryz.prog w 9 strR (fun s => s.size ≤ 140737488351232) := OpensB.str Tryz.underlying9 (by kernel_rfl)
theorem op3 : OpensB enc Tryz.prog w 3 (intR .i64) (fun _ => True) := (Opens.int Tryz.underlying3 (by kernel_rfl)).toB
theorem op60 : OpensB enc Tryz.prog w 60 symR (fun p => p.1.size ≤ 140737488351232 ∧ True ∧ True) :=
  (OpensB.struct Tryz.underlying60 (by kernel_rfl) (.cons op9 rfl (.cons op3 rfl (.one op3 rfl)))).mono fun _ h => h
theorem op151 : OpensB enc Tryz.prog w 151 relR (fun p => True ∧ p.2.size ≤ 140737488351232) :=
  (OpensB.struct Tryz.underlying151 (by kernel_rfl) (.cons op3 rfl (.one op9 rfl))).mono fun _ h => h
theorem op53 : OpensB enc Tryz.prog w 53 (sliceR symR) (fun l => l.length ≤ 140737488351232) := (OpensB.slice Tryz.underlying53 (by kernel_rfl) (by decide) (of_decide_eq_true (by kernel_rfl)) op60).mono fun _ h => h.1
theorem op65 : OpensB enc Tryz.prog w 65 (sliceR relR) (fun l => l.length ≤ 140737488351232) := (OpensB.slice Tryz.underlying65 (by kernel_rfl) (by decide) (of_decide_eq_true (by kernel_rfl)) op151).mono fun _ h => h.1
theorem op67 : OpensB enc Tryz.prog w 67 secR (fun p => True ∧ p.2.1.size ≤ 140737488351232 ∧ p.2.2.length ≤ 140737488351232) :=
  (OpensB.struct Tryz.underlying67 (by kernel_rfl) (.cons op3 rfl (.cons op9 rfl (.one op65 rfl)))).mono fun _ h => h
theorem op54 : OpensB enc Tryz.prog w 54 (sliceR secR) (fun l => l.length ≤ 140737488351232 ∧ ∀ s ∈ l, s.2.1.size ≤ 140737488351232 ∧ s.2.2.length ≤ 140737488351232) := (OpensB.slice Tryz.underlying54 (by kernel_rfl) (by decide) (of_decide_eq_true (by kernel_rfl)) op67).mono fun _ h => ⟨h.1, fun s hs => (h.2 s hs).2⟩
theorem op56 : OpensB enc Tryz.prog w 56 objR BdO :=
  (OpensB.struct Tryz.underlying56 (by kernel_rfl) (.cons op53 rfl (.one op54 rfl))).mono fun _ h => ⟨h.1, h.2.1, h.2.2⟩
theorem op69 : OpensB enc Tryz.prog w 69 memR (fun p => BdO p.2) :=
  (OpensB.struct Tryz.underlying69 (by kernel_rfl) (.cons op9 rfl (.one op56 rfl))).mono fun _ h => h.2
theorem op22 : OpensB enc Tryz.prog w 22 (sliceR memR) BdM := (OpensB.slice Tryz.underlying22 (by kernel_rfl) (by decide) (of_decide_eq_true (by kernel_rfl)) op69).mono fun _ h => h
theorem op83 : OpensB enc Tryz.prog w 83 shelfR (fun p => BdM p.2) :=
  (OpensB.struct Tryz.underlying83 (by kernel_rfl) (.cons op9 rfl (.one op22 rfl))).mono fun _ h => h.2
theorem op23 : OpensB enc Tryz.prog w 23 (sliceR shelfR) (fun l => ∀ s ∈ l, BdM s.2) := (OpensB.slice Tryz.underlying23 (by kernel_rfl) (by decide) (of_decide_eq_true (by kernel_rfl)) op83).mono fun _ h => h.2
theorem op74 : OpensB enc Tryz.prog w 74 expR (fun _ => True) := (OpensB.struct Tryz.underlying74 (by kernel_rfl) (.cons op9 rfl (.one op3 rfl))).mono fun _ _ => trivial
theorem op32 : OpensB enc Tryz.prog w 32 (sliceR expR) (fun _ => True) := (OpensB.slice Tryz.underlying32 (by kernel_rfl) (by decide) (of_decide_eq_true (by kernel_rfl)) op74).mono fun _ _ => trivial
theorem op49 : OpensB enc Tryz.prog w 49 plcR (fun _ => True) := (OpensB.struct Tryz.underlying49 (by kernel_rfl) (.cons op9 rfl (.cons op9 rfl (.cons op3 rfl (.cons op3 rfl (.one op3 rfl)))))).mono fun _ _ => trivial
theorem op29 : OpensB enc Tryz.prog w 29 (sliceR plcR) (fun _ => True) := (OpensB.slice Tryz.underlying29 (by kernel_rfl) (by decide) (of_decide_eq_true (by kernel_rfl)) op49).mono fun _ _ => trivial
theorem op30 : OpensB enc Tryz.prog w 30 (sliceR (intR .i64)) (fun _ => True) := (OpensB.slice Tryz.underlying30 (by kernel_rfl) (by decide) (of_decide_eq_true (by kernel_rfl)) op3).mono fun _ _ => trivial
theorem op128 : OpensB enc Tryz.prog w 128 impR (fun _ => True) := (OpensB.struct Tryz.underlying128 (by kernel_rfl) (.cons op9 rfl (.cons op9 rfl (.one op3 rfl)))).mono fun _ _ => trivial
theorem op31 : OpensB enc Tryz.prog w 31 (sliceR impR) (fun _ => True) := (OpensB.slice Tryz.underlying31 (by kernel_rfl) (by decide) (of_decide_eq_true (by kernel_rfl)) op128).mono fun _ _ => trivial
theorem op130 : OpensB enc Tryz.prog w 130 noteR (fun _ => True) := (OpensB.struct Tryz.underlying130 (by kernel_rfl) (.cons op9 rfl (.one op9 rfl))).mono fun _ _ => trivial
theorem op33 : OpensB enc Tryz.prog w 33 (sliceR noteR) (fun _ => True) := (OpensB.slice Tryz.underlying33 (by kernel_rfl) (by decide) (of_decide_eq_true (by kernel_rfl)) op130).mono fun _ _ => trivial
theorem op35 : OpensB enc Tryz.prog w 35 binR (fun _ => True) := (OpensB.struct Tryz.underlying35 (by kernel_rfl) (.cons op3 rfl (.cons op3 rfl (.cons op9 rfl (.cons op29 rfl (.cons op30 rfl (.cons op31 rfl (.cons op32 rfl (.one op33 rfl))))))))).mono fun _ _ => trivial
theorem op86 : OpensB enc Tryz.prog w 86 librR (fun _ => True) := (OpensB.struct Tryz.underlying86 (by kernel_rfl) (.cons op9 rfl (.one op35 rfl))).mono fun _ _ => trivial
theorem op24 : OpensB enc Tryz.prog w 24 (sliceR librR) (fun _ => True) := (OpensB.slice Tryz.underlying24 (by kernel_rfl) (by decide) (of_decide_eq_true (by kernel_rfl)) op86).mono fun _ _ => trivial
theorem op26 : OpensB enc Tryz.prog w 26 caseR BdCs :=
  (OpensB.struct Tryz.underlying26 (by kernel_rfl) (.cons op9 rfl (.cons op22 rfl (.cons op23 rfl (.one op24 rfl))))).mono fun _ h => ⟨h.2.1, h.2.2.1⟩
end
theorem gl_of {W : World} (h : W.ShapedOpen Tryz.prog) (_ : (1 : Nat) = 1) {p : Prop} (_ : p) (_ : (1 : Nat) = 1) : Gl W := Tryz.laysM219.s1_3 W h
end Go.Proofs.YtfbhchpbflaphaaGreatDoor

/- The walk of LinkResolves. -/
namespace Go.Proofs.YtfbhchpbflaphaaGreatDoor
open Go.RowKit Go.Maps Go.ChangeMaps Go.Sort

theorem case_val {w : World} {v : Value} {c : CaseT} (hs : ∃ cs, v = .agg cs) (h : caseR.val w c v) :
    ∃ A a B b D d, v = .agg #[.string c.1, .slice A c.2.1.length a, .slice B c.2.2.1.length b, .slice D c.2.2.2.length d] ∧ c.1.size ≤ 9223372036854775807 ∧ SliceAt memR w (Old w) A a c.2.1 ∧ SliceAt shelfR w (Old w) B b c.2.2.1 ∧ SliceAt librR w (Old w) D d c.2.2.2 := by
  obtain ⟨cs, rfl⟩ := hs
  obtain ⟨⟨us, ys, he, ⟨rfl, hs⟩, us2, ys2, rfl, ⟨A, a, rfl, h1⟩, us3, ys3, rfl, ⟨B, b, rfl, h2⟩, D, d, rfl, h3⟩, _⟩ := h
  refine ⟨A, a, B, b, D, d, ?_, hs, h1, h2, h3⟩
  have : cs.toList = [.string c.1, .slice A c.2.1.length a, .slice B c.2.2.1.length b, .slice D c.2.2.2.length d] := he
  rw [show cs = cs.toList.toArray from Array.toArray_toList.symm, this]

set_option maxRecDepth 100000 in
set_option maxHeartbeats 4000000 in
theorem linkResolves_walk (v0 : Value) (c : CaseT) (w : World) (hg : Gl w) (h0 : ∃ cs, v0 = .agg cs) (r0 : caseR.val w c v0) (hb : BdCs c) : Calls Tryz.prog 5 #[v0] w (Al (.bool true) w) := by
  obtain ⟨A, a, B, b, D, d, rfl, hx, hA, hB, hD⟩ := case_val h0 r0
  obtain ⟨x, objs, sh, libs⟩ := c
  simp only at hx hA hB hD ⊢
  obtain ⟨n, hn⟩ : ∃ n, n = objs.length := ⟨_, rfl⟩
  obtain ⟨m, hm⟩ : ∃ m, m = sh.length := ⟨_, rfl⟩
  obtain ⟨q, hq⟩ : ∃ q, q = libs.length := ⟨_, rfl⟩
  rw [← hn, ← hm, ← hq]
  have HAW := Lib.hid (fun W (h : Ext w W) => awake_any W (hg.ext h))
  have HFW := Lib.hid (fun W (h : Ext w W) => few_any x objs sh libs A B D a b d n m q W hn (hA.ext h) hm (hB.ext h) hq (hD.ext h) hx hb)
  have HR1 := Lib.hid (fun (hf : FewC x objs sh libs) W (h : Ext w W) => Resolve_any x objs sh libs A B D a b d n m q W hn (hA.ext h) hm (hB.ext h) hq (hD.ext h) hf.ok hx (hg.ext h))
  have HR2 := Lib.hid (fun (hf : FewC x objs sh libs) W (h : Ext w W) => refResolve_any x objs sh libs A B D a b d n m q W hn (hA.ext h) hm (hB.ext h) hq (hD.ext h) hf.ok hx)
  generalize L.resolveL okN okP x objs sh libs = R at HR1 HR2
  obtain ⟨rn, rb, re⟩ := R
  unfold resV at HR1 HR2
  obtain ⟨W1, hW1⟩ : ∃ W1, W1 = w.alloc (.cells #[.string x, .slice A n a, .slice B m b, .slice D q d] 26) := ⟨_, rfl⟩
  have hb1 : W1.heap[w.heap.size]? = some (.cells #[.string x, .slice A n a, .slice B m b, .slice D q d] 26 (0, 0)) := by rw [hW1]; exact heap_alloc_new w _
  have HX1 : Hid (Ext w W1) := by rw [hW1]; exact (Ext.refl w).alloc _
  have HB1 := Lib.hid hb1
  clear hn hm hq hA hB hD h0 r0 hg hb hx hb1
  go_enter Tryz.func5, Tryz.ntmps5
  go_upto_region 1 with (fail)
  rw [← hW1]
  clear hW1
  go_wp2_with fail
  refine (HAW.out _ HX1.out).mono ?_
  rintro e w2 ⟨rfl, d2⟩
  have hb2 := (d2.block _ (Array.getElem?_eq_some_iff.1 HB1.out).1).trans HB1.out
  have c0 : w2.cell? ⟨w.heap.size, 0, none⟩ = _ := cell_of_row w2 _ 0 _ _ _ hb2
  have c1 : w2.cell? ⟨w.heap.size, 1, none⟩ = _ := cell_of_row w2 _ 1 _ _ _ hb2
  have c2 : w2.cell? ⟨w.heap.size, 2, none⟩ = _ := cell_of_row w2 _ 2 _ _ _ hb2
  have c3 : w2.cell? ⟨w.heap.size, 3, none⟩ = _ := cell_of_row w2 _ 3 _ _ _ hb2
  have HX2 := Lib.hid (HX1.out.trans d2)
  have HB2 := Lib.hid hb2
  clear d2 hb2
  go_wp2_with fail
  refine (HFW.out _ HX2.out).mono ?_
  rintro e w3 ⟨d3, fb, rfl, hfb⟩
  have HX3 := Lib.hid (HX2.out.trans d3)
  cases fb with
  | false =>
    clear hfb d3 c0 c1 c2 c3
    go_wp2_with fail
    go_ret
    exact ⟨rfl, HX3.out⟩
  | true =>
    have HF := Lib.hid (hfb rfl)
    have hb3 := (d3.block _ (Array.getElem?_eq_some_iff.1 HB2.out).1).trans HB2.out
    clear hfb d3 c0 c1 c2 c3
    have c0 : w3.cell? ⟨w.heap.size, 0, none⟩ = _ := cell_of_row w3 _ 0 _ _ _ hb3
    have c1 : w3.cell? ⟨w.heap.size, 1, none⟩ = _ := cell_of_row w3 _ 1 _ _ _ hb3
    have c2 : w3.cell? ⟨w.heap.size, 2, none⟩ = _ := cell_of_row w3 _ 2 _ _ _ hb3
    have c3 : w3.cell? ⟨w.heap.size, 3, none⟩ = _ := cell_of_row w3 _ 3 _ _ _ hb3
    have HB3 := Lib.hid hb3
    clear hb3
    go_wp2_with fail
    refine (HR1.out HF.out _ HX3.out).mono ?_
    rintro e w4 ⟨rfl, d4⟩
    have hb4 := (d4.block _ (Array.getElem?_eq_some_iff.1 HB3.out).1).trans HB3.out
    have HX4 := Lib.hid (HX3.out.trans d4)
    clear d4 c0 c1 c2 c3
    have c0 : w4.cell? ⟨w.heap.size, 0, none⟩ = _ := cell_of_row w4 _ 0 _ _ _ hb4
    have c1 : w4.cell? ⟨w.heap.size, 1, none⟩ = _ := cell_of_row w4 _ 1 _ _ _ hb4
    have c2 : w4.cell? ⟨w.heap.size, 2, none⟩ = _ := cell_of_row w4 _ 2 _ _ _ hb4
    have c3 : w4.cell? ⟨w.heap.size, 3, none⟩ = _ := cell_of_row w4 _ 3 _ _ _ hb4
    clear hb4
    go_wp2_with fail
    refine (HR2.out HF.out _ HX4.out).mono ?_
    rintro e w5 ⟨rfl, d5⟩
    have HX5 := Lib.hid (HX4.out.trans d5)
    clear d5 c0 c1 c2 c3
    go_wp2_with fail
    go_ret
    exact ⟨rfl, HX5.out⟩
end Go.Proofs.YtfbhchpbflaphaaGreatDoor
