/- The texts Sz Xg Xh Ka Kb Kc of the seat, joined. -/
import Derived.Test.YtfbhchpbflaphaaGreatDoorG20
import Derived.SizedLaws
import Derived.Handed
import Derived.HandedShaped
import Derived.Lay
/- What comes in reads so, with bounds by the form's own reach: strings and slices take at most 2^47 - 4096 bytes. For any program. -/
namespace Go.Proofs.YtfbhchpbflaphaaGreatDoor
open Go.RowKit
section
variable {H : Type} {enc : TypeId × Value → H} {P : Program} {w : World}
theorem reach_is : reachBytes = 140737488351232 := rfl
/-- Type t's values read as r says, and bd holds of them, where nothing in them passes the reach. -/
def OpensB (enc : TypeId × Value → H) (P : Program) (w : World) (t : TypeId) {α : Type} (r : Rep α) (bd : α → Prop) : Prop :=
  P.cellsOf t = r.size ∧ ∀ (fuel : Nat) (cs : List Value) (x : DataW H × List MemPlace), DataW.trod enc P w 0 (fun _ => true) true fuel t cs = some x → (∀ n ∈ x.1.weights P t, n ≤ reachBytes) → ∃ a, r.is w (Old w) a cs ∧ bd a
theorem Opens.toB {t : TypeId} {α : Type} {r : Rep α} (h : Opens enc P w t r) : OpensB enc P w t r (fun _ => True) :=
  ⟨h.1, fun fuel cs x hx _ => by obtain ⟨a, ha⟩ := h.2 fuel cs x hx; exact ⟨a, ha, trivial⟩⟩
theorem OpensB.str {t : TypeId} (ht : P.underlying t = some .string) (hc : P.cellsOf t = 1) : OpensB enc P w t strR (fun s => s.size ≤ 140737488351232) :=
  ⟨hc, fun _ _ x h hz => by
    obtain ⟨s, rfl, hx, hs⟩ := DataW.trod_string ht h
    refine ⟨s, ⟨rfl, hs⟩, ?_⟩
    have hx1 : x.1 = .lit (.string s.data.toList) := by rw [hx]
    have := hz s.size (by rw [hx1]; simp [DataW.weights])
    rwa [reach_is] at this⟩
theorem weightsAll_mem {e : TypeId} : ∀ {l : List (DataW H)} {d : DataW H}, d ∈ l → ∀ n ∈ d.weights P e, n ∈ DataW.weightsAll P e l
  | _ :: _, _, hd, n, hn => by
    unfold DataW.weightsAll
    rcases List.mem_cons.1 hd with rfl | hd
    · exact List.mem_append_left _ hn
    · exact List.mem_append_right _ (weightsAll_mem hd n hn)
theorem OpensB.slice {t e : TypeId} {α : Type} {r : Rep α} {bd : α → Prop} (ht : P.underlying t = some (.slice e)) (hc : P.cellsOf t = 1) (hpos : 0 < r.size) (hby : 0 < P.bytesOf e) (he : OpensB enc P w e r bd) :
    OpensB enc P w t (sliceR r) (fun l => l.length ≤ 140737488351232 ∧ ∀ a ∈ l, bd a) := by
  refine ⟨hc, fun fuel cs x h hz => ?_⟩
  rcases Go.Deep.open_slice ht h with ⟨rfl, _⟩ | ⟨a, len, cap, m, n, D, Pl, rfl, _, hl, hm, hmm, hx, hall⟩
  · exact ⟨[], ⟨none, 0, rfl, SliceAt.nil _ _ _ _ _ (by omega)⟩, by simp, fun _ h => by cases h⟩
  · simp only [ite_true] at hmm
    have hx1 : x.1 = .slice ((List.range len).map D) ((List.range (m - len)).map fun j => D (len + j)) := by rw [hx]
    rw [hx1] at hz
    unfold DataW.weights at hz
    rw [ht] at hz
    simp only at hz
    have hcap : len ≤ 140737488351232 := by
      have h1 := hz _ (List.mem_cons_self)
      rw [reach_is] at h1
      simp only [List.length_map, List.length_range] at h1
      have h2 : len + (m - len) ≤ (len + (m - len)) * P.bytesOf e := Nat.le_mul_of_pos_right _ hby
      omega
    have hex : ∀ i, i < len → ∃ y, (∃ us, r.is w (Old w) y us ∧ us.length = r.size ∧ ∀ j, j < r.size → w.cell? ((a.add (i * r.size)).add j) = us[j]?) ∧ bd y := by
      intro i hi
      obtain ⟨cs', h1, h2⟩ := hall i (by omega)
      rw [he.1] at h1
      obtain ⟨y, hy, hby⟩ := he.2 _ _ _ h2 fun k hk => hz k (List.mem_cons_of_mem _ (List.mem_append_left _ (weightsAll_mem (List.mem_map.2 ⟨i, List.mem_range.2 hi, rfl⟩) k hk)))
      obtain ⟨_, g2, g3⟩ := World.cells?_some h1
      exact ⟨y, ⟨cs', hy, g2, g3⟩, hby⟩
    obtain ⟨l, hlen, hp⟩ := list_of_lt hex
    refine ⟨l, ⟨some a, cap, by rw [hlen], by omega, by unfold maxLen at hm; omega, fun hne => ?_⟩, by omega, fun y hy => ?_⟩
    · have hlpos : 0 < l.length := List.length_pos_iff.2 hne
      obtain ⟨⟨us, _, hul, hc0⟩, _⟩ := hp 0 hlpos
      have hc00 := hc0 0 hpos
      obtain ⟨u0, hu0⟩ : ∃ u0, us[0]? = some u0 := ⟨us[0]'(by omega), by simp [hul, hpos]⟩
      rw [hu0] at hc00
      have hc00' : w.cell? a = some u0 := by simpa [Addr.add] using hc00
      have hspot := World.cell?_spot hc00'
      have hblk := World.block_lt_of_cell? w _ hc00'
      obtain ⟨b, off, sp⟩ := a
      simp only at hspot
      subst hspot
      refine ⟨b, off, rfl, hblk, fun i hi => ?_⟩
      obtain ⟨⟨us, h1, h2, h3⟩, _⟩ := hp i hi
      refine ⟨us, h1, fun j u hj => ?_⟩
      have hj' : j < r.size := by
        rcases Nat.lt_or_ge j us.length with h | h
        · omega
        · rw [List.getElem?_eq_none h] at hj; cases hj
      have := h3 j hj'
      rw [hj] at this
      have e : ((⟨b, off, none⟩ : Addr).add (i * r.size)).add j = ⟨b, off + (i * r.size + j), none⟩ := by
        rw [Go.Deep.add_add]
        unfold Addr.add
        split
        · rename_i h0; rw [h0]; rfl
        · rfl
      rwa [e] at this
    · obtain ⟨i, hi, rfl⟩ := List.getElem_of_mem hy
      exact (hp i hi).2
/-- The fields from number k on, at offset o. -/
def OpensFieldsB (enc : TypeId × Value → H) (P : Program) (w : World) (fs : List Field) (o : Nat) {α : Type} (r : Rep α) (bd : α → Prop) : Prop :=
  ∀ (fuel : Nat) (cs : List Value) (xs : List (DataW H × List MemPlace)), cs.length = o + r.size →
    (∀ (i : Nat) (f : Field), fs[i]? = some f → DataW.trod enc P w 0 (fun _ => true) true fuel f.type ((cs.drop f.offset).take (P.cellsOf f.type)) = xs[i]?) → fs.length ≤ xs.length →
    (∀ n ∈ DataW.weightsEach P (fs.map (·.type)) (xs.map (·.1)), n ≤ reachBytes) → ∃ a, r.is w (Old w) a (cs.drop o) ∧ bd a
theorem OpensFieldsB.one {f : Field} {o : Nat} {α : Type} {r : Rep α} {bd : α → Prop} (h : OpensB enc P w f.type r bd) (ho : f.offset = o) : OpensFieldsB enc P w [f] o r bd := by
  intro fuel cs xs hl hf hx hz
  have h0 := hf 0 f rfl
  cases xs with
  | nil => simp at hx
  | cons x xs =>
    rw [List.getElem?_cons_zero, ho, h.1, List.take_of_length_le (by rw [List.length_drop]; omega)] at h0
    refine h.2 _ _ _ h0 fun n hn => hz n ?_
    simp only [List.map_cons, DataW.weightsEach]
    exact List.mem_append_left _ hn
theorem OpensFieldsB.cons {f : Field} {fs : List Field} {o : Nat} {α β : Type} {r : Rep α} {s : Rep β} {bd : α → Prop} {be : β → Prop} (h : OpensB enc P w f.type r bd) (ho : f.offset = o) (hs : OpensFieldsB enc P w fs (o + r.size) s be) : OpensFieldsB enc P w (f :: fs) o (prodR r s) (fun p => bd p.1 ∧ be p.2) := by
  intro fuel cs xs hl hf hx hz
  have h0 := hf 0 f rfl
  cases xs with
  | nil => simp at hx
  | cons x xs =>
    rw [List.getElem?_cons_zero, ho, h.1] at h0
    simp only [List.map_cons, DataW.weightsEach] at hz
    obtain ⟨a, ha, hba⟩ := h.2 _ _ _ h0 fun n hn => hz n (List.mem_append_left _ hn)
    have hl' : cs.length = o + (r.size + s.size) := hl
    obtain ⟨b, hb, hbb⟩ := hs fuel cs xs (by omega) (fun i g hg => by have := hf (i + 1) g (by simpa using hg); simpa using this) (by simp at hx; omega) fun n hn => hz n (List.mem_append_right _ hn)
    refine ⟨(a, b), ⟨_, _, ?_, ha, hb⟩, hba, hbb⟩
    rw [← List.drop_drop]
    exact (List.take_append_drop _ _).symm
theorem OpensB.struct {t : TypeId} {fs : Array Field} {α : Type} {r : Rep α} {bd : α → Prop} (ht : P.underlying t = some (.struct fs)) (hc : P.cellsOf t = r.size) (h : OpensFieldsB enc P w fs.toList 0 r bd) : OpensB enc P w t r bd := by
  refine ⟨hc, fun fuel cs x hx hz => ?_⟩
  obtain ⟨xs, n, _, hx1, hl, hxl, hf⟩ := DataW.trod_struct ht hx
  have hx2 : x.1 = .agg (xs.map (·.1)) := by rw [hx1]
  rw [hx2] at hz
  unfold DataW.weights at hz
  rw [ht] at hz
  simp only at hz
  have := h n cs xs (by omega) (fun i f hi => hf i f (by simpa using hi)) (by simp [hxl]) hz
  simpa using this
/-- An argument of the row, opened. -/
theorem OpensB.arg {t : TypeId} {α : Type} {r : Rep α} {bd : α → Prop} (h : OpensB enc P w t r bd) {v : Value} {d : DataW H} {p : List MemPlace} (ht : DataW.Trod enc P w 0 (fun _ => true) true t v d p) (hz : ∀ n ∈ d.weights P t, n ≤ reachBytes) (hv : r.size = 1 → v.cells = #[v]) : ∃ a, r.val w a v ∧ bd a := by
  obtain ⟨fuel, hf⟩ := ht
  obtain ⟨a, ha, hb⟩ := h.2 _ _ _ hf hz
  exact ⟨a, ⟨ha, hv⟩, hb⟩
/-- The weights of argument j. -/
theorem weights_at {ts : List TypeId} {ds : List (DataW H)} (h : (DataW.weightsEach P ts ds).all (· ≤ reachBytes) = true) (j : Nat) {t : TypeId} {d : DataW H} (ht : ts[j]? = some t) (hd : ds[j]? = some d) : ∀ n ∈ d.weights P t, n ≤ reachBytes := by
  intro n hn
  have := List.all_eq_true.1 h n (DataW.weights_mem_each ht hd n hn)
  simpa using this
theorem wrap_sized {a : Assume} {C : Checked} {os : Os} {f : FuncId} {fn : Func} {s : ChangeSpec} {conds : List PathCond} {apart fresh handsOn again : Bool} {X : World → Array Value → Prop}
    (hX : ∀ (w w' : World) (args : Array Value), w.heap = w'.heap → X w args → X w' args)
    (own : ownKnob C.prog.godebug = none) (started : os.Started) (noInit : C.prog.inits.idxOf? f = none) (hfn : C.prog.funcs[f]? = some fn)
    (witness : ∃ (w : World) (tape : Tape) (i : Input), w.os = os ∧ (w.forCall tape i).Shaped C.prog ∧ i.vars = [] ∧ Input.okWide C.prog (w.forCall tape i) .any w.heap.size f i ∧
      ((s.pre enc C.prog fn conds apart (w.forCall tape i).memory i.args ∧ X (w.forCall tape i).memory i.args) ∧ sizedMet enc C.prog fn (OpenSpec.ofChange s) apart (w.forCall tape i).memory i.args) ∧ a.holds C.prog (lone (Frame.enter C.prog f i.args .normal) [] (w.forCall tape i)))
    (contract : ∀ (W : World) (base : Nat) (args : Array Value) (ds gs : List (DataW H)) (before : List MemPlace),
      (∀ (j : Nat) t v, fn.params[j]? = some t → args[j]? = some v → Value.okWide C.prog W .any base t v) →
      DataW.Whole enc C.prog fn.params.toList s.vars apart W args.toList ds gs before →
      conds.all (PathCond.test C.prog ⟨fn.params.toList, ds, s.plain.varTypes C.prog, gs⟩) = true →
      X W args → W.ShapedOpen C.prog →
      (DataW.weightsEach C.prog (fn.params.toList ++ (OpenSpec.ofChange s).bare.plain.varTypes C.prog) (ds ++ gs)).all (· ≤ reachBytes) = true →
      Calls C.prog f args W fun e W' => ∃ v, e = .returned v ∧ s.post enc C.prog fn apart fresh handsOn again W args v W') :
    ReturnsInHanded a C os f .any (fun w args => (s.pre enc C.prog fn conds apart w args ∧ X w args) ∧ sizedMet enc C.prog fn (OpenSpec.ofChange s) apart w args) (s.post enc C.prog fn apart fresh handsOn again) := by
  refine returnsInHanded_of_calls own started noInit witness ?_
  intro w tape i _ hsh _ hok hpre _
  obtain ⟨_, _, _, fn', hfn', _, _, _, _, hval⟩ := hok
  have e : fn' = fn := Option.some.inj (hfn'.symm.trans hfn)
  subst e
  obtain ⟨⟨⟨ds, gs, before, hw, hc⟩, hx⟩, hsz⟩ := hpre
  have hw' := DataW.Whole.of_heap (w' := w.forCall tape i) (by rfl) hw
  refine (contract (w.forCall tape i) w.heap.size i.args ds gs before hval hw' hc (hX _ _ _ (by rfl) hx) hsh (sizedMet.weights hsz hw)).mono fun e W' ⟨v, he, hp⟩ => ?_
  subst he
  exact ChangeSpec.post_blind hp
theorem laidMetH_laidAll {P : Program} {os : Os} {laid : List (String × DataW Unit)} (args : Array Value) (hp : (laid.filter fun x => x.2.handleName?.isSome) = [])
    (hf : (World.holding P os ⟨#[], #[], []⟩).layFits P laid [] = true)
    (hi : (World.holding P os ⟨#[], #[], []⟩).layIfaces P laid (World.laidAll P os laid) = true) :
    laidMetH P laid ((World.laidAll P os laid).forCall (fun _ _ => 0) ⟨#[], args, []⟩).memory := by
  unfold laidMetH
  rw [hp]
  exact laidMet_laidAll args hf hi
end
end Go.Proofs.YtfbhchpbflaphaaGreatDoor

/- What the arguments read as; the cell that strings.Split reads: the frame of the cards of chapter 11. -/
namespace Go.Proofs.YtfbhchpbflaphaaGreatDoor
open Go.RowKit

abbrev CaseT := ByteArray × (List C.Mem × (List L.Shelf × List L.Libr))
def caseR : Rep CaseT := prodR strR (prodR (sliceR memR) (prodR (sliceR shelfR) (sliceR librR)))
def BdCs (c : CaseT) : Prop := BdC c.2.1 c.2.2.1
theorem OpensB.mono {H : Type} {enc : TypeId × Value → H} {P : Program} {w : World} {t : TypeId} {α : Type} {r : Rep α} {bd be : α → Prop} (h : OpensB enc P w t r bd) (hb : ∀ a, bd a → be a) : OpensB enc P w t r be :=
  ⟨h.1, fun fuel cs x hx hz => by obtain ⟨a, ha, hba⟩ := h.2 fuel cs x hx hz; exact ⟨a, ha, hb a hba⟩⟩
section
variable {H : Type} {enc : TypeId × Value → H} {w : World}
theorem op9 : OpensB enc Tryz.prog w 9 strR (fun s => s.size ≤ 140737488351232) := OpensB.str Tryz.underlying9 (by kernel_rfl)
theorem op3 : OpensB enc Tryz.prog w 3 (intR .i64) (fun _ => True) := (Opens.int Tryz.underlying3 (by kernel_rfl)).toB
theorem op60 : OpensB enc Tryz.prog w 60 symR (fun p => p.1.size ≤ 140737488351232 ∧ True ∧ True) :=
  (OpensB.struct Tryz.underlying60 (by kernel_rfl) (.cons op9 rfl (.cons op3 rfl (.one op3 rfl)))).mono fun _ h => h
theorem op151 : OpensB enc Tryz.prog w 151 relR (fun p => True ∧ p.2.size ≤ 140737488351232) :=
  (OpensB.struct Tryz.underlying151 (by kernel_rfl) (.cons op3 rfl (.one op9 rfl))).mono fun _ h => h
theorem op53 : OpensB enc Tryz.prog w 53 (sliceR symR) (fun l => l.length ≤ 140737488351232) := (OpensB.slice Tryz.underlying53 (by kernel_rfl) (by decide) (of_decide_eq_true (by kernel_rfl)) op60).mono fun _ h => h.1
theorem op65 : OpensB enc Tryz.prog w 65 (sliceR relR) (fun l => l.length ≤ 140737488351232) := (OpensB.slice Tryz.underlying65 (by kernel_rfl) (by decide) (of_decide_eq_true (by kernel_rfl)) op151).mono fun _ h => h.1
theorem op67 : OpensB enc Tryz.prog w 67 secR (fun p => True ∧ p.2.1.size ≤ 140737488351232 ∧ p.2.2.length ≤ 140737488351232) :=
  (OpensB.struct Tryz.underlying67 (by kernel_rfl) (.cons op3 rfl (.cons op9 rfl (.one op65 rfl)))).mono fun _ h => h
theorem op54 : OpensB enc Tryz.prog w 54 (sliceR secR) (fun l => l.length ≤ 140737488351232 ∧ ∀ s ∈ l, s.2.1.size ≤ 140737488351232 ∧ s.2.2.length ≤ 140737488351232) := (OpensB.slice Tryz.underlying54 (by kernel_rfl) (by decide) (of_decide_eq_true (by kernel_rfl)) op67).mono fun _ h => ⟨h.1, fun s hs => (h.2 s hs).2⟩
theorem op56 : OpensB enc Tryz.prog w 56 objR BdO :=
  (OpensB.struct Tryz.underlying56 (by kernel_rfl) (.cons op53 rfl (.one op54 rfl))).mono fun _ h => ⟨h.1, h.2.1, h.2.2⟩
theorem op69 : OpensB enc Tryz.prog w 69 memR (fun p => BdO p.2) :=
  (OpensB.struct Tryz.underlying69 (by kernel_rfl) (.cons op9 rfl (.one op56 rfl))).mono fun _ h => h.2
theorem op22 : OpensB enc Tryz.prog w 22 (sliceR memR) BdM := (OpensB.slice Tryz.underlying22 (by kernel_rfl) (by decide) (of_decide_eq_true (by kernel_rfl)) op69).mono fun _ h => h
theorem op83 : OpensB enc Tryz.prog w 83 shelfR (fun p => BdM p.2) :=
  (OpensB.struct Tryz.underlying83 (by kernel_rfl) (.cons op9 rfl (.one op22 rfl))).mono fun _ h => h.2
theorem op23 : OpensB enc Tryz.prog w 23 (sliceR shelfR) (fun l => ∀ s ∈ l, BdM s.2) := (OpensB.slice Tryz.underlying23 (by kernel_rfl) (by decide) (of_decide_eq_true (by kernel_rfl)) op83).mono fun _ h => h.2
theorem op74 : OpensB enc Tryz.prog w 74 expR (fun _ => True) := (OpensB.struct Tryz.underlying74 (by kernel_rfl) (.cons op9 rfl (.one op3 rfl))).mono fun _ _ => trivial
theorem op32 : OpensB enc Tryz.prog w 32 (sliceR expR) (fun _ => True) := (OpensB.slice Tryz.underlying32 (by kernel_rfl) (by decide) (of_decide_eq_true (by kernel_rfl)) op74).mono fun _ _ => trivial
theorem op49 : OpensB enc Tryz.prog w 49 plcR (fun _ => True) := (OpensB.struct Tryz.underlying49 (by kernel_rfl) (.cons op9 rfl (.cons op9 rfl (.cons op3 rfl (.cons op3 rfl (.one op3 rfl)))))).mono fun _ _ => trivial
theorem op29 : OpensB enc Tryz.prog w 29 (sliceR plcR) (fun _ => True) := (OpensB.slice Tryz.underlying29 (by kernel_rfl) (by decide) (of_decide_eq_true (by kernel_rfl)) op49).mono fun _ _ => trivial
theorem op30 : OpensB enc Tryz.prog w 30 (sliceR (intR .i64)) (fun _ => True) := (OpensB.slice Tryz.underlying30 (by kernel_rfl) (by decide) (of_decide_eq_true (by kernel_rfl)) op3).mono fun _ _ => trivial
theorem op128 : OpensB enc Tryz.prog w 128 impR (fun _ => True) := (OpensB.struct Tryz.underlying128 (by kernel_rfl) (.cons op9 rfl (.cons op9 rfl (.one op3 rfl)))).mono fun _ _ => trivial
theorem op31 : OpensB enc Tryz.prog w 31 (sliceR impR) (fun _ => True) := (OpensB.slice Tryz.underlying31 (by kernel_rfl) (by decide) (of_decide_eq_true (by kernel_rfl)) op128).mono fun _ _ => trivial
theorem op130 : OpensB enc Tryz.prog w 130 noteR (fun _ => True) := (OpensB.struct Tryz.underlying130 (by kernel_rfl) (.cons op9 rfl (.one op9 rfl))).mono fun _ _ => trivial
theorem op33 : OpensB enc Tryz.prog w 33 (sliceR noteR) (fun _ => True) := (OpensB.slice Tryz.underlying33 (by kernel_rfl) (by decide) (of_decide_eq_true (by kernel_rfl)) op130).mono fun _ _ => trivial
theorem op35 : OpensB enc Tryz.prog w 35 binR (fun _ => True) := (OpensB.struct Tryz.underlying35 (by kernel_rfl) (.cons op3 rfl (.cons op3 rfl (.cons op9 rfl (.cons op29 rfl (.cons op30 rfl (.cons op31 rfl (.cons op32 rfl (.one op33 rfl))))))))).mono fun _ _ => trivial
theorem op86 : OpensB enc Tryz.prog w 86 librR (fun _ => True) := (OpensB.struct Tryz.underlying86 (by kernel_rfl) (.cons op9 rfl (.one op35 rfl))).mono fun _ _ => trivial
theorem op24 : OpensB enc Tryz.prog w 24 (sliceR librR) (fun _ => True) := (OpensB.slice Tryz.underlying24 (by kernel_rfl) (by decide) (of_decide_eq_true (by kernel_rfl)) op86).mono fun _ _ => trivial
theorem op26 : OpensB enc Tryz.prog w 26 caseR BdCs :=
  (OpensB.struct Tryz.underlying26 (by kernel_rfl) (.cons op9 rfl (.cons op22 rfl (.cons op23 rfl (.one op24 rfl))))).mono fun _ h => ⟨h.2.1, h.2.2.1⟩
end
theorem gl_of {W : World} (h : W.ShapedOpen Tryz.prog) (_ : (1 : Nat) = 1) {p : Prop} (_ : p) (_ : (1 : Nat) = 1) : Gl W := Tryz.laysM219.s1_3 W h
end Go.Proofs.YtfbhchpbflaphaaGreatDoor

/- The walk of LinkResolves. -/
namespace Go.Proofs.YtfbhchpbflaphaaGreatDoor
open Go.RowKit Go.Maps Go.ChangeMaps Go.Sort

theorem case_val {w : World} {v : Value} {c : CaseT} (hs : ∃ cs, v = .agg cs) (h : caseR.val w c v) :
    ∃ A a B b D d, v = .agg #[.string c.1, .slice A c.2.1.length a, .slice B c.2.2.1.length b, .slice D c.2.2.2.length d] ∧ c.1.size ≤ 9223372036854775807 ∧ SliceAt memR w (Old w) A a c.2.1 ∧ SliceAt shelfR w (Old w) B b c.2.2.1 ∧ SliceAt librR w (Old w) D d c.2.2.2 := by
  obtain ⟨cs, rfl⟩ := hs
  obtain ⟨⟨us, ys, he, ⟨rfl, hs⟩, us2, ys2, rfl, ⟨A, a, rfl, h1⟩, us3, ys3, rfl, ⟨B, b, rfl, h2⟩, D, d, rfl, h3⟩, _⟩ := h
  refine ⟨A, a, B, b, D, d, ?_, hs, h1, h2, h3⟩
  have : cs.toList = [.string c.1, .slice A c.2.1.length a, .slice B c.2.2.1.length b, .slice D c.2.2.2.length d] := he
  rw [show cs = cs.toList.toArray from Array.toArray_toList.symm, this]

set_option maxRecDepth 100000 in
set_option maxHeartbeats 4000000 in
theorem linkResolves_walk (v0 : Value) (c : CaseT) (w : World) (hg : Gl w) (h0 : ∃ cs, v0 = .agg cs) (r0 : caseR.val w c v0) (hb : BdCs c) : Calls Tryz.prog 5 #[v0] w (Al (.bool true) w) := by
  obtain ⟨A, a, B, b, D, d, rfl, hx, hA, hB, hD⟩ := case_val h0 r0
  obtain ⟨x, objs, sh, libs⟩ := c
  simp only at hx hA hB hD ⊢
  obtain ⟨n, hn⟩ : ∃ n, n = objs.length := ⟨_, rfl⟩
  obtain ⟨m, hm⟩ : ∃ m, m = sh.length := ⟨_, rfl⟩
  obtain ⟨q, hq⟩ : ∃ q, q = libs.length := ⟨_, rfl⟩
  rw [← hn, ← hm, ← hq]
  have HAW := Lib.hid (fun W (h : Ext w W) => awake_any W (hg.ext h))
  have HFW := Lib.hid (fun W (h : Ext w W) => few_any x objs sh libs A B D a b d n m q W hn (hA.ext h) hm (hB.ext h) hq (hD.ext h) hx hb)
  have HR1 := Lib.hid (fun (hf : FewC x objs sh libs) W (h : Ext w W) => Resolve_any x objs sh libs A B D a b d n m q W hn (hA.ext h) hm (hB.ext h) hq (hD.ext h) hf.ok hx (hg.ext h))
  have HR2 := Lib.hid (fun (hf : FewC x objs sh libs) W (h : Ext w W) => refResolve_any x objs sh libs A B D a b d n m q W hn (hA.ext h) hm (hB.ext h) hq (hD.ext h) hf.ok hx)
  generalize L.resolveL okN okP x objs sh libs = R at HR1 HR2
  obtain ⟨rn, rb, re⟩ := R
  unfold resV at HR1 HR2
  obtain ⟨W1, hW1⟩ : ∃ W1, W1 = w.alloc (.cells #[.string x, .slice A n a, .slice B m b, .slice D q d] 26) := ⟨_, rfl⟩
  have hb1 : W1.heap[w.heap.size]? = some (.cells #[.string x, .slice A n a, .slice B m b, .slice D q d] 26 (0, 0)) := by rw [hW1]; exact heap_alloc_new w _
  have HX1 : Hid (Ext w W1) := by rw [hW1]; exact (Ext.refl w).alloc _
  have HB1 := Lib.hid hb1
  clear hn hm hq hA hB hD h0 r0 hg hb hx hb1
  go_enter Tryz.func5, Tryz.ntmps5
  go_upto_region 1 with (fail)
  rw [← hW1]
  clear hW1
  go_wp2_with fail
  refine (HAW.out _ HX1.out).mono ?_
  rintro e w2 ⟨rfl, d2⟩
  have hb2 := (d2.block _ (Array.getElem?_eq_some_iff.1 HB1.out).1).trans HB1.out
  have c0 : w2.cell? ⟨w.heap.size, 0, none⟩ = _ := cell_of_row w2 _ 0 _ _ _ hb2
  have c1 : w2.cell? ⟨w.heap.size, 1, none⟩ = _ := cell_of_row w2 _ 1 _ _ _ hb2
  have c2 : w2.cell? ⟨w.heap.size, 2, none⟩ = _ := cell_of_row w2 _ 2 _ _ _ hb2
  have c3 : w2.cell? ⟨w.heap.size, 3, none⟩ = _ := cell_of_row w2 _ 3 _ _ _ hb2
  have HX2 := Lib.hid (HX1.out.trans d2)
  have HB2 := Lib.hid hb2
  clear d2 hb2
  go_wp2_with fail
  refine (HFW.out _ HX2.out).mono ?_
  rintro e w3 ⟨d3, fb, rfl, hfb⟩
  have HX3 := Lib.hid (HX2.out.trans d3)
  cases fb with
  | false =>
    clear hfb d3 c0 c1 c2 c3
    go_wp2_with fail
    go_ret
    exact ⟨rfl, HX3.out⟩
  | true =>
    have HF := Lib.hid (hfb rfl)
    have hb3 := (d3.block _ (Array.getElem?_eq_some_iff.1 HB2.out).1).trans HB2.out
    clear hfb d3 c0 c1 c2 c3
    have c0 : w3.cell? ⟨w.heap.size, 0, none⟩ = _ := cell_of_row w3 _ 0 _ _ _ hb3
    have c1 : w3.cell? ⟨w.heap.size, 1, none⟩ = _ := cell_of_row w3 _ 1 _ _ _ hb3
    have c2 : w3.cell? ⟨w.heap.size, 2, none⟩ = _ := cell_of_row w3 _ 2 _ _ _ hb3
    have c3 : w3.cell? ⟨w.heap.size, 3, none⟩ = _ := cell_of_row w3 _ 3 _ _ _ hb3
    have HB3 := Lib.hid hb3
    clear hb3
    go_wp2_with fail
    refine (HR1.out HF.out _ HX3.out).mono ?_
    rintro e w4 ⟨rfl, d4⟩
    have hb4 := (d4.block _ (Array.getElem?_eq_some_iff.1 HB3.out).1).trans HB3.out
    have HX4 := Lib.hid (HX3.out.trans d4)
    clear d4 c0 c1 c2 c3
    have c0 : w4.cell? ⟨w.heap.size, 0, none⟩ = _ := cell_of_row w4 _ 0 _ _ _ hb4
    have c1 : w4.cell? ⟨w.heap.size, 1, none⟩ = _ := cell_of_row w4 _ 1 _ _ _ hb4
    have c2 : w4.cell? ⟨w.heap.size, 2, none⟩ = _ := cell_of_row w4 _ 2 _ _ _ hb4
    have c3 : w4.cell? ⟨w.heap.size, 3, none⟩ = _ := cell_of_row w4 _ 3 _ _ _ hb4
    clear hb4
    go_wp2_with fail
    refine (HR2.out HF.out _ HX4.out).mono ?_
    rintro e w5 ⟨rfl, d5⟩
    have HX5 := Lib.hid (HX4.out.trans d5)
    clear d5 c0 c1 c2 c3
    go_wp2_with fail
    go_ret
    exact ⟨rfl, HX5.out⟩
end Go.Proofs.YtfbhchpbflaphaaGreatDoor

/- What Resolve finds: plain facts for LinkFound. -/
namespace Go.Proofs.YtfbhchpbflaphaaGreatDoor
open Go.RowKit Go.Maps Go.ChangeMaps

def cntB {α : Type} (p : α → Bool) (l : List α) : Nat := (l.filter p).length
theorem cnt_succ {α : Type} {p : α → Bool} {l : List α} {k : Nat} (h : k < l.length) : cntB p (l.take (k + 1)) = cntB p (l.take k) + (if p l[k] = true then 1 else 0) := by
  unfold cntB
  rw [List.take_succ_eq_append_getElem h, List.filter_append, List.length_append]
  by_cases hp : p l[k] = true
  · rw [if_pos hp, List.filter_cons_of_pos hp]; rfl
  · rw [if_neg hp, List.filter_cons_of_neg hp]; rfl
theorem cnt_le {α : Type} {p : α → Bool} {l : List α} : cntB p l ≤ l.length := List.length_filter_le _ _
theorem cnt_zero {α : Type} {p : α → Bool} {l : List α} (h : ∀ a ∈ l, p a = false) : cntB p l = 0 := by
  unfold cntB
  rw [List.filter_eq_nil_iff.2 fun a ha => by rw [h a ha]; exact Bool.false_ne_true]
  rfl
theorem cnt_pos {α : Type} {p : α → Bool} {l : List α} {a : α} (ha : a ∈ l) (h : p a = true) : 0 < cntB p l := List.length_pos_iff.2 (List.ne_nil_of_mem (List.mem_filter.2 ⟨ha, h⟩))
theorem cnt_one {α : Type} {p : α → Bool} : ∀ {l : List α}, (∀ i j (_ : i < l.length) (_ : j < l.length), p l[i] = true → p l[j] = true → i = j) → cntB p l ≤ 1
  | [], _ => Nat.zero_le _
  | a :: l, h => by
    by_cases hp : p a = true
    · have hz : cntB p l = 0 := cnt_zero fun b hb => by
        obtain ⟨i, hi, rfl⟩ := List.getElem_of_mem hb
        rw [Bool.eq_false_iff]
        intro hb
        have := h 0 (i + 1) (by simp) (by simpa using hi) hp (by simpa using hb)
        omega
      unfold cntB at hz ⊢
      rw [List.filter_cons_of_pos hp, List.length_cons, hz]
      exact Nat.le_refl _
    · have ih := cnt_one (l := l) fun i j hi hj h1 h2 => by
        have := h (i + 1) (j + 1) (by simpa using hi) (by simpa using hj) (by simpa using h1) (by simpa using h2)
        omega
      unfold cntB at ih ⊢
      rw [List.filter_cons_of_neg hp]
      exact ih
theorem cnt_two {α : Type} {p : α → Bool} : ∀ {l : List α} {i j : Nat} (hi : i < l.length) (hj : j < l.length), i < j → p l[i] = true → p l[j] = true → 2 ≤ cntB p l
  | a :: l, 0, j + 1, _, hj, _, h1, h2 => by
    have h3 : 0 < cntB p l := cnt_pos (List.getElem_mem (by simpa using hj)) (by simpa using h2)
    unfold cntB at h3 ⊢
    rw [List.filter_cons_of_pos (by simpa using h1), List.length_cons]
    omega
  | a :: l, i + 1, j + 1, hi, hj, hij, h1, h2 => by
    have ih := cnt_two (l := l) (i := i) (j := j) (by simpa using hi) (by simpa using hj) (by omega) (by simpa using h1) (by simpa using h2)
    unfold cntB at ih ⊢
    by_cases hp : p a = true
    · rw [List.filter_cons_of_pos hp, List.length_cons]; omega
    · rw [List.filter_cons_of_neg hp]; exact ih
def hasM (x : ByteArray) (md : Int) (m : C.Mem) : Bool := decide (L.modeP m.2 x = md)
/-- How many objects export it, define it weakly; how many members define it. -/
def n1 (E : L.Env) (x : ByteArray) : Nat := cntB (hasM x 1) E.objs
def n2 (E : L.Env) (x : ByteArray) : Nat := cntB (hasM x 2) E.objs
def n3 (E : L.Env) (x : ByteArray) : Nat := cntB (L.isDef x) E.mems
section
variable {E : L.Env} {x : ByteArray}
theorem def_no {m : C.Mem} (h : L.isDef x m = false) : hasM x 1 m = false ∧ hasM x 2 m = false := by
  unfold L.isDef at h
  unfold hasM
  simpa using h
theorem found_twice (h : L.hit E x = .twice) : 1 < n1 E x := by
  have hi := L.hit_is E x
  rw [h] at hi
  obtain ⟨j, k, hj, hk, hjk, h1, h2⟩ := hi
  exact cnt_two hj hk hjk (decide_eq_true h1) (decide_eq_true h2)
theorem none_objs (h : ∀ o ∈ E.objs, L.isDef x o = false) : n1 E x = 0 ∧ n2 E x = 0 := ⟨cnt_zero fun o ho => (def_no (h o ho)).1, cnt_zero fun o ho => (def_no (h o ho)).2⟩
theorem found_unknown (h : L.hit E x = .unknown) : n1 E x = 0 ∧ n2 E x = 0 ∧ n3 E x = 0 := by
  have hi := L.hit_is E x
  rw [h] at hi
  exact ⟨(none_objs hi.1).1, (none_objs hi.1).2, cnt_zero hi.2.1⟩
theorem found_lib {j : Nat} (h : L.hit E x = .lib j) : n1 E x = 0 ∧ n2 E x = 0 ∧ n3 E x = 0 := by
  have hi := L.hit_is E x
  rw [h] at hi
  exact ⟨(none_objs hi.1).1, (none_objs hi.1).2, cnt_zero hi.2.1⟩
/-- In an object, or in a member. -/
theorem found_unit {u m : Nat} (h : L.hit E x = .unit u m) : ∃ hu : u < E.units.length, n1 E x ≤ 1 ∧ ((u < E.objs.length ∧ 0 < n1 E x + n2 E x ∧ (L.modeP E.units[u].2 x = 1 ∨ (L.modeP E.units[u].2 x = 2 ∧ n1 E x = 0))) ∨
    (E.objs.length ≤ u ∧ n1 E x = 0 ∧ n2 E x = 0 ∧ (L.modeP E.units[u].2 x = 1 ∨ L.modeP E.units[u].2 x = 2))) := by
  have hi := L.hit_is E x
  rw [h] at hi
  rcases hi with ⟨hu, _, hm⟩ | ⟨h1, i, hi, rfl, _, h2, _⟩
  · have hul : u < E.units.length := by unfold L.Env.units; rw [List.length_append]; omega
    have e : E.units[u] = E.objs[u] := by have := L.units_left hu; rw [List.getElem?_eq_getElem hul] at this; exact Option.some.inj this
    refine ⟨hul, ?_⟩
    rw [e]
    refine ⟨?_, .inl ⟨hu, ?_, ?_⟩⟩
    · refine cnt_one fun i j hi hj h1 h2 => ?_
      have h1 := of_decide_eq_true h1
      have h2 := of_decide_eq_true h2
      rcases hm with ⟨_, h3⟩ | ⟨_, h3⟩
      · rw [h3 i hi h1, h3 j hj h2]
      · exact absurd h1 (h3 i hi)
    · rcases hm with ⟨h3, _⟩ | ⟨h3, _⟩
      · have : 0 < n1 E x := cnt_pos (List.getElem_mem hu) (decide_eq_true h3)
        omega
      · have : 0 < n2 E x := cnt_pos (List.getElem_mem hu) (decide_eq_true h3)
        omega
    · rcases hm with ⟨h3, _⟩ | ⟨h3, h4⟩
      · exact .inl h3
      · exact .inr ⟨h3, cnt_zero fun o ho => by obtain ⟨j, hj, rfl⟩ := List.getElem_of_mem ho; exact decide_eq_false (h4 j hj)⟩
  · have hul : E.objs.length + i < E.units.length := by unfold L.Env.units; rw [List.length_append]; omega
    have e : E.units[E.objs.length + i] = E.mems[i] := by have := L.units_right hi; rw [List.getElem?_eq_getElem hul] at this; exact Option.some.inj this
    refine ⟨hul, ?_⟩
    rw [e]
    obtain ⟨h3, h4⟩ := none_objs h1
    exact ⟨by omega, .inr ⟨by omega, h3, h4, L.isDef_mode h2⟩⟩
end
/-- Whether an object has an exported or weak symbol of that name. -/
theorem exp_mem {o : C.Obj} (h : C.checkB okN o = true) (x : ByteArray) : x.data.toList ∈ (expL o.1).foldl C.insB [] ↔ (L.modeP o x = 1 ∨ L.modeP o x = 2) := by
  have h1 := (C.foldl_ins (expL o.1) [] List.Pairwise.nil).2 x.data.toList
  rw [h1]
  simp only [List.not_mem_nil, false_or]
  have hn := (L.check_parts h).2.2.1
  rw [C.namesB_iff] at hn
  unfold expL L.modeP
  constructor
  · intro hm
    obtain ⟨s, hs, e⟩ := List.mem_map.1 hm
    obtain ⟨hs1, hs2⟩ := List.mem_filter.1 hs
    obtain ⟨i, hi, rfl⟩ := List.getElem_of_mem hs1
    have h2 := (hn i hi).2
    rw [e] at h2
    have h3 : L.symP o x = some o.1[i] := by unfold L.symP; rw [h2, Option.bind_some, List.getElem?_eq_getElem hi]
    rw [h3]
    simpa using hs2
  · intro hm
    cases hs : L.symP o x with
    | none => rw [hs] at hm; simp at hm
    | some s =>
      rw [hs] at hm
      obtain ⟨h2, h3⟩ := L.symP_mem hs
      exact List.mem_map.2 ⟨s, List.mem_filter.2 ⟨h2, by simpa using hm⟩, h3⟩
end Go.Proofs.YtfbhchpbflaphaaGreatDoor

/- objectOf; slices.ContainsFunc of members; slices.Contains of own strings. -/
namespace Go.Proofs.YtfbhchpbflaphaaGreatDoor
open Go.RowKit Go.Maps Go.ChangeMaps


/-- The first k elements have not the quality. -/
def noQmb (q : C.Mem → Bool) (t : List C.Mem) (k : Nat) : Prop := ∀ i (h : i < t.length), i < k → q t[i] = false
set_option maxRecDepth 8000 in
set_option maxHeartbeats 2000000 in
theorem IndexFunc_mb (q : C.Mem → Bool) (g bp0 : Nat) (eg : ∀ (args : Array Value) (w : World), (callFunc g args).run Tryz.prog w = .ok (.enter g args) w) (t : List C.Mem) (A : Option Addr) (c n : Nat) (w : World) (hn : n = t.length) (hA : SliceAt memR w (Old w) A c t)
    (hc : ∀ f ∈ t, ∀ W v, Ext w W → Hid (∃ TA tc TB td, v = .agg #[.string f.1, .slice TA f.2.1.length tc, .slice TB f.2.2.length td]) → Calls Tryz.prog g #[v, .pointer (some ⟨bp0, 0, none⟩)] W (Al (.bool (q f)) W)) :
    Calls Tryz.prog 74 #[.slice A n c, .func (.func g) #[] #[.pointer (some ⟨bp0, 0, none⟩)]] w (Al (.int .i64 (idxI (t.findIdx? q))) w) := by
  have hn2 : n ≤ 9223372036854775807 := by have := hA.1; have := hA.2.1; omega
  have HN := Lib.hid hn
  have HA := Lib.hid hA
  obtain ⟨R, hR⟩ : ∃ R, R = idxI (t.findIdx? q) := ⟨_, rfl⟩
  rw [← hR]
  have HR := Lib.hid hR
  have HC1 := Lib.hid hc
  clear hn hA hc hR
  go_enter Tryz.func74, Tryz.ntmps74
  go_wp2_with fail
  go_loopw [5, 8] (fun _ i wr => ∃ k : Nat, k ≤ n ∧ i = .int .i64 k ∧ Hid (noQmb q t k ∧ Ext w wr)) (fun _ i _ => n - (intOf i).toNat)
  case atStart => exact ⟨0, Nat.zero_le _, rfl, fun _ _ h => absurd h (Nat.not_lt_zero _), Ext.refl w⟩
  case round =>
    obtain ⟨k, hk, rfl, HK⟩ := hrel
    by_cases hlt : k < n
    · have hkl : k < t.length := by rw [← HN.out]; exact hlt
      obtain ⟨b, off, s, TA, tc, TB, td, hAe, hb, hms, hss, hTA, hTB, c0, c1, c2⟩ := mem_getB (HA.out.ext HK.out.2) hkl
      subst hAe; rw [← hms] at c0; have HEL : Hid (∃ TA' tc' TB' td', Value.agg #[.string t[k].1, .slice TA t[k].2.1.length tc, .slice TB t[k].2.2.length td] = .agg #[.string t[k].1, .slice TA' t[k].2.1.length tc', .slice TB' t[k].2.2.length td']) := ⟨_, _, _, _, rfl⟩; clear hms hss hTA hTB hb
      have HY : Hid (q t[k] = true → R = (k : Int)) := fun he => by
        rw [HR.out, List.findIdx?_eq_some_iff_getElem.2 ⟨hkl, he, fun j hj => by rw [HK.out.1 j (by omega) hj]; exact Bool.false_ne_true⟩]; rfl
      have HNO : Hid (q t[k] = false → noQmb q t (k + 1)) := fun he i hi hik => by
        by_cases e : i = k
        · subst e; exact he
        · exact HK.out.1 i hi (by omega)
      have HX := Lib.hid HK.out.2
      have HCALL := Lib.hid (HC1.out t[k] (List.getElem_mem hkl) wr _ HK.out.2 HEL)
      clear HK HEL
      generalize q t[k] = bb at HY HNO HCALL
      cases bb
      · have HQ := Lib.hid (HNO.out rfl)
        clear HY HNO
        go_wp2_with (go_at_fn g; refine HCALL.out.mono ?_; rintro e w1 ⟨rfl, d1⟩)
        go_roundw
        case rel => exact ⟨k + 1, by omega, by go_num, HQ.out, HX.out.trans d1⟩
        case measure => simp [intOf]; omega
      · have HQ := Lib.hid (HY.out rfl)
        clear HY HNO
        go_wp2_with (go_at_fn g; refine HCALL.out.mono ?_; rintro e w1 ⟨rfl, d1⟩)
        go_ret
        exact ⟨by rw [HQ.out]; rfl, HX.out.trans d1⟩
    · have HQ : Hid (R = -1) := by
        unfold Hid
        rw [HR.out, List.findIdx?_eq_none_iff.2 fun x hx => by
          obtain ⟨i, hi, rfl⟩ := List.getElem_of_mem hx
          exact HK.out.1 i hi (by have := HN.out; omega)]
        rfl
      have HX := Lib.hid HK.out.2
      have hdk : decide (k < n) = false := decide_eq_false hlt
      clear HK hk
      go_wp2_with fail
      go_ret
      exact ⟨by rw [HQ.out]; rfl, HX.out⟩
set_option maxRecDepth 8000 in
theorem ContainsFunc_mb (q : C.Mem → Bool) (g bp0 : Nat) (eg : ∀ (args : Array Value) (w : World), (callFunc g args).run Tryz.prog w = .ok (.enter g args) w) (t : List C.Mem) (A : Option Addr) (c n : Nat) (w : World) (hn : n = t.length) (hA : SliceAt memR w (Old w) A c t)
    (hc : ∀ f ∈ t, ∀ W v, Ext w W → Hid (∃ TA tc TB td, v = .agg #[.string f.1, .slice TA f.2.1.length tc, .slice TB f.2.2.length td]) → Calls Tryz.prog g #[v, .pointer (some ⟨bp0, 0, none⟩)] W (Al (.bool (q f)) W)) :
    Calls Tryz.prog 36 #[.slice A n c, .func (.func g) #[] #[.pointer (some ⟨bp0, 0, none⟩)]] w (Al (.bool (t.any q)) w) := by
  have HI := Lib.hid (IndexFunc_mb q g bp0 eg t A c n w hn hA hc)
  have he : decide (0 ≤ idxI (t.findIdx? q)) = t.any q := by
    cases h : t.findIdx? q with
    | none =>
      rw [List.findIdx?_eq_none_iff] at h
      have : t.any q = false := by rw [List.any_eq_false]; intro x hx; rw [h x hx]; exact Bool.false_ne_true
      rw [this]
      rfl
    | some i =>
      rw [List.findIdx?_eq_some_iff_getElem] at h
      obtain ⟨hi, h1, _⟩ := h
      have : t.any q = true := by rw [List.any_eq_true]; exact ⟨_, List.getElem_mem hi, h1⟩
      rw [this]
      simp [idxI]
  generalize idxI (t.findIdx? q) = R at HI he
  generalize t.any q = bb at he
  clear hn hA hc eg
  go_enter Tryz.func36, Tryz.ntmps36
  go_wp2_with fail
  refine HI.out.mono ?_
  rintro e w1 ⟨rfl, d1⟩
  have X1 := Lib.hid d1
  clear d1
  go_wp2_with fail
  go_ret
  exact ⟨by simp, X1.out⟩

theorem eg37 : ∀ (args : Array Value) (w : World), (callFunc 37 args).run Tryz.prog w = .ok (.enter 37 args) w := enters_of Tryz.func37 (by kernel_rfl) rfl
set_option maxHeartbeats 400000 in
theorem ismb_any (m : C.Mem) (x : ByteArray) (TA TB : Option Addr) (tc td : Nat) (bp : Nat) (w : World) (c1 : w.cell? ⟨bp, 0, none⟩ = some (.string x)) :
    Calls Tryz.prog 37 #[.agg #[.string m.1, .slice TA m.2.1.length tc, .slice TB m.2.2.length td], .pointer (some ⟨bp, 0, none⟩)] w (Al (.bool (m.1.data.toList == x.data.toList)) w) := by
  have d1 := alloc_keepc (.cells #[.string m.1, .slice TA m.2.1.length tc, .slice TB m.2.2.length td] 69) c1
  have d0 : (w.alloc (.cells #[.string m.1, .slice TA m.2.1.length tc, .slice TB m.2.2.length td] 69)).cell? ⟨w.heap.size, 0, none⟩ = some (.string m.1) := cell_new w _ 69 0
  have he : (m.1.toList == x.toList) = (m.1.data.toList == x.data.toList) := by rw [ByteArray.toList_eq, ByteArray.toList_eq]
  have HX : Hid (Ext w (w.alloc (.cells #[.string m.1, .slice TA m.2.1.length tc, .slice TB m.2.2.length td] 69))) := (Ext.refl w).alloc _
  generalize (m.1.data.toList == x.data.toList) = bb at he ⊢
  generalize m.1 = s at *
  generalize m.2.1.length = n1 at *
  generalize m.2.2.length = n2 at *
  go_enter Tryz.func37, Tryz.ntmps37
  go_wp2_with fail
  go_ret
  exact ⟨by first | rfl | simp [he], HX.out⟩
theorem inside_any (l : List C.Mem) (A : Option Addr) (c n bp : Nat) (x : ByteArray) (w : World) (hn : n = l.length) (hA : SliceAt memR w (Old w) A c l) (c1 : w.cell? ⟨bp, 0, none⟩ = some (.string x)) :
    Calls Tryz.prog 36 #[.slice A n c, .func (.func 37) #[] #[.pointer (some ⟨bp, 0, none⟩)]] w (Al (.bool (l.any fun y => y.1.data.toList == x.data.toList)) w) :=
  ContainsFunc_mb (fun y => y.1.data.toList == x.data.toList) 37 bp eg37 l A c n w hn hA fun f _ W v hW hv => by
    obtain ⟨TA, tc, TB, td, rfl⟩ := hv.out
    exact ismb_any f x TA TB tc td bp W (hW.keepc c1)
/-- Whether a list of the call's own has a string. -/
theorem contains_own (l : List C.Bs) (v : Value) (n base : Nat) (x : ByteArray) (w : World) (h : OwnS w base v n l) (hn : n ≤ 100000) : Calls Tryz.prog 35 #[v, .string x] w fun e w' => e = .returned (.bool (decide (x.data.toList ∈ l))) ∧ w' = w := by
  by_cases h0 : n = 0
  · have hl : l = [] := List.eq_nil_of_length_eq_zero (by rw [← h.1, h0])
    obtain ⟨A, c, rfl, _, _⟩ := h.form2
    subst h0 hl
    refine (Tryz.slices_Contains_string_empty A c x w).mono ?_
    rintro e w' ⟨rfl, rfl⟩
    exact ⟨by simp, rfl⟩
  · obtain ⟨g, off, cap, rfl, _, _, _, _, hc⟩ := h.2.cells (by omega)
    have hz : ∀ j, j < (l.map mkN).length → w.cell? ⟨g, off + j, none⟩ = some (.string ((l.map mkN).getD j ByteArray.empty)) := fun j hj => by
      have hj' : j < l.length := by simpa using hj
      have h1 := hc j (encStr l[j]) (by rw [List.getElem?_map, List.getElem?_eq_getElem hj']; rfl)
      rw [h1, List.getD_eq_getElem?_getD, List.getElem?_map, List.getElem?_eq_getElem hj']
      rfl
    refine (Tryz.slices_Contains_string g off n cap (l.map mkN) x w (by rw [List.length_map, ← h.1]; exact Nat.le_refl _) (by omega) hz).mono ?_
    rintro e w' ⟨rfl, rfl⟩
    refine ⟨?_, rfl⟩
    have e1 : (l.map mkN).take n = l.map mkN := List.take_of_length_le (by rw [List.length_map, ← h.1]; exact Nat.le_refl _)
    have e2 : Lib.containsS ((l.map mkN).take n) x = decide (x.data.toList ∈ l) := by
      rw [e1, Bool.eq_iff_iff, Lib.containsS_iff, decide_eq_true_iff, List.mem_map]
      constructor
      · rintro ⟨b, hb, rfl⟩
        have : (mkN b).data.toList = b := by simp [mkN]
        rw [this]; exact hb
      · intro hm
        refine ⟨_, hm, ?_⟩
        show (⟨x.data.toList.toArray⟩ : ByteArray) = x
        rw [Array.toArray_toList]
    rw [e2]
end Go.Proofs.YtfbhchpbflaphaaGreatDoor

/- objectOf. -/
namespace Go.Proofs.YtfbhchpbflaphaaGreatDoor
open Go.RowKit Go.Maps Go.ChangeMaps

def RetOb (w : World) (o : C.Obj) (e : Ending) (w' : World) : Prop := Ext w w' ∧ ∃ SA sc SB sd, e = .returned (.tuple #[.agg #[.slice SA o.1.length sc, .slice SB o.2.length sd], .bool true]) ∧ SliceAt symR w' (Old w') SA sc o.1 ∧ SliceAt secR w' (Old w') SB sd o.2
theorem size56 : (Tryz.prog.info? 56).map (·.size) = some 2 := by kernel_rfl
theorem ret_ob {fn : Func} (h : fn.results = #[.cell 4 56, .tmp 5]) {a : Act} {w wr : World} {g : Nat} {o : C.Obj} {SA SB : Option Addr} {tl ul sc sd : Nat} {o0 o1 : Value} (hx : Ext w wr) (hg : w.heap.size ≤ g) (hr : wr.heap[g]? = some (.cells #[o0, o1] 56 (0, 0))) (hp : a.tmps.getD 4 undef = .pointer (some ⟨g, 0, none⟩)) (hu : a.tmps.getD 5 undef = .bool true) (hd : a.defers = [])
    (hA : SliceAt symR w (Old w) SA sc o.1) (hB : SliceAt secR w (Old w) SB sd o.2) (htl : tl = o.1.length) (hul : ul = o.2.length) :
    bodyPost Tryz.prog fn (RetOb w o) .ret a ((wr.setCell ⟨g, 0, none⟩ (.slice SA tl sc)).setCell ⟨g, 1, none⟩ (.slice SB ul sd)) := by
  subst htl hul
  have hr2 := heap_setCell_cells (heap_setCell_cells hr 0 (.slice SA o.1.length sc)) 1 (.slice SB o.2.length sd)
  have hT : Tch (fun i => i = g) wr ((wr.setCell ⟨g, 0, none⟩ (.slice SA o.1.length sc)).setCell ⟨g, 1, none⟩ (.slice SB o.2.length sd)) := (grown_tch (grownBy_setCell wr ⟨g, 0, none⟩ _)).trans (grown_tch (grownBy_setCell _ ⟨g, 1, none⟩ _))
  have hE := ((hx.tch fun _ => False).trans' hT fun i hi e => absurd hi (by omega)).ext fun _ _ h => h
  refine bodyPost_ret (results_one h a.tmps _ g 56 _ (0, 0) _ hp hr2 Tryz.underlying56 rfl size56) hd ?_
  rw [hu]
  exact ⟨hE, SA, sc, SB, sd, rfl, hA.ext hE, hB.ext hE⟩
theorem bytes_eq {a b : ByteArray} : (a.toList == b.toList) = decide (a.data.toList = b.data.toList) := by rw [ByteArray.toList_eq, ByteArray.toList_eq, Bool.eq_iff_iff]; simp
theorem memsOf_get {sh : List L.Shelf} {i j : Nat} (hi : i < sh.length) (hj : j < sh[i].2.length) : (L.memsOf sh)[(L.memsOf (sh.take i)).length + j]? = some (L.full sh[i].1 sh[i].2[j].1, sh[i].2[j].2) := by
  have h2 : L.memsOf sh = L.memsOf (sh.take (i + 1)) ++ L.memsOf (sh.drop (i + 1)) := by
    unfold L.memsOf
    rw [← List.flatMap_append, List.take_append_drop]
  rw [h2, memsOf_succ hi, List.append_assoc, List.getElem?_append_right (by omega), Nat.add_sub_cancel_left, List.getElem?_append_left (by rw [List.length_map]; exact hj), List.getElem?_map, List.getElem?_eq_getElem hj]
  rfl
set_option maxRecDepth 8000 in
set_option maxHeartbeats 4000000 in
theorem objectOf_any (x name : ByteArray) (objs : List C.Mem) (sh : List L.Shelf) (A B D : Option Addr) (a b d n m q : Nat) (w : World) (hn : n = objs.length) (hA : SliceAt memR w (Old w) A a objs) (hm : m = sh.length) (hB : SliceAt shelfR w (Old w) B b sh)
    (hn2 : n ≤ 100000) (hm2 : m ≤ 100000) (hS : ∀ s ∈ sh, ShelfSize s) (u : Nat) (hu : u < (objs ++ L.memsOf sh).length) (hN : ((objs ++ L.memsOf sh).map L.mname).Nodup) (hnm : name = (objs ++ L.memsOf sh)[u].1) :
    Calls Tryz.prog 22 #[.agg #[.string x, .slice A n a, .slice B m b, .slice D q d], .string name] w (RetOb w (objs ++ L.memsOf sh)[u].2) := by
  have heq : ∀ k (hk : k < (objs ++ L.memsOf sh).length), (objs ++ L.memsOf sh)[k].1.data.toList = name.data.toList ↔ k = u := by
    intro k hk
    constructor
    · intro h
      have h2 : ((objs ++ L.memsOf sh).map L.mname)[k]'(by simpa using hk) = ((objs ++ L.memsOf sh).map L.mname)[u]'(by simpa using hu) := by
        rw [List.getElem_map, List.getElem_map]
        show (objs ++ L.memsOf sh)[k].1.data.toList = (objs ++ L.memsOf sh)[u].1.data.toList
        rw [h, hnm]
      exact (List.getElem_inj hN).1 h2
    · rintro rfl
      rw [hnm]
  obtain ⟨R, hR⟩ : ∃ R, R = (objs ++ L.memsOf sh)[u].2 := ⟨_, rfl⟩
  rw [← hR]
  have HO : Hid (∀ k (hk : k < objs.length), (objs[k].1.data.toList = name.data.toList ↔ k = u) ∧ (k = u → R = objs[k].2)) := fun k hk => by
    have h1 := heq k (by rw [List.length_append]; omega)
    rw [List.getElem_append_left hk] at h1
    refine ⟨h1, fun e => ?_⟩
    subst e
    rw [hR, List.getElem_append_left hk]
  have HS2 : Hid (∀ i (hi : i < sh.length) j (hj : j < sh[i].2.length), ((L.full sh[i].1 sh[i].2[j].1).data.toList = name.data.toList ↔ objs.length + ((L.memsOf (sh.take i)).length + j) = u) ∧ (objs.length + ((L.memsOf (sh.take i)).length + j) = u → R = sh[i].2[j].2)) := fun i hi j hj => by
    have h0 := memsOf_get hi hj
    obtain ⟨h1, h2⟩ := List.getElem?_eq_some_iff.1 h0
    have h3 : objs.length + ((L.memsOf (sh.take i)).length + j) < (objs ++ L.memsOf sh).length := by rw [List.length_append]; omega
    have h4 := heq _ h3
    have h5 : (objs ++ L.memsOf sh)[objs.length + ((L.memsOf (sh.take i)).length + j)] = (L.full sh[i].1 sh[i].2[j].1, sh[i].2[j].2) := by
      rw [List.getElem_append_right (by omega)]
      simp only [Nat.add_sub_cancel_left]
      exact h2
    rw [h5] at h4
    refine ⟨h4, fun e => ?_⟩
    have h6 : (objs ++ L.memsOf sh)[u] = (L.full sh[i].1 sh[i].2[j].1, sh[i].2[j].2) := by
      rw [← h5]
      congr 1
      exact e.symm
    rw [hR, h6]
  have HU : Hid (u < objs.length + (L.memsOf sh).length) := by rw [List.length_append] at hu; exact hu
  have HN := Lib.hid hn
  have HM := Lib.hid hm
  have HA := Lib.hid hA
  have HB := Lib.hid hB
  have HSS := Lib.hid hS
  obtain ⟨W1, hW1⟩ : ∃ W1, W1 = (w.alloc (.cells #[.string x, .slice A n a, .slice B m b, .slice D q d] 26)).alloc (.cells #[.slice none 0 0, .slice none 0 0] 56) := ⟨_, rfl⟩
  have hsz : (w.alloc (.cells #[.string x, .slice A n a, .slice B m b, .slice D q d] 26)).heap.size = w.heap.size + 1 := by simp
  have E1 : Ext w W1 := by rw [hW1]; exact ((Ext.refl w).alloc _).alloc _
  have hb1 : W1.heap[w.heap.size]? = some (.cells #[.string x, .slice A n a, .slice B m b, .slice D q d] 26 (0, 0)) := by rw [hW1]; exact (((Ext.refl (w.alloc _)).alloc _).block _ (by simp)).trans (heap_alloc_new w _)
  have hb2 : W1.heap[w.heap.size + 1]? = some (.cells #[.slice none 0 0, .slice none 0 0] 56 (0, 0)) := by rw [hW1, ← hsz]; exact heap_alloc_new _ _
  have c1 : W1.cell? ⟨w.heap.size, 1, none⟩ = _ := cell_of_row W1 _ 1 _ _ _ hb1
  have HW1 := Lib.hid hW1
  have HE1 := Lib.hid E1
  have HB1 := Lib.hid hb1
  have HB2 := Lib.hid hb2
  clear hn hA hm hB hS hu hN hnm heq hR hW1 hsz E1 hb1 hb2
  go_enter Tryz.func22, Tryz.ntmps22
  go_upto_region 1 with (fail)
  rw [← HW1.out]
  go_wp2_with fail
  clear c1
  go_loopw [15] (fun i wr => ∃ k : Nat, k ≤ n ∧ k ≤ u ∧ i = .int .i64 (k : Int) ∧ Hid (Ext W1 wr)) (fun i _ => n - (intOf i).toNat)
  case atStart => exact ⟨0, Nat.zero_le _, Nat.zero_le _, rfl, Ext.refl _⟩
  case round =>
    obtain ⟨k, hk, hku, rfl, HK⟩ := hrel
    obtain ⟨W0, hW0⟩ : ∃ W0, W0 = wr := ⟨_, rfl⟩
    subst hW0
    by_cases hlt : k < n
    · have hkl : k < objs.length := by rw [← HN.out]; exact hlt
      obtain ⟨mb, mo, s, TA, tc, TB, td, rfl, hbo, hms, hss, hTA, hTB, m0, m1, m2⟩ := mem_getB HA.out hkl
      replace m0 := (HE1.out.trans HK.out).keepc m0
      replace m1 := (HE1.out.trans HK.out).keepc m1
      replace m2 := (HE1.out.trans HK.out).keepc m2
      obtain ⟨ho1, ho2⟩ := HO.out k hkl
      rw [hms] at ho1
      obtain ⟨oo, hoo⟩ : ∃ oo, oo = objs[k].2 := ⟨_, rfl⟩
      rw [← hoo] at hTA hTB m1 m2 ho2
      obtain ⟨tl, htl⟩ : ∃ tl, tl = oo.1.length := ⟨_, rfl⟩
      obtain ⟨ul, hul⟩ : ∃ ul, ul = oo.2.length := ⟨_, rfl⟩
      rw [← htl] at m1
      rw [← hul] at m2
      have he := bytes_eq (a := s) (b := name)
      obtain ⟨W4, hW4⟩ : ∃ W4, W4 = W0.alloc (.cells #[.string s, .slice TA tl tc, .slice TB ul td] 69) := ⟨_, rfl⟩
      obtain ⟨eb, heb⟩ : ∃ eb, eb = W0.heap.size := ⟨_, rfl⟩
      have E4 : Ext W0 W4 := by rw [hW4]; exact (Ext.refl W0).alloc _
      have hb4 : W4.heap[eb]? = some (.cells #[.string s, .slice TA tl tc, .slice TB ul td] 69 (0, 0)) := by rw [hW4, heb]; exact heap_alloc_new W0 _
      have t0 : W4.cell? ⟨eb, 0, none⟩ = _ := cell_of_row W4 eb 0 _ _ _ hb4
      have t1 : W4.cell? ⟨eb, 1, none⟩ = _ := cell_of_row W4 eb 1 _ _ _ hb4
      have t2 : W4.cell? ⟨eb, 2, none⟩ = _ := cell_of_row W4 eb 2 _ _ _ hb4
      have HEB := Lib.hid heb
      have HX4 := Lib.hid (HK.out.trans E4)
      have HO1 := Lib.hid ho1
      have HO2 := Lib.hid ho2
      have HTA := Lib.hid hTA
      have HTB := Lib.hid hTB
      have HTL := Lib.hid htl
      have HUL := Lib.hid hul
      clear hbo hms hss hTA hTB ho1 ho2 hoo htl hul heb hb4 E4 HK hkl
      go_upto_region 4 with (fail)
      rw [← hW4, ← HEB.out]
      clear hW4 m0 m1 m2
      by_cases hq : s.data.toList = name.data.toList
      · rw [decide_eq_true hq] at he
        have hR := HO2.out (HO1.out.1 hq)
        have HR := Lib.hid hR
        have hr := (HX4.out.block _ (Array.getElem?_eq_some_iff.1 HB2.out).1).trans HB2.out
        have r0 : W4.cell? ⟨w.heap.size + 1, 0, none⟩ = _ := cell_of_row W4 _ 0 _ _ _ hr
        have r1 : W4.cell? ⟨w.heap.size + 1, 1, none⟩ = _ := cell_of_row W4 _ 1 _ _ _ hr
        have f0 := Lib.frozen_of_heap hr 0
        have f1 := Lib.frozen_of_heap hr 1
        have HRR := Lib.hid hr
        clear hR hr
        go_wp2_with fail
        rw [HR.out]
        exact ret_ob rfl (HE1.out.trans HX4.out) (by omega) HRR.out rfl rfl rfl HTA.out HTB.out HTL.out HUL.out
      · rw [decide_eq_false hq] at he
        have hku2 : k + 1 ≤ u := by
          have : k ≠ u := fun e => hq (HO1.out.2 e)
          omega
        go_wp2_with fail
        clear he
        go_roundw
        case rel => exact ⟨k + 1, by omega, hku2, by go_num, HX4.out⟩
        case measure => simp [intOf]; omega
    · obtain rfl : k = n := by omega
      have hr1 := (HK.out.block _ (Array.getElem?_eq_some_iff.1 HB1.out).1).trans HB1.out
      have c2 : W0.cell? ⟨w.heap.size, 2, none⟩ = _ := cell_of_row W0 _ 2 _ _ _ hr1
      have HK0 := Lib.hid HK.out
      clear hr1 HK
      go_wp2_with fail
      clear c2
      go_loopw [29] (fun i wr => ∃ (l nl : Nat), l ≤ m ∧ k + nl ≤ u ∧ i = .int .i64 (l : Int) ∧ Hid (nl = (L.memsOf (sh.take l)).length ∧ Ext W1 wr)) (fun i _ => m - (intOf i).toNat)
      case atStart => exact ⟨0, 0, Nat.zero_le _, by omega, rfl, rfl, HK0.out⟩
      case round =>
        obtain ⟨l, nl, hl, hlu, rfl, HL⟩ := hrel
        obtain ⟨V0, hV0⟩ : ∃ V0, V0 = wr := ⟨_, rfl⟩
        subst hV0
        by_cases hlm : l < m
        · have hll : l < sh.length := by rw [← HM.out]; exact hlm
          obtain ⟨ub, uo, SA, sc, rfl, hbo, hps, hSA, u0, u1⟩ := shelf_get HB.out hll
          replace u0 := (HE1.out.trans HL.out.2).keepc u0
          replace u1 := (HE1.out.trans HL.out.2).keepc u1
          have hsz2 := HSS.out _ (List.getElem_mem hll)
          have hsu := memsOf_succ hll
          obtain ⟨p, hp⟩ : ∃ p, p = sh[l].1 := ⟨_, rfl⟩
          obtain ⟨ms, hms⟩ : ∃ ms, ms = sh[l].2 := ⟨_, rfl⟩
          unfold ShelfSize at hsz2
          rw [← hp, ← hms] at hsu hsz2
          have hs2 : ∀ j (hj : j < ms.length), ((L.full p ms[j].1).data.toList = name.data.toList ↔ k + (nl + j) = u) ∧ (k + (nl + j) = u → R = ms[j].2) := by
            subst hms hp
            intro j hj
            have h9 := HS2.out l hll j hj
            rw [← HL.out.1, ← HN.out] at h9
            exact h9
          rw [← hp] at u0
          rw [← hms] at u1 hSA
          obtain ⟨sm, hsm⟩ : ∃ sm, sm = ms.length := ⟨_, rfl⟩
          rw [← hsm] at u1
          have HSM := Lib.hid hsm
          have HSU := Lib.hid hsu
          have HSA := Lib.hid hSA
          have HSZ2 := Lib.hid hsz2
          have HSS2 := Lib.hid hs2
          have HNL := Lib.hid HL.out.1
          have hsb := hsz2.2.2
          obtain ⟨X4, hX4⟩ : ∃ X4, X4 = V0.alloc (.cells #[.string p, .slice SA sm sc] 83) := ⟨_, rfl⟩
          obtain ⟨eb, heb⟩ : ∃ eb, eb = V0.heap.size := ⟨_, rfl⟩
          have E4 : Ext V0 X4 := by rw [hX4]; exact (Ext.refl V0).alloc _
          have hb4 : X4.heap[eb]? = some (.cells #[.string p, .slice SA sm sc] 83 (0, 0)) := by rw [hX4, heb]; exact heap_alloc_new V0 _
          have t0 : X4.cell? ⟨eb, 0, none⟩ = _ := cell_of_row X4 eb 0 _ _ _ hb4
          have t1 : X4.cell? ⟨eb, 1, none⟩ = _ := cell_of_row X4 eb 1 _ _ _ hb4
          have HEB := Lib.hid heb
          have HT0 := Lib.hid t0
          have HX4 := Lib.hid (HL.out.2.trans E4)
          have hsm3 : sm ≤ 100000 := by rw [hsm]; exact hsb
          clear hbo hps hSA hsz2 hsu hs2 hp hms hsm hsb heb hb4 E4 HL t0 hll
          go_upto_region 10 with (fail)
          rw [← hX4, ← HEB.out]
          clear hX4 u0 u1
          go_wp2_with fail
          clear t1
          go_loopw [36] (fun i wr => ∃ j : Nat, j ≤ sm ∧ k + (nl + j) ≤ u ∧ i = .int .i64 (j : Int) ∧ Hid (Ext X4 wr)) (fun i _ => sm - (intOf i).toNat)
          case atStart => exact ⟨0, Nat.zero_le _, by omega, rfl, Ext.refl _⟩
          case round =>
            obtain ⟨j, hj, hju, rfl, HJ⟩ := hrel
            obtain ⟨Y0, hY0⟩ : ∃ Y0, Y0 = wr := ⟨_, rfl⟩
            subst hY0
            by_cases hjl : j < sm
            · have hjm : j < ms.length := by rw [← HSM.out]; exact hjl
              obtain ⟨mb, mo, s, TA, tc, TB, td, rfl, hbo, hms, hss, hTA, hTB, m0, m1, m2⟩ := mem_getB HSA.out hjm
              have hxe := HE1.out.trans (HX4.out.trans HJ.out)
              replace m0 := hxe.keepc m0
              replace m1 := hxe.keepc m1
              replace m2 := hxe.keepc m2
              obtain ⟨ho1, ho2⟩ := HSS2.out j hjm
              rw [hms] at ho1
              have hszs := (HSZ2.out.2.1 _ (List.getElem_mem hjm)).1
              rw [hms] at hszs
              have hps := HSZ2.out.1
              obtain ⟨oo, hoo⟩ : ∃ oo, oo = ms[j].2 := ⟨_, rfl⟩
              rw [← hoo] at hTA hTB m1 m2 ho2
              obtain ⟨tl, htl⟩ : ∃ tl, tl = oo.1.length := ⟨_, rfl⟩
              obtain ⟨ul, hul⟩ : ∃ ul, ul = oo.2.length := ⟨_, rfl⟩
              rw [← htl] at m1
              rw [← hul] at m2
              have he : ((p ++ (⟨#[33]⟩ : ByteArray) ++ s).toList == name.toList) = decide ((L.full p s).data.toList = name.data.toList) := by rw [bytes_eq, full_is]
              obtain ⟨Y4, hY4⟩ : ∃ Y4, Y4 = Y0.alloc (.cells #[.string s, .slice TA tl tc, .slice TB ul td] 69) := ⟨_, rfl⟩
              obtain ⟨fb, hfb⟩ : ∃ fb, fb = Y0.heap.size := ⟨_, rfl⟩
              have E4 : Ext Y0 Y4 := by rw [hY4]; exact (Ext.refl Y0).alloc _
              have hb4 : Y4.heap[fb]? = some (.cells #[.string s, .slice TA tl tc, .slice TB ul td] 69 (0, 0)) := by rw [hY4, hfb]; exact heap_alloc_new Y0 _
              have t0 : Y4.cell? ⟨fb, 0, none⟩ = _ := cell_of_row Y4 fb 0 _ _ _ hb4
              have t1 : Y4.cell? ⟨fb, 1, none⟩ = _ := cell_of_row Y4 fb 1 _ _ _ hb4
              have t2 : Y4.cell? ⟨fb, 2, none⟩ = _ := cell_of_row Y4 fb 2 _ _ _ hb4
              have p0 := (HJ.out.trans E4).keepc HT0.out
              have HFB := Lib.hid hfb
              have HX5 := Lib.hid (HJ.out.trans E4)
              have HO1 := Lib.hid ho1
              have HO2 := Lib.hid ho2
              have HTA := Lib.hid hTA
              have HTB := Lib.hid hTB
              have HTL := Lib.hid htl
              have HUL := Lib.hid hul
              clear hbo hms hss hTA hTB ho1 ho2 hoo htl hul hfb hb4 E4 HJ hjm hxe
              go_upto_region 13 with (fail)
              rw [← hY4, ← HFB.out]
              clear hY4 m0 m1 m2
              by_cases hq : (L.full p s).data.toList = name.data.toList
              · rw [decide_eq_true hq] at he
                have hR := HO2.out (HO1.out.1 hq)
                have HR := Lib.hid hR
                have hr := ((HX4.out.trans HX5.out).block _ (Array.getElem?_eq_some_iff.1 HB2.out).1).trans HB2.out
                have r0 : Y4.cell? ⟨w.heap.size + 1, 0, none⟩ = _ := cell_of_row Y4 _ 0 _ _ _ hr
                have r1 : Y4.cell? ⟨w.heap.size + 1, 1, none⟩ = _ := cell_of_row Y4 _ 1 _ _ _ hr
                have f0 := Lib.frozen_of_heap hr 0
                have f1 := Lib.frozen_of_heap hr 1
                have HRR := Lib.hid hr
                clear hR hr
                go_wp2_with fail
                rw [HR.out]
                exact ret_ob rfl (HE1.out.trans (HX4.out.trans HX5.out)) (by omega) HRR.out rfl rfl rfl HTA.out HTB.out HTL.out HUL.out
              · rw [decide_eq_false hq] at he
                have hku2 : k + (nl + (j + 1)) ≤ u := by
                  have : k + (nl + j) ≠ u := fun e => hq (HO1.out.2 e)
                  omega
                go_wp2_with fail
                clear he
                go_roundw
                case rel => exact ⟨j + 1, by omega, hku2, by go_num, HX5.out⟩
                case measure => simp [intOf]; omega
            · obtain rfl : j = sm := by omega
              have HN' : Hid (nl + j = (L.memsOf (sh.take (l + 1))).length ∧ Ext W1 Y0) := by
                refine ⟨?_, HX4.out.trans HJ.out⟩
                rw [HSU.out, List.length_append, List.length_map, ← HNL.out, HSM.out]
              clear HJ
              go_wp2_with fail
              exact ⟨⟨l + 1, nl + j, by omega, by omega, by go_num, HN'⟩, by simp [intOf]; omega⟩
        · obtain rfl : l = m := by omega
          have htk : sh.take l = sh := List.take_of_length_le (by rw [HM.out]; exact Nat.le_refl _)
          have h1 := HL.out.1
          rw [htk] at h1
          have h2 := HU.out
          have h3 := HN.out
          exact absurd h2 (by omega)
end Go.Proofs.YtfbhchpbflaphaaGreatDoor
