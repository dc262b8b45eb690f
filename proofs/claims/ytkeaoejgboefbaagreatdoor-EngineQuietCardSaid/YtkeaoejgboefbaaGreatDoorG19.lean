/- The texts Sz Xg of the seat, joined. -/
import Derived.Test.YtkeaoejgboefbaaGreatDoorG18
import Derived.SizedLaws
import Derived.Handed
import Derived.HandedShaped
import Derived.Lay
/- What comes in reads so, with bounds by the form's own reach: strings and slices take at most 2^47 - 4096 bytes. For any program. -/
namespace Go.Proofs.YtkeaoejgboefbaaGreatDoor
open Go.RowKit
section
variable {H : Type} {enc : TypeId × Value → H} {P : Program} {w : World}
theorem reach_is : reachBytes = 140737488351232 := rfl
/-- Type t's values read as r says, and bd holds of them, where nothing in them passes the reach. -/
def OpensB (enc : TypeId × Value → H) (P : Program) (w : World) (t : TypeId) {α : Type} (r : Rep α) (bd : α → Prop) : Prop :=
  P.cellsOf t = r.size ∧ ∀ (fuel : Nat) (cs : List Value) (x : DataW H × List MemPlace), DataW.trod enc P w 0 (fun _ => true) true fuel t cs = some x → (∀ n ∈ x.1.weights P t, n ≤ reachBytes) → ∃ a, r.is w (Old w) a cs ∧ bd a
theorem Opens.toB {t : TypeId} {α : Type} {r : Rep α} (h : Opens enc P w t r) : OpensB enc P w t r (fun _ => True) :=
  ⟨h.1, fun fuel cs x hx _ => by obtain ⟨a, ha⟩ := h.2 fuel cs x hx; exact ⟨a, ha, trivial⟩⟩
theorem OpensB.str {t : TypeId} (ht : P.underlying t = some .string) (hc : P.cellsOf t = 1) : OpensB enc P w t strR (fun s => s.size ≤ 140737488351232) :=
  ⟨hc, fun _ _ x h hz => by
    obtain ⟨s, rfl, hx, hs⟩ := DataW.trod_string ht h
    refine ⟨s, ⟨rfl, hs⟩, ?_⟩
    have hx1 : x.1 = .lit (.string s.data.toList) := by rw [hx]
    have := hz s.size (by rw [hx1]; simp [DataW.weights])
    rwa [reach_is] at this⟩
theorem weightsAll_mem {e : TypeId} : ∀ {l : List (DataW H)} {d : DataW H}, d ∈ l → ∀ n ∈ d.weights P e, n ∈ DataW.weightsAll P e l
  | _ :: _, _, hd, n, hn => by
    unfold DataW.weightsAll
    rcases List.mem_cons.1 hd with rfl | hd
    · exact List.mem_append_left _ hn
    · exact List.mem_append_right _ (weightsAll_mem hd n hn)
theorem OpensB.slice {t e : TypeId} {α : Type} {r : Rep α} {bd : α → Prop} (ht : P.underlying t = some (.slice e)) (hc : P.cellsOf t = 1) (hpos : 0 < r.size) (hby : 0 < P.bytesOf e) (he : OpensB enc P w e r bd) :
    OpensB enc P w t (sliceR r) (fun l => l.length ≤ 140737488351232 ∧ ∀ a ∈ l, bd a) := by
  refine ⟨hc, fun fuel cs x h hz => ?_⟩
  rcases Go.Deep.open_slice ht h with ⟨rfl, _⟩ | ⟨a, len, cap, m, n, D, Pl, rfl, _, hl, hm, hmm, hx, hall⟩
  · exact ⟨[], ⟨none, 0, rfl, SliceAt.nil _ _ _ _ _ (by omega)⟩, by simp, fun _ h => by cases h⟩
  · simp only [ite_true] at hmm
    have hx1 : x.1 = .slice ((List.range len).map D) ((List.range (m - len)).map fun j => D (len + j)) := by rw [hx]
    rw [hx1] at hz
    unfold DataW.weights at hz
    rw [ht] at hz
    simp only at hz
    have hcap : len ≤ 140737488351232 := by
      have h1 := hz _ (List.mem_cons_self)
      rw [reach_is] at h1
      simp only [List.length_map, List.length_range] at h1
      have h2 : len + (m - len) ≤ (len + (m - len)) * P.bytesOf e := Nat.le_mul_of_pos_right _ hby
      omega
    have hex : ∀ i, i < len → ∃ y, (∃ us, r.is w (Old w) y us ∧ us.length = r.size ∧ ∀ j, j < r.size → w.cell? ((a.add (i * r.size)).add j) = us[j]?) ∧ bd y := by
      intro i hi
      obtain ⟨cs', h1, h2⟩ := hall i (by omega)
      rw [he.1] at h1
      obtain ⟨y, hy, hby⟩ := he.2 _ _ _ h2 fun k hk => hz k (List.mem_cons_of_mem _ (List.mem_append_left _ (weightsAll_mem (List.mem_map.2 ⟨i, List.mem_range.2 hi, rfl⟩) k hk)))
      obtain ⟨_, g2, g3⟩ := World.cells?_some h1
      exact ⟨y, ⟨cs', hy, g2, g3⟩, hby⟩
    obtain ⟨l, hlen, hp⟩ := list_of_lt hex
    refine ⟨l, ⟨some a, cap, by rw [hlen], by omega, by unfold maxLen at hm; omega, fun hne => ?_⟩, by omega, fun y hy => ?_⟩
    · have hlpos : 0 < l.length := List.length_pos_iff.2 hne
      obtain ⟨⟨us, _, hul, hc0⟩, _⟩ := hp 0 hlpos
      have hc00 := hc0 0 hpos
      obtain ⟨u0, hu0⟩ : ∃ u0, us[0]? = some u0 := ⟨us[0]'(by omega), by simp [hul, hpos]⟩
      rw [hu0] at hc00
      have hc00' : w.cell? a = some u0 := by simpa [Addr.add] using hc00
      have hspot := World.cell?_spot hc00'
      have hblk := World.block_lt_of_cell? w _ hc00'
      obtain ⟨b, off, sp⟩ := a
      simp only at hspot
      subst hspot
      refine ⟨b, off, rfl, hblk, fun i hi => ?_⟩
      obtain ⟨⟨us, h1, h2, h3⟩, _⟩ := hp i hi
      refine ⟨us, h1, fun j u hj => ?_⟩
      have hj' : j < r.size := by
        rcases Nat.lt_or_ge j us.length with h | h
        · omega
        · rw [List.getElem?_eq_none h] at hj; cases hj
      have := h3 j hj'
      rw [hj] at this
      have e : ((⟨b, off, none⟩ : Addr).add (i * r.size)).add j = ⟨b, off + (i * r.size + j), none⟩ := by
        rw [Go.Deep.add_add]
        unfold Addr.add
        split
        · rename_i h0; rw [h0]; rfl
        · rfl
      rwa [e] at this
    · obtain ⟨i, hi, rfl⟩ := List.getElem_of_mem hy
      exact (hp i hi).2
/-- The fields from number k on, at offset o. -/
def OpensFieldsB (enc : TypeId × Value → H) (P : Program) (w : World) (fs : List Field) (o : Nat) {α : Type} (r : Rep α) (bd : α → Prop) : Prop :=
  ∀ (fuel : Nat) (cs : List Value) (xs : List (DataW H × List MemPlace)), cs.length = o + r.size →
    (∀ (i : Nat) (f : Field), fs[i]? = some f → DataW.trod enc P w 0 (fun _ => true) true fuel f.type ((cs.drop f.offset).take (P.cellsOf f.type)) = xs[i]?) → fs.length ≤ xs.length →
    (∀ n ∈ DataW.weightsEach P (fs.map (·.type)) (xs.map (·.1)), n ≤ reachBytes) → ∃ a, r.is w (Old w) a (cs.drop o) ∧ bd a
theorem OpensFieldsB.one {f : Field} {o : Nat} {α : Type} {r : Rep α} {bd : α → Prop} (h : OpensB enc P w f.type r bd) (ho : f.offset = o) : OpensFieldsB enc P w [f] o r bd := by
  intro fuel cs xs hl hf hx hz
  have h0 := hf 0 f rfl
  cases xs with
  | nil => simp at hx
  | cons x xs =>
    rw [List.getElem?_cons_zero, ho, h.1, List.take_of_length_le (by rw [List.length_drop]; omega)] at h0
    refine h.2 _ _ _ h0 fun n hn => hz n ?_
    simp only [List.map_cons, DataW.weightsEach]
    exact List.mem_append_left _ hn
theorem OpensFieldsB.cons {f : Field} {fs : List Field} {o : Nat} {α β : Type} {r : Rep α} {s : Rep β} {bd : α → Prop} {be : β → Prop} (h : OpensB enc P w f.type r bd) (ho : f.offset = o) (hs : OpensFieldsB enc P w fs (o + r.size) s be) : OpensFieldsB enc P w (f :: fs) o (prodR r s) (fun p => bd p.1 ∧ be p.2) := by
  intro fuel cs xs hl hf hx hz
  have h0 := hf 0 f rfl
  cases xs with
  | nil => simp at hx
  | cons x xs =>
    rw [List.getElem?_cons_zero, ho, h.1] at h0
    simp only [List.map_cons, DataW.weightsEach] at hz
    obtain ⟨a, ha, hba⟩ := h.2 _ _ _ h0 fun n hn => hz n (List.mem_append_left _ hn)
    have hl' : cs.length = o + (r.size + s.size) := hl
    obtain ⟨b, hb, hbb⟩ := hs fuel cs xs (by omega) (fun i g hg => by have := hf (i + 1) g (by simpa using hg); simpa using this) (by simp at hx; omega) fun n hn => hz n (List.mem_append_right _ hn)
    refine ⟨(a, b), ⟨_, _, ?_, ha, hb⟩, hba, hbb⟩
    rw [← List.drop_drop]
    exact (List.take_append_drop _ _).symm
theorem OpensB.struct {t : TypeId} {fs : Array Field} {α : Type} {r : Rep α} {bd : α → Prop} (ht : P.underlying t = some (.struct fs)) (hc : P.cellsOf t = r.size) (h : OpensFieldsB enc P w fs.toList 0 r bd) : OpensB enc P w t r bd := by
  refine ⟨hc, fun fuel cs x hx hz => ?_⟩
  obtain ⟨xs, n, _, hx1, hl, hxl, hf⟩ := DataW.trod_struct ht hx
  have hx2 : x.1 = .agg (xs.map (·.1)) := by rw [hx1]
  rw [hx2] at hz
  unfold DataW.weights at hz
  rw [ht] at hz
  simp only at hz
  have := h n cs xs (by omega) (fun i f hi => hf i f (by simpa using hi)) (by simp [hxl]) hz
  simpa using this
/-- An argument of the row, opened. -/
theorem OpensB.arg {t : TypeId} {α : Type} {r : Rep α} {bd : α → Prop} (h : OpensB enc P w t r bd) {v : Value} {d : DataW H} {p : List MemPlace} (ht : DataW.Trod enc P w 0 (fun _ => true) true t v d p) (hz : ∀ n ∈ d.weights P t, n ≤ reachBytes) (hv : r.size = 1 → v.cells = #[v]) : ∃ a, r.val w a v ∧ bd a := by
  obtain ⟨fuel, hf⟩ := ht
  obtain ⟨a, ha, hb⟩ := h.2 _ _ _ hf hz
  exact ⟨a, ⟨ha, hv⟩, hb⟩
/-- The weights of argument j. -/
theorem weights_at {ts : List TypeId} {ds : List (DataW H)} (h : (DataW.weightsEach P ts ds).all (· ≤ reachBytes) = true) (j : Nat) {t : TypeId} {d : DataW H} (ht : ts[j]? = some t) (hd : ds[j]? = some d) : ∀ n ∈ d.weights P t, n ≤ reachBytes := by
  intro n hn
  have := List.all_eq_true.1 h n (DataW.weights_mem_each ht hd n hn)
  simpa using this
theorem wrap_sized {a : Assume} {C : Checked} {os : Os} {f : FuncId} {fn : Func} {s : ChangeSpec} {conds : List PathCond} {apart fresh handsOn again : Bool} {X : World → Array Value → Prop}
    (hX : ∀ (w w' : World) (args : Array Value), w.heap = w'.heap → X w args → X w' args)
    (own : ownKnob C.prog.godebug = none) (started : os.Started) (noInit : C.prog.inits.idxOf? f = none) (hfn : C.prog.funcs[f]? = some fn)
    (witness : ∃ (w : World) (tape : Tape) (i : Input), w.os = os ∧ (w.forCall tape i).Shaped C.prog ∧ i.vars = [] ∧ Input.okWide C.prog (w.forCall tape i) .any w.heap.size f i ∧
      ((s.pre enc C.prog fn conds apart (w.forCall tape i).memory i.args ∧ X (w.forCall tape i).memory i.args) ∧ sizedMet enc C.prog fn (OpenSpec.ofChange s) apart (w.forCall tape i).memory i.args) ∧ a.holds C.prog (lone (Frame.enter C.prog f i.args .normal) [] (w.forCall tape i)))
    (contract : ∀ (W : World) (base : Nat) (args : Array Value) (ds gs : List (DataW H)) (before : List MemPlace),
      (∀ (j : Nat) t v, fn.params[j]? = some t → args[j]? = some v → Value.okWide C.prog W .any base t v) →
      DataW.Whole enc C.prog fn.params.toList s.vars apart W args.toList ds gs before →
      conds.all (PathCond.test C.prog ⟨fn.params.toList, ds, s.plain.varTypes C.prog, gs⟩) = true →
      X W args → W.ShapedOpen C.prog →
      (DataW.weightsEach C.prog (fn.params.toList ++ (OpenSpec.ofChange s).bare.plain.varTypes C.prog) (ds ++ gs)).all (· ≤ reachBytes) = true →
      Calls C.prog f args W fun e W' => ∃ v, e = .returned v ∧ s.post enc C.prog fn apart fresh handsOn again W args v W') :
    ReturnsInHanded a C os f .any (fun w args => (s.pre enc C.prog fn conds apart w args ∧ X w args) ∧ sizedMet enc C.prog fn (OpenSpec.ofChange s) apart w args) (s.post enc C.prog fn apart fresh handsOn again) := by
  refine returnsInHanded_of_calls own started noInit witness ?_
  intro w tape i _ hsh _ hok hpre _
  obtain ⟨_, _, _, fn', hfn', _, _, _, _, hval⟩ := hok
  have e : fn' = fn := Option.some.inj (hfn'.symm.trans hfn)
  subst e
  obtain ⟨⟨⟨ds, gs, before, hw, hc⟩, hx⟩, hsz⟩ := hpre
  have hw' := DataW.Whole.of_heap (w' := w.forCall tape i) (by rfl) hw
  refine (contract (w.forCall tape i) w.heap.size i.args ds gs before hval hw' hc (hX _ _ _ (by rfl) hx) hsh (sizedMet.weights hsz hw)).mono fun e W' ⟨v, he, hp⟩ => ?_
  subst he
  exact ChangeSpec.post_blind hp
theorem laidMetH_laidAll {P : Program} {os : Os} {laid : List (String × DataW Unit)} (args : Array Value) (hp : (laid.filter fun x => x.2.handleName?.isSome) = [])
    (hf : (World.holding P os ⟨#[], #[], []⟩).layFits P laid [] = true)
    (hi : (World.holding P os ⟨#[], #[], []⟩).layIfaces P laid (World.laidAll P os laid) = true) :
    laidMetH P laid ((World.laidAll P os laid).forCall (fun _ _ => 0) ⟨#[], args, []⟩).memory := by
  unfold laidMetH
  rw [hp]
  exact laidMet_laidAll args hf hi
end
end Go.Proofs.YtkeaoejgboefbaaGreatDoor

/- What the arguments read as; the laid variables: the frame of the cards of chapter 56. -/
namespace Go.Proofs.YtkeaoejgboefbaaGreatDoor
open Go.RowKit

theorem OpensB.mono {H : Type} {enc : TypeId × Value → H} {P : Program} {w : World} {t : TypeId} {α : Type} {r : Rep α} {bd be : α → Prop} (h : OpensB enc P w t r bd) (hb : ∀ a, bd a → be a) : OpensB enc P w t r be :=
  ⟨h.1, fun fuel cs x hx hz => by obtain ⟨a, ha, hba⟩ := h.2 fuel cs x hx hz; exact ⟨a, ha, hb a hba⟩⟩
section
variable {H : Type} {enc : TypeId × Value → H} {w : World}
theorem op9 : OpensB enc Tryz.prog w 9 strR (fun _ => True) := (OpensB.str Tryz.underlying9 (by kernel_rfl)).mono fun _ _ => trivial
theorem op3 : OpensB enc Tryz.prog w 3 (intR .i64) (fun _ => True) := (Opens.int Tryz.underlying3 (by kernel_rfl)).toB
theorem op5 : OpensB enc Tryz.prog w 5 (intR .u8) (fun _ => True) := (Opens.int Tryz.underlying5 (by kernel_rfl)).toB
theorem op4 : OpensB enc Tryz.prog w 4 boolR (fun _ => True) := (Opens.bool Tryz.underlying4 (by kernel_rfl)).toB
theorem op45 : OpensB enc Tryz.prog w 45 (sliceR boolR) (fun _ => True) := (OpensB.slice Tryz.underlying45 (by kernel_rfl) (by decide) (of_decide_eq_true (by kernel_rfl)) op4).mono fun _ _ => trivial
theorem op48 : OpensB enc Tryz.prog w 48 (sliceR strR) (fun _ => True) := (OpensB.slice Tryz.underlying48 (by kernel_rfl) (by decide) (of_decide_eq_true (by kernel_rfl)) op9).mono fun _ _ => trivial
theorem op57 : OpensB enc Tryz.prog w 57 fileR (fun _ => True) := (OpensB.struct Tryz.underlying57 (by kernel_rfl) (.cons op9 rfl (.one op9 rfl))).mono fun _ _ => trivial
theorem op50 : OpensB enc Tryz.prog w 50 cellR (fun _ => True) := (OpensB.struct Tryz.underlying50 (by kernel_rfl) (.cons op9 rfl (.cons op3 rfl (.cons op48 rfl (.one op9 rfl))))).mono fun _ _ => trivial
theorem op31 : OpensB enc Tryz.prog w 31 actR (fun _ => True) := (OpensB.struct Tryz.underlying31 (by kernel_rfl) (.cons op5 rfl (.cons op5 rfl (.one op9 rfl)))).mono fun _ _ => trivial
theorem op22 : OpensB enc Tryz.prog w 22 (sliceR cellR) (fun _ => True) := (OpensB.slice Tryz.underlying22 (by kernel_rfl) (by decide) (of_decide_eq_true (by kernel_rfl)) op50).mono fun _ _ => trivial
theorem op23 : OpensB enc Tryz.prog w 23 (sliceR actR) (fun _ => True) := (OpensB.slice Tryz.underlying23 (by kernel_rfl) (by decide) (of_decide_eq_true (by kernel_rfl)) op31).mono fun _ _ => trivial
theorem op34 : OpensB enc Tryz.prog w 34 (sliceR fileR) (fun _ => True) := (OpensB.slice Tryz.underlying34 (by kernel_rfl) (by decide) (of_decide_eq_true (by kernel_rfl)) op57).mono fun _ _ => trivial
end
theorem tab_third {P : Program} {W : World} {name n1 n2 : String} {x y : DataW Unit} {k : IntKind} {zs : List Int} {rest : List (String × DataW Unit)} {g : Nat} {t e : TypeId} {n : Nat}
    (hg : P.globalNamed name = some g) (hty : (P.globals[g]?).map (·.type) = some t) (ht : P.underlying t = some (.array n e)) (he : P.underlying e = some (.int k)) (hce : P.cellsOf e = 1) (hct : P.cellsOf t = n)
    (h : laidMet P ((n1, x) :: (n2, y) :: (name, Lib.tabData k zs) :: rest) W) : Lib.TabIs P W name k zs := by
  obtain ⟨ps, ⟨_, _, _, _, _, _, _, _, _, _, ⟨_, _, _, _, _, _, _, _, _, _, ⟨g', t', cs, fuel, p, q, hg', ht', hvar, hd, _, _⟩, _⟩, _⟩, _⟩ := h
  obtain rfl := Option.some.inj (hg.symm.trans hg')
  obtain rfl := Option.some.inj (hty.symm.trans ht')
  unfold Lib.TabIs
  rw [hvar, ← Lib.cells_of_tab ht he hce hct hd]
theorem gl_of {W : World} {n1 n2 : String} {x y z : DataW Unit} {rest : List (String × DataW Unit)} (h : W.ShapedOpen Tryz.prog) (hf : ((n1, x) :: (n2, y) :: ("internal/strconv.uint64pow10", z) :: rest).filter (fun x => x.2.handleName?.isSome) = [])
    (hl : laidMetH Tryz.prog ((n1, x) :: (n2, y) :: ("internal/strconv.uint64pow10", z) :: rest) W) (hz : z = Lib.tabData .u64 Lib.pow10Tab) : Gl W := by
  refine ⟨Tryz.laysM219.s1_3 W h, ?_⟩
  subst hz
  have hL : laidMet Tryz.prog ((n1, x) :: (n2, y) :: ("internal/strconv.uint64pow10", Lib.tabData .u64 Lib.pow10Tab) :: rest) W := by
    unfold laidMetH at hl
    rw [hf] at hl
    exact hl
  exact tab_third (g := 1) (t := 184) (e := 144) (n := 20) (by kernel_rfl) (by kernel_rfl) Tryz.underlying184 Tryz.underlying144 (by kernel_rfl) (by kernel_rfl) hL

end Go.Proofs.YtkeaoejgboefbaaGreatDoor
