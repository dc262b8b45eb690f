/- A region that draws its order and ends in operations whose order is forced: the head walked once in the text's order, then the tail. For any program. -/
import Derived.Test.YtmibpagajenndaaDoorLex
import Derived.StillTail
namespace Go.Proofs.YtmibpagajenndaaDoor
open Go.RowKit

section
variable {P : Program} {ops : Array Oper} {md : Region.Mode} {C : World → Prop} {E : List Nat}

def wpAnyT (P : Program) (md : Region.Mode) (ops : Array Oper) (C : World → Prop) (E : List Nat) (n : Nat) (L : Array Bool → Act → World → Prop) : Nat → Array Bool → Act → World → Prop
  | 0, listed, a, w => L listed a w
  | fuel + 1, listed, a, w =>
    Region.ready md ops listed ≠ [] ∧ ∀ i ∈ Region.ready md ops listed, i < n ∧ xOp P ops C E i (wpAnyT P md ops C E n L fuel (listed.setIfInBounds i true)) a w

theorem T_first {n i : Nat} {oi : Oper} {L : Array Bool → Act → World → Prop} (hi : ops[i]? = some oi) (hsel : ∀ (j : Nat) (o : Oper) cs b, ops[j]? = some o → o.op ≠ .select cs b)
    (hs : Region.sinkB md ops n = true) (hc : Region.chainB md ops n = true) (hn : n < ops.size) (hin : i < n)
    (hdone : ∀ listed a w, L listed a w → ∀ j ∈ Region.ready md ops listed, n ≤ j) :
    ∀ (fuel : Nat) (listed : Array Bool) (a : Act) (w : World), C w → HeadInv md ops n listed →
      (∀ j oj, ops[j]? = some oj → j ≠ i → listed.getD j true = false → (∀ e ∈ oj.after, Region.binds md e = true → e.on ≠ i) → oi.apart ops oj = true) →
      (i ∈ E → ∀ j, j ∈ E → j ≠ i → listed.getD j true = false → j ∈ waiters md ops i ops.size) →
      i ∈ Region.ready md ops listed → xOp P ops C E i (wpAnyT P md ops C E n L fuel (listed.setIfInBounds i true)) a w → wpAnyT P md ops C E n L (fuel + 1) listed a w := by
  intro fuel
  induction fuel with
  | zero =>
    intro listed a w _ inv _ _ hr H
    have hun := (mem_ready.1 hr).1
    refine ⟨fun h => (by rw [h] at hr; cases hr), fun j hj => ?_⟩
    have hjn : j < n := by
      rcases Nat.lt_or_ge j n with h | h
      · exact h
      · exact absurd hj (tail_waits hs hc hn inv _ i rfl hin hun j h)
    refine ⟨hjn, ?_⟩
    by_cases hji : j = i
    · subst hji; exact H
    · obtain ⟨a', w', h0⟩ := xOp_some H
      have := hdone _ _ _ h0 j (ready_mono hj hji)
      omega
  | succ fuel ih =>
    intro listed a w hC inv hfree heff hr H
    have hun := (mem_ready.1 hr).1
    refine ⟨fun h => (by rw [h] at hr; cases hr), fun j hj => ?_⟩
    have hjn : j < n := by
      rcases Nat.lt_or_ge j n with h | h
      · exact h
      · exact absurd hj (tail_waits hs hc hn inv _ i rfl hin hun j h)
    refine ⟨hjn, ?_⟩
    by_cases hji : j = i
    · subst hji; exact H
    · obtain ⟨hjun, oj, hoj, hall⟩ := mem_ready.1 hj
      have hif : listed.getD i false = false := getD_both hun
      have hnot : ∀ e ∈ oj.after, Region.binds md e = true → e.on ≠ i := fun e he hb heq => by
        have h1 := hall e he hb
        rw [heq, hif] at h1
        cases h1
      have hE : ¬ (i ∈ E ∧ j ∈ E) := fun ⟨h1, h2⟩ => by
        have := waiters_spec inv.closed _ j oj hoj (heff h1 j h2 hji hjun) hall
        rw [hif] at this
        cases this
      have h1 : xOp P ops C E i (fun a1 w1 => xOp P ops C E j (wpAnyT P md ops C E n L fuel ((listed.setIfInBounds i true).setIfInBounds j true)) a1 w1) a w :=
        xOp_mono hC (fun a1 w1 _ h => (h.2 j (ready_mono hj hji)).2) H
      have h2 := xOp_swap hi hoj (hfree j oj hoj hji hjun hnot) (fun cs b => hsel i oi cs b hi) (fun cs b => hsel j oj cs b hoj) hE hC h1
      refine xOp_mono hC (fun a1 w1 hC1 h3 => ih (listed.setIfInBounds j true) a1 w1 hC1 (inv.set hj hjn) ?_ ?_ (ready_mono hr (Ne.symm hji)) ?_) h2
      · intro k ok hk hki hun' hno
        refine hfree k ok hk hki ?_ hno
        by_cases hjk : j = k
        · subst hjk; exact hjun
        · rw [getD_set_ne true hjk] at hun'; exact hun'
      · intro h1 k hk hki hun'
        refine heff h1 k hk hki ?_
        by_cases hjk : j = k
        · subst hjk; exact hjun
        · rw [getD_set_ne true hjk] at hun'; exact hun'
      · rw [Array.setIfInBounds_comm _ _ hji]
        exact h3

theorem wpAnyT_lex {n g : Nat} {R : Act → World → Prop} (hsel : Region.noSelect ops = true) (hE : effOk md ops E = true) (hs : Region.sinkB md ops n = true) (hc : Region.chainB md ops n = true) (hn : n < ops.size) :
    ∀ (l : List Oper) (k : Nat) (listed : Array Bool) (a : Act) (w : World), C w → (∀ j, j < k → listed.getD j true = true) → (∀ j, j < l.length → l[j]? = ops[k + j]?) → k + l.length = n → HeadInv md ops n listed →
    Region.lexHead md ops g l.length k listed = true → wpLex P ops C E R k l a w →
    wpAnyT P md ops C E n (fun listed' a' w' => Region.seqB md ops g n listed' = true ∧ R a' w') l.length listed a w
  | [], k, listed, a, w, _, _, _, hk, _, hB, h => by
    have : k = n := by simpa using hk
    subst this
    exact ⟨by simpa [Region.lexHead] using hB, h⟩
  | o :: l, k, listed, a, w, hC, hlt, hl, hk, inv, hB, h => by
    have h0 : ops[k]? = some o := by simpa using (hl 0 (by simp)).symm
    simp only [List.length_cons, Region.lexHead, Bool.and_eq_true] at hB
    obtain ⟨⟨hr, hf⟩, hB'⟩ := hB
    have hkn : k < n := by simp only [List.length_cons] at hk; omega
    have hr' : k ∈ Region.ready md ops listed := by simpa using hr
    refine T_first h0 (Region.noSelect_spec hsel) hs hc hn hkn (fun listed' a' w' hL => seqB_ready hL.1) l.length listed a w hC inv (Region.free_spec h0 hf) ?_ hr' ?_
    · intro hk j hj hjk hun
      have h1 := List.all_eq_true.1 (List.all_eq_true.1 hE k hk) j hj
      simp only [Bool.or_eq_true, decide_eq_true_eq, List.contains_iff_mem] at h1
      rcases h1 with h1 | h1
      · rw [hlt j (by omega)] at hun; cases hun
      · exact h1
    · have hx : xOp P ops C E k (wpLex P ops C E R (k + 1) l) a w := by unfold xOp; simp only [h0]; exact h
      refine xOp_mono hC (fun a1 w1 hC1 h1 => wpAnyT_lex hsel hE hs hc hn l (k + 1) _ a1 w1 hC1 ?_ (fun j hj => by have := hl (j + 1) (by simp; omega); simpa [Nat.add_assoc, Nat.add_comm 1 j] using this) (by simp only [List.length_cons] at hk; omega) (inv.set hr' hkn) hB' h1) hx
      intro j hj
      by_cases hjk : k = j
      · subst hjk
        rcases Nat.lt_or_ge k listed.size with h' | h'
        · simp [h']
        · simp
      · rw [getD_set_ne true hjk]; exact hlt j (by omega)

theorem wpAny_of_T {n g : Nat} {L : Array Bool → Act → World → Prop} {Q : Exit → Act → World → Prop} (hL : ∀ listed a w, L listed a w → wpAny P md ops Q g listed a w) :
    ∀ (f : Nat) (listed : Array Bool) (a : Act) (w : World), C w → wpAnyT P md ops C E n L f listed a w → wpAny P md ops Q (f + g) listed a w
  | 0, listed, a, w, _, h => by rw [Nat.zero_add]; exact hL _ _ _ h
  | f + 1, listed, a, w, hC, h => by
    rw [show f + 1 + g = (f + g) + 1 by omega]
    refine ⟨fun h0 => absurd h0 h.1, fun i hi => ?_⟩
    have hx := (h.2 i hi).2
    unfold xOp at hx
    unfold wpOp
    split
    · rename_i ho; simp only [ho] at hx; exact wpAny_of_T hL f _ _ _ hC hx
    · rename_i o ho
      simp only [ho] at hx
      split
      · rename_i hw
        simp only [hw, if_true] at hx
        left
        split at hx
        · exact wp_exits (Oper.wp_mono (fun a' w' ⟨h1, h2⟩ => wpAny_of_T hL f _ a' w' h1 h2) hx)
        · obtain ⟨v, hv, hx⟩ := hx
          have hv := hv _ hC
          unfold pureAt at hv
          unfold Oper.wp
          generalize (execOp _ o).run P _ = r at hv ⊢
          cases r with
          | ok n w' =>
            cases n <;> simp only [pureUpon] at hv <;> simp only [Oper.upon]
            case value u => obtain ⟨rfl, rfl⟩ := hv; exact wpAny_of_T hL f _ _ _ hC hx
            case skip => obtain ⟨rfl, rfl⟩ := hv; exact wpAny_of_T hL f _ _ _ hC hx
          | halt _ _ => simp only [pureUpon] at hv
      · rename_i hw
        simp only [hw] at hx
        exact wpAny_of_T hL f _ _ _ hC hx

theorem wp_region_tail {id : Nat} {Q : Exit → Act → World → Prop} {a : Act} {w : World} {l : List Oper} (n : Nat) (E : List Nat) (Φ : World → Prop) (h0 : Φ w.drew) (hm : P.follows .mixedOrders = true) (hB : Region.lexTailB .any l.toArray n = true) (hE : effOk .any l.toArray E = true)
    (h : wpLex P l.toArray (fun w' => ∃ x : Lat Φ, w' = x.w') E (fun a' w' => wpList P l.toArray Q (l.drop n) a' w') 0 (l.take n) a w.drew) : (Code.region id l.toArray true).wp P Q a w := by
  have hC : (fun w' => ∃ x : Lat Φ, w' = x.w') w.drew := ⟨⟨w.drew, h0⟩, rfl⟩
  simp only [Region.lexTailB, Bool.and_eq_true, decide_eq_true_eq] at hB
  obtain ⟨⟨⟨⟨hsel, hn⟩, hs⟩, hc⟩, hlex⟩ := hB
  have hn' : n < l.length := by simpa using hn
  have htl : (l.take n).length = n := by simp; omega
  have hdl : (l.drop n).length = l.toArray.size - n := by simp
  have inv0 : HeadInv .any l.toArray n (Array.replicate l.toArray.size false) :=
    ⟨by simp, fun j oj _ hl => (by rw [getD_replicate_false] at hl; cases hl), fun t _ ht => getD_in (by simpa using ht) (getD_replicate_false _ _)⟩
  have H := wpAnyT_lex (P := P) (md := .any) (g := l.toArray.size - n) hsel hE hs hc hn (l.take n) 0 _ a w.drew hC (fun j hj => absurd hj (Nat.not_lt_zero _)) (fun j hj => by
    have hj' : j < n := by rw [htl] at hj; exact hj
    simp [hj']) (by simpa using htl) inv0 (by rw [htl]; exact hlex) h
  refine wp_region_any hm ?_
  have := wpAny_of_T (Q := Q) (g := l.toArray.size - n) (fun listed a' w' hL => by
    have := wpAny_of_seq (md := .any) (Q' := Q) (l.drop n) n listed a' w' (fun j => by simp [List.getElem?_drop]) (by rw [hdl]; exact hL.1) hL.2
    rwa [hdl] at this) _ _ _ _ hC H
  rw [htl, show n + (l.toArray.size - n) = l.toArray.size by omega] at this
  exact this
end

end Go.Proofs.YtmibpagajenndaaDoor
