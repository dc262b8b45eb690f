/- The texts LexF Gl Gm Gn of the seat, joined. -/
import Derived.Test.YtfbhchpbflaphaaGreatDoorS8
namespace Go.Proofs.YtfbhchpbflaphaaGreatDoor
open Go.RowKit
inductive FT where
 | leaf
 | step (k : Nat) (t : FT)
 | fork (t u : FT)
def FT.path : List Nat -> FT -> FT
 | [], t => t
 | k :: l, t => .step k (FT.path l t)
def FT.firsts (E : List Nat) : FT -> List Nat
 | .leaf => []
 | .step k t => if k ∈ E then [k] else t.firsts E
 | .fork t u => t.firsts E ++ u.firsts E
section
variable {P : Program} {ops : Array Oper} {md : Region.Mode} {C : World -> Prop} {E : List Nat} {R : Act -> World -> Prop}
def Cover (md : Region.Mode) (ops : Array Oper) (E : List Nat) (listed : Array Bool) (fs : List Nat) : Prop :=
 ∀ e ∈ E, listed.getD e true = false -> e ∈ fs ∨ ∃ f ∈ E, listed.getD f true = false /\ e ∈ waiters md ops f ops.size
def FreeP (md : Region.Mode) (ops : Array Oper) (listed : Array Bool) (k : Nat) : Prop :=
 ∀ ok, ops[k]? = some ok -> ∀ j oj, ops[j]? = some oj -> j ≠ k -> listed.getD j true = false -> (∀ e ∈ oj.after, Region.binds md e = true -> e.on ≠ k) -> ok.apart ops oj = true
def okT (md : Region.Mode) (ops : Array Oper) (E : List Nat) : FT -> Array Bool -> Prop
 | .leaf, listed => Region.ready md ops listed = []
 | .step k t, listed => k ∈ Region.ready md ops listed /\ FreeP md ops listed k /\ (k ∈ E -> Cover md ops E (listed.setIfInBounds k true) (t.firsts E)) /\ okT md ops E t (listed.setIfInBounds k true)
 | .fork t u, listed => okT md ops E t listed /\ okT md ops E u listed
def lenT : FT -> Nat -> Prop
 | .leaf, n => n = 0
 | .step _ t, n => ∃ m, n = m + 1 /\ lenT t m
 | .fork t u, n => lenT t n /\ lenT u n
def wpT (P : Program) (ops : Array Oper) (C : World -> Prop) (E : List Nat) (R : Act -> World -> Prop) : FT -> Act -> World -> Prop
 | .leaf, a, w => R a w
 | .step k t, a, w => xOp P ops C E k (wpT P ops C E R t) a w
 | .fork t u, a, w => wpT P ops C E R t a w /\ wpT P ops C E R u a w
def FT.pullP (i : Nat) : FT -> FT
 | .leaf => .leaf
 | .step k t => if k = i then t else .step k (t.pullP i)
 | .fork t u => .fork (t.pullP i) (u.pullP i)
def FT.pullE (E : List Nat) (i : Nat) : FT -> FT
 | .leaf => .leaf
 | .step k t => if k = i then t else .step k (t.pullE E i)
 | .fork t u => if i ∈ t.firsts E then t.pullE E i else u.pullE E i
theorem getD_set_self {listed : Array Bool} {i : Nat} : (listed.setIfInBounds i true).getD i true = true := by
 rcases Nat.lt_or_ge i listed.size with h | h
 ·simp [h]
 ·simp
theorem Cover.congr {l1 l2 : Array Bool} {fs : List Nat} (h : Cover md ops E l1 fs) (he : ∀ e ∈ E, l2.getD e true = l1.getD e true) : Cover md ops E l2 fs := by
 intro e hm hu
 rcases h e hm (by rw [<- he e hm]; exact hu) with h1 | ⟨f, hf, h2, h3⟩
 ·exact .inl h1
 ·exact .inr ⟨f, hf, by rw [he f hf]; exact h2, h3⟩
theorem set_off {listed : Array Bool} {i : Nat} (hi : i ∉ E) : ∀ e ∈ E, (listed.setIfInBounds i true).getD e true = listed.getD e true := fun _ he => getD_set_ne true fun h => hi (h ▸ he)
theorem FreeP.mono {listed : Array Bool} {i k : Nat} (h : FreeP md ops listed k) : FreeP md ops (listed.setIfInBounds i true) k := by
 intro ok hok j oj hoj hne hun hno
 refine h ok hok j oj hoj hne ?_ hno
 by_cases e : i = j
 ·subst e; rw [getD_set_self] at hun; cases hun
 ·rw [getD_set_ne true e] at hun; exact hun
theorem getD_false {listed : Array Bool} {i : Nat} (h : listed.getD i true = false) : listed.getD i false = false := by
 rcases Nat.lt_or_ge i listed.size with h' | h'
 ·simp [h'] at h ⊢; exact h
 ·simp [Array.getElem?_eq_none h'] at h
theorem firsts_pullP {i : Nat} (hi : i ∉ E) : ∀ t : FT, (t.pullP i).firsts E = t.firsts E
 | .leaf => rfl
 | .step k t => by
  unfold FT.pullP
  by_cases h : k = i
  ·subst h
   rw [if_pos rfl]
   show t.firsts E = if k ∈ E then [k] else t.firsts E
   rw [if_neg hi]
  ·rw [if_neg h]
   show (if k ∈ E then [k] else (t.pullP i).firsts E) = if k ∈ E then [k] else t.firsts E
   rw [firsts_pullP hi t]
 | .fork t u => by
  show (t.pullP i).firsts E ++ (u.pullP i).firsts E = _
  rw [firsts_pullP hi t, firsts_pullP hi u]
  rfl
theorem apart_of {listed : Array Bool} {i k : Nat} {ok oi : Oper} (hf : FreeP md ops listed k) (hk : k ∈ Region.ready md ops listed) (hok : ops[k]? = some ok) (hoi : ops[i]? = some oi) (hr : i ∈ Region.ready md ops listed) (hne : i ≠ k) : ok.apart ops oi = true := by
 obtain ⟨hun, oi', hoi', hall⟩ := mem_ready.1 hr
 obtain rfl : oi' = oi := Option.some.inj (hoi'.symm.trans hoi)
 have hku := getD_false (mem_ready.1 hk).1
 refine hf ok hok i oi' hoi hne hun fun e he hb heq => ?_
 have h1 := hall e he hb
 rw [heq, hku] at h1
 cases h1
theorem pullP_ok {i : Nat} (hi : i ∉ E) : ∀ (t : FT) (listed : Array Bool) (n : Nat), okT md ops E t listed -> lenT t (n + 1) -> i ∈ Region.ready md ops listed -> okT md ops E (t.pullP i) (listed.setIfInBounds i true) /\ lenT (t.pullP i) n
 | .leaf, listed, n, h, hl, hr => by rw [show Region.ready md ops listed = [] from h] at hr; cases hr
 | .step k t, listed, n, h, hl, hr => by
  obtain ⟨h1, h2, h3, h4⟩ := h
  obtain ⟨m, hm, hlm⟩ := hl
  obtain rfl : n = m := by omega
  unfold FT.pullP
  by_cases e : k = i
  ·subst e
   rw [if_pos rfl]
   exact ⟨h4, hlm⟩
  ·rw [if_neg e]
   have hik : i ≠ k := fun h => e h.symm
   cases n with
   | zero =>
    exfalso
    have hrr := ready_mono (i := k) hr hik
    have key : ∀ (t : FT) (listed : Array Bool), okT md ops E t listed -> lenT t 0 -> Region.ready md ops listed = [] := by
     intro t
     induction t with
     | leaf => intro listed h _; exact h
     | step k t _ => intro listed _ h; obtain ⟨m, hm, _⟩ := h; omega
     | fork t u iht _ => intro listed h hl; exact iht listed h.1 hl.1
    rw [key t _ h4 hlm] at hrr
    cases hrr
   | succ n =>
    obtain ⟨k1, k2⟩ := pullP_ok hi t _ n h4 hlm (ready_mono hr hik)
    rw [Array.setIfInBounds_comm _ _ e] at k1
    refine ⟨⟨ready_mono h1 e, h2.mono, fun hk => ?_, k1⟩, n, rfl, k2⟩
    rw [firsts_pullP hi, Array.setIfInBounds_comm _ _ hik]
    exact (h3 hk).congr (set_off hi)
 | .fork t u, listed, n, h, hl, hr => by
  obtain ⟨a1, a2⟩ := pullP_ok hi t listed n h.1 hl.1 hr
  obtain ⟨b1, b2⟩ := pullP_ok hi u listed n h.2 hl.2 hr
  exact ⟨⟨a1, b1⟩, a2, b2⟩
theorem xOp_and {i : Nat} {K L : Act -> World -> Prop} {a : Act} {w : World} (hi : i ∉ E) (hC : C w) (h : xOp P ops C E i K a w) (k : xOp P ops C E i L a w) : xOp P ops C E i (fun a1 w1 => K a1 w1 /\ L a1 w1) a w := by
 unfold xOp at h k ⊢
 split
 ·rename_i ho; simp only [ho] at h k; exact ⟨h, k⟩
 ·rename_i o ho
  simp only [ho] at h k
  split
  ·rename_i hw
   simp only [hw, if_true, hi, if_false] at h k ⊢
   obtain ⟨v, hv, h⟩ := h
   obtain ⟨u, hu, k⟩ := k
   obtain rfl := pureAt_det (hv w hC) (hu w hC)
   exact ⟨v, hv, h, k⟩
  ·rename_i hw
   simp only [hw] at h k
   exact ⟨h, k⟩
theorem pullP_wp (hsel : ∀ (j : Nat) (o : Oper) cs b, ops[j]? = some o -> o.op ≠ .select cs b) {i : Nat} (hi : i ∉ E) : ∀ (t : FT) (listed : Array Bool) (n : Nat) (a : Act) (w : World), okT md ops E t listed -> lenT t (n + 1) -> i ∈ Region.ready md ops listed -> C w -> wpT P ops C E R t a w -> xOp P ops C E i (wpT P ops C E R (t.pullP i)) a w
 | .leaf, listed, n, a, w, h, hl, hr, hC, H => by rw [show Region.ready md ops listed = [] from h] at hr; cases hr
 | .step k t, listed, n, a, w, h, hl, hr, hC, H => by
  obtain ⟨h1, h2, h3, h4⟩ := h
  obtain ⟨m, hm, hlm⟩ := hl
  obtain rfl : n = m := by omega
  unfold FT.pullP
  by_cases e : k = i
  ·subst e
   rw [if_pos rfl]
   exact H
  ·rw [if_neg e]
   have hik : i ≠ k := fun h => e h.symm
   have hrr := ready_mono (i := k) hr hik
   cases n with
   | zero =>
    exfalso
    have key : ∀ (t : FT) (listed : Array Bool), okT md ops E t listed -> lenT t 0 -> Region.ready md ops listed = [] := by
     intro t
     induction t with
     | leaf => intro listed h _; exact h
     | step k t _ => intro listed _ h; obtain ⟨m, hm, _⟩ := h; omega
     | fork t u iht _ => intro listed h hl; exact iht listed h.1 hl.1
    rw [key t _ h4 hlm] at hrr
    cases hrr
   | succ n =>
    obtain ⟨_, ok, hok, _⟩ := mem_ready.1 h1
    obtain ⟨_, oi, hoi, _⟩ := mem_ready.1 hr
    have hap := apart_of h2 h1 hok hoi hr hik
    refine xOp_swap hok hoi hap (fun cs b => hsel k ok cs b hok) (fun cs b => hsel i oi cs b hoi) (fun h => hi h.2) hC ?_
    exact xOp_mono hC (fun a1 w1 hC1 h => pullP_wp hsel hi t _ n a1 w1 h4 hlm hrr hC1 h) H
 | .fork t u, listed, n, a, w, h, hl, hr, hC, H =>
  xOp_and hi hC (pullP_wp hsel hi t listed n a w h.1 hl.1 hr hC H.1) (pullP_wp hsel hi u listed n a w h.2 hl.2 hr hC H.2)
theorem pullE_ok {i : Nat} (hi : i ∈ E) : ∀ (t : FT) (listed : Array Bool) (n : Nat), okT md ops E t listed -> lenT t (n + 1) -> i ∈ Region.ready md ops listed -> i ∈ t.firsts E -> okT md ops E (t.pullE E i) (listed.setIfInBounds i true) /\ lenT (t.pullE E i) n /\ Cover md ops E (listed.setIfInBounds i true) ((t.pullE E i).firsts E)
 | .leaf, listed, n, h, hl, hr, hm => by cases hm
 | .step k t, listed, n, h, hl, hr, hm => by
  obtain ⟨h1, h2, h3, h4⟩ := h
  obtain ⟨m, hmm, hlm⟩ := hl
  obtain rfl : n = m := by omega
  unfold FT.pullE
  by_cases e : k = i
  ·subst e
   rw [if_pos rfl]
   exact ⟨h4, hlm, h3 hi⟩
  ·rw [if_neg e]
   have hik : i ≠ k := fun h => e h.symm
   have hm : i ∈ if k ∈ E then [k] else t.firsts E := hm
   by_cases hk : k ∈ E
   ·rw [if_pos hk] at hm
    exact absurd (List.mem_singleton.1 hm) hik
   ·rw [if_neg hk] at hm
    have hrr := ready_mono (i := k) hr hik
    cases n with
    | zero =>
     exfalso
     have key : ∀ (t : FT) (listed : Array Bool), okT md ops E t listed -> lenT t 0 -> Region.ready md ops listed = [] := by
      intro t
      induction t with
      | leaf => intro listed h _; exact h
      | step k t _ => intro listed _ h; obtain ⟨m, hm, _⟩ := h; omega
      | fork t u iht _ => intro listed h hl; exact iht listed h.1 hl.1
     rw [key t _ h4 hlm] at hrr
     cases hrr
    | succ n =>
     obtain ⟨k1, k2, k3⟩ := pullE_ok hi t _ n h4 hlm hrr hm
     rw [Array.setIfInBounds_comm _ _ e] at k1 k3
     refine ⟨⟨ready_mono h1 e, h2.mono, fun hk' => absurd hk' hk, k1⟩, ⟨n, rfl, k2⟩, ?_⟩
     show Cover md ops E _ (if k ∈ E then [k] else (t.pullE E i).firsts E)
     rw [if_neg hk]
     exact k3.congr fun f hf => (set_off hk f hf).symm
 | .fork t u, listed, n, h, hl, hr, hm => by
  unfold FT.pullE
  by_cases ht : i ∈ t.firsts E
  ·rw [if_pos ht]
   exact pullE_ok hi t listed n h.1 hl.1 hr ht
  ·rw [if_neg ht]
   exact pullE_ok hi u listed n h.2 hl.2 hr ((List.mem_append.1 hm).resolve_left ht)
theorem pullE_wp (hsel : ∀ (j : Nat) (o : Oper) cs b, ops[j]? = some o -> o.op ≠ .select cs b) {i : Nat} (hi : i ∈ E) : ∀ (t : FT) (listed : Array Bool) (a : Act) (w : World), okT md ops E t listed -> i ∈ Region.ready md ops listed -> i ∈ t.firsts E -> C w -> wpT P ops C E R t a w -> xOp P ops C E i (wpT P ops C E R (t.pullE E i)) a w
 | .leaf, listed, a, w, h, hr, hm, hC, H => by cases hm
 | .step k t, listed, a, w, h, hr, hm, hC, H => by
  obtain ⟨h1, h2, h3, h4⟩ := h
  unfold FT.pullE
  by_cases e : k = i
  ·subst e
   rw [if_pos rfl]
   exact H
  ·rw [if_neg e]
   have hik : i ≠ k := fun h => e h.symm
   have hm : i ∈ if k ∈ E then [k] else t.firsts E := hm
   by_cases hk : k ∈ E
   ·rw [if_pos hk] at hm
    exact absurd (List.mem_singleton.1 hm) hik
   ·rw [if_neg hk] at hm
    obtain ⟨_, ok, hok, _⟩ := mem_ready.1 h1
    obtain ⟨_, oi, hoi, _⟩ := mem_ready.1 hr
    have hap := apart_of h2 h1 hok hoi hr hik
    refine xOp_swap hok hoi hap (fun cs b => hsel k ok cs b hok) (fun cs b => hsel i oi cs b hoi) (fun h => hk h.1) hC ?_
    exact xOp_mono hC (fun a1 w1 hC1 h => pullE_wp hsel hi t _ a1 w1 h4 (ready_mono hr hik) hm hC1 h) H
 | .fork t u, listed, a, w, h, hr, hm, hC, H => by
  unfold FT.pullE
  by_cases ht : i ∈ t.firsts E
  ·rw [if_pos ht]
   exact pullE_wp hsel hi t listed a w h.1 hr ht hC H.1
  ·rw [if_neg ht]
   exact pullE_wp hsel hi u listed a w h.2 hr ((List.mem_append.1 hm).resolve_left ht) hC H.2
theorem lenT_zero : ∀ (t : FT) (listed : Array Bool) (a : Act) (w : World), okT md ops E t listed -> lenT t 0 -> wpT P ops C E R t a w -> Region.ready md ops listed = [] /\ R a w
 | .leaf, _, _, _, h, _, H => ⟨h, H⟩
 | .step _ _, _, _, _, _, hl, _ => by obtain ⟨m, hm, _⟩ := hl; omega
 | .fork t _, listed, a, w, h, hl, H => lenT_zero t listed a w h.1 hl.1 H.1
theorem lenT_succ : ∀ (t : FT) (listed : Array Bool) (n : Nat), okT md ops E t listed -> lenT t (n + 1) -> Region.ready md ops listed ≠ []
 | .leaf, _, _, _, hl => by cases hl
 | .step k _, listed, _, h, _ => fun e => by have := h.1; rw [e] at this; cases this
 | .fork t _, listed, n, h, hl => lenT_succ t listed n h.1 hl.1
theorem wpAnyX_tree (hsel : ∀ (j : Nat) (o : Oper) cs b, ops[j]? = some o -> o.op ≠ .select cs b) : ∀ (n : Nat) (t : FT) (listed : Array Bool) (a : Act) (w : World), C w -> Closed md ops listed -> Cover md ops E listed (t.firsts E) -> okT md ops E t listed -> lenT t n -> wpT P ops C E R t a w -> wpAnyX P md ops C E R n listed a w
 | 0, t, listed, a, w, _, _, _, hok, hl, H => lenT_zero t listed a w hok hl H
 | n + 1, t, listed, a, w, hC, hcl, hcov, hok, hl, H => by
  refine ⟨fun h => absurd h (lenT_succ t listed n hok hl), fun i hr => ?_⟩
  by_cases hi : i ∈ E
  ·obtain ⟨hun, oi, hoi, hall⟩ := mem_ready.1 hr
   have hm : i ∈ t.firsts E := by
    rcases hcov i hi hun with h | ⟨f, _, h1, h2⟩
    ·exact h
    ·have := waiters_spec hcl _ i oi hoi h2 hall
     rw [getD_false h1] at this
     cases this
   obtain ⟨k1, k2, k3⟩ := pullE_ok hi t listed n hok hl hr hm
   exact xOp_mono hC (fun a1 w1 hC1 h => wpAnyX_tree hsel n _ _ a1 w1 hC1 (hcl.set hr) k3 k1 k2 h) (pullE_wp hsel hi t listed a w hok hr hm hC H)
  ·obtain ⟨k1, k2⟩ := pullP_ok hi t listed n hok hl hr
   refine xOp_mono hC (fun a1 w1 hC1 h => wpAnyX_tree hsel n _ _ a1 w1 hC1 (hcl.set hr) ?_ k1 k2 h) (pullP_wp hsel hi t listed n a w hok hl hr hC H)
   rw [firsts_pullP hi]
   exact hcov.congr (set_off hi)
def coverB (md : Region.Mode) (ops : Array Oper) (E : List Nat) (listed : Array Bool) (fs : List Nat) : Bool :=
 E.all fun e => listed.getD e true || fs.contains e || E.any fun f => !listed.getD f true && (waiters md ops f ops.size).contains e
theorem coverB_spec {listed : Array Bool} {fs : List Nat} (h : coverB md ops E listed fs = true) : Cover md ops E listed fs := by
 intro e he hun
 have h1 := List.all_eq_true.1 h e he
 rw [hun] at h1
 simp only [Bool.false_or, Bool.or_eq_true, List.contains_iff_mem, List.any_eq_true, Bool.and_eq_true, Bool.not_eq_true'] at h1
 rcases h1 with h1 | ⟨f, hf, h2, h3⟩
 ·exact .inl h1
 ·exact .inr ⟨f, hf, h2, h3⟩
def okB (md : Region.Mode) (ops : Array Oper) (E : List Nat) : FT -> Array Bool -> Bool
 | .leaf, listed => (Region.ready md ops listed).isEmpty
 | .step k t, listed => (Region.ready md ops listed).contains k && Region.free md ops listed k && (!E.contains k || coverB md ops E (listed.setIfInBounds k true) (t.firsts E)) && okB md ops E t (listed.setIfInBounds k true)
 | .fork t u, listed => okB md ops E t listed && okB md ops E u listed
theorem okB_spec : ∀ (t : FT) (listed : Array Bool), okB md ops E t listed = true -> okT md ops E t listed
 | .leaf, listed, h => by
  have : (Region.ready md ops listed).isEmpty = true := h
  exact List.isEmpty_iff.1 this
 | .step k t, listed, h => by
  simp only [okB, Bool.and_eq_true, Bool.or_eq_true, Bool.not_eq_true', List.contains_iff_mem] at h
  obtain ⟨⟨⟨h1, h2⟩, h3⟩, h4⟩ := h
  refine ⟨h1, fun ok hok => Region.free_spec hok h2, fun hk => ?_, okB_spec t _ h4⟩
  rcases h3 with h3 | h3
  ·exact absurd (List.contains_iff_mem.2 hk) (by rw [h3]; exact Bool.false_ne_true)
  ·exact coverB_spec h3
 | .fork t u, listed, h => by
  simp only [okB, Bool.and_eq_true] at h
  exact ⟨okB_spec t listed h.1, okB_spec u listed h.2⟩
def lenB : FT -> Nat -> Bool
 | .leaf, n => n == 0
 | .step _ t, n => match n with
  | 0 => false
  | m + 1 => lenB t m
 | .fork t u, n => lenB t n && lenB u n
theorem lenB_spec : ∀ (t : FT) (n : Nat), lenB t n = true -> lenT t n
 | .leaf, n, h => by simpa [lenB, lenT] using h
 | .step _ t, 0, h => by simp [lenB] at h
 | .step _ t, n + 1, h => ⟨n, rfl, lenB_spec t n h⟩
 | .fork t u, n, h => by
  simp only [lenB, Bool.and_eq_true] at h
  exact ⟨lenB_spec t n h.1, lenB_spec u n h.2⟩
def treeB (md : Region.Mode) (ops : Array Oper) (E : List Nat) (t : FT) : Bool :=
 Region.noSelect ops && coverB md ops E (Array.replicate ops.size false) (t.firsts E) && okB md ops E t (Array.replicate ops.size false) && lenB t ops.size
theorem wp_region_tree {id : Nat} {Q : Exit -> Act -> World -> Prop} {a : Act} {w : World} {l : List Oper} (t : FT) (E : List Nat) (Φ : World -> Prop) (h0 : Φ w.drew) (hm : P.follows .mixedOrders = true) (hB : treeB .any l.toArray E t = true)
 (h : wpT P l.toArray (fun w' => ∃ x : Lat Φ, w' = x.w') E (fun a' w' => Q .normal a' w') t a w.drew) : (Code.region id l.toArray true).wp P Q a w := by
 simp only [treeB, Bool.and_eq_true] at hB
 obtain ⟨⟨⟨h1, h2⟩, h3⟩, h4⟩ := hB
 have hC : (fun w' => ∃ x : Lat Φ, w' = x.w') w.drew := ⟨⟨w.drew, h0⟩, rfl⟩
 refine wp_region_any hm (wpAny_of_X (C := fun w' => ∃ x : Lat Φ, w' = x.w') (E := E) (R := fun a' w' => Q .normal a' w') (fun _ _ h => h) _ _ _ _ hC ?_)
 refine wpAnyX_tree (Region.noSelect_spec h1) _ t _ a w.drew hC (fun j oj _ hl => ?_) (coverB_spec h2) (okB_spec t _ h3) (lenB_spec t _ h4) h
 rcases Nat.lt_or_ge j l.length with h | h
 ·simp [h] at hl
 ·simp [h] at hl
theorem ft_leaf {a : Act} {w : World} (h : R a w) : wpT P ops C E R .leaf a w := h
theorem ft_fork {t u : FT} {a : Act} {w : World} (h : wpT P ops C E R t a w) (k : wpT P ops C E R u a w) : wpT P ops C E R (.fork t u) a w := ⟨h, k⟩
theorem ft_pure {k : Nat} {t : FT} {o : Oper} {a : Act} {w : World} (ho : ops[k]? = some o) (hk : decide (k ∈ E) = false) (hp : plainOp o = true) (hw : Region.wanted o (yielded ops a.tmps) = true)
 (h : ∀ K : Act -> Prop, (∀ a, wpT P ops C E R t a w -> K a) -> o.quiet P a C K) : wpT P ops C E R (.step k t) a w := by
 have h1 := lex_pure (P := P) (ops := ops) (C := C) (E := E) (R := wpT P ops C E R t) (k := k) (o := o) (rest := []) hk hp hw h
 unfold wpT xOp
 simp only [ho]
 exact h1
theorem ft_eff {k : Nat} {t : FT} {o : Oper} {a : Act} {w : World} (ho : ops[k]? = some o) (hk : decide (k ∈ E) = true) (h : wpList P ops (LexQ C (wpT P ops C E R t)) [o] a w) : wpT P ops C E R (.step k t) a w := by
 have h1 := lex_eff (P := P) (ops := ops) (C := C) (E := E) (R := wpT P ops C E R t) (k := k) (o := o) (rest := []) hk h
 unfold wpT xOp
 simp only [ho]
 exact h1
theorem ftl_pure {l : List Oper} {k : Nat} {t : FT} {o : Oper} {a : Act} {w : World} (ho : l[k]? = some o) (hk : decide (k ∈ E) = false) (hp : plainOp o = true) (hw : Region.wanted o (yielded l.toArray a.tmps) = true)
 (h : ∀ K : Act -> Prop, (∀ a, wpT P l.toArray C E R t a w -> K a) -> o.quiet P a C K) : wpT P l.toArray C E R (.step k t) a w :=
 ft_pure (ops := l.toArray) (by rw [List.getElem?_toArray]; exact ho) hk hp hw h
theorem ftl_eff {l : List Oper} {k : Nat} {t : FT} {o : Oper} {a : Act} {w : World} (ho : l[k]? = some o) (hk : decide (k ∈ E) = true) (h : wpList P l.toArray (LexQ C (wpT P l.toArray C E R t)) [o] a w) : wpT P l.toArray C E R (.step k t) a w :=
 ft_eff (ops := l.toArray) (by rw [List.getElem?_toArray]; exact ho) hk h
end
end Go.Proofs.YtfbhchpbflaphaaGreatDoor

namespace Go.Proofs.YtfbhchpbflaphaaGreatDoor
open Go.RowKit Go.Maps Go.ChangeMaps
def RetSec (w : World) (S : Nat -> Prop) (c : C.Sec) (e : Ending) (w' : World) : Prop :=
 Ext w w' /\ ∃ RA rc, SliceAt relR w S RA rc c.2.2 /\ e = .returned (.agg #[.int .i64 c.1, .string c.2.1, .slice RA c.2.2.length rc])
theorem LinkAt.spot {w : World} {S X : Nat -> Prop} {base g : Nat} {E : L.Env} {st : L.St} {M : List (List (Int × Int))} {k : LC} (h : LinkAt w S X base g E st M k) {i : Nat} (hi : i < st.1.length) :
 ∃ bl ol cl, k.vL = .slice (some ⟨bl, ol, none⟩) st.1.length cl /\ w.cell? ⟨bl, ol + i * 2, none⟩ = some (.int .i64 (st.1[i].1 : Int)) /\ w.cell? ⟨bl, ol + i * 2 + 1, none⟩ = some (.string st.1[i].2) := by
 obtain ⟨bl, ol, cl, hv, _, _, _, hc⟩ := h.list.cell (fun a _ => rfl) hi
 exact ⟨bl, ol, cl, hv, hc 0 _ rfl, hc 1 _ rfl⟩
theorem sec_getB {w : World} {B : Nat -> Prop} {A : Option Addr} {c k : Nat} {l : List C.Sec} (h : SliceAt secR w B A c l) (hk : k < l.length) :
 ∃ b off A2 c2, A = some ⟨b, off, none⟩ /\ SliceAt relR w B A2 c2 l[k].2.2 /\
  w.cell? ⟨b, off + k * 3, none⟩ = some (.int .i64 l[k].1) /\ w.cell? ⟨b, off + k * 3 + 1, none⟩ = some (.string l[k].2.1) /\ w.cell? ⟨b, off + k * 3 + 1 + 1, none⟩ = some (.slice A2 l[k].2.2.length c2) := by
 obtain ⟨b, off, rfl, _, hr⟩ := h.2.2 (by intro h; rw [h] at hk; simp at hk)
 obtain ⟨us, ⟨x, y, rfl, ⟨rfl, hm⟩, x2, y2, rfl, ⟨rfl, hd⟩, A2, c2, rfl, hs⟩, hc⟩ := hr k hk
 exact ⟨b, off, A2, c2, rfl, hs, hc 0 _ rfl, hc 1 _ rfl, hc 2 _ rfl⟩
attribute [local irreducible] wpLex wpT
set_option maxRecDepth 8000 in
set_option maxHeartbeats 4000000 in
theorem data_any (w : World) (S X : Nat -> Prop) (base g : Nat) (E : L.Env) (st : L.St) (M : List (List (Int × Int))) (k : LC) (h : LinkAt w S X base g E st M k) (hE : EnvOk E) {i : Nat} (hi : i < st.1.length) (hl : st.1.length <= 128) {c : C.Sec} (hc : E.sec? st.1[i] = some c) :
 Calls Tryz.prog 49 #[.pointer (some ⟨g, 0, none⟩), .int .i64 (i : Int)] w (RetSec w S c) := by
 obtain ⟨m, sy, hm, hsy, hs0, hs1, hs2⟩ := L.sec_parts hc
 obtain ⟨hu, rfl⟩ := List.getElem?_eq_some_iff.1 hm
 obtain ⟨bl, ol, cl, hv, v0, v1⟩ := h.spot hi
 obtain ⟨b, off, nm, SA, sc, SB, sd, hA, hB, hgk, hsz, hSA, hSB, x0, x1, x2⟩ := mem_getB h.units hu
 obtain ⟨sb, so, RA, rc, rfl, hRA, z0, z1, z2⟩ := sec_getB hSB hs1
 rw [hs2] at hRA z0 z1 z2
 have c0 := h.row.c0
 have c6 := h.row.c6
 rw [hA] at c0
 rw [hv] at c6
 have hfew := hE.few
 have hsl := hE.syms _ (List.getElem_mem hu)
 obtain ⟨nu, hnu⟩ : ∃ nu, nu = E.units.length := ⟨_, rfl⟩
 obtain ⟨n, hn⟩ : ∃ n, n = st.1.length := ⟨_, rfl⟩
 have hun : st.1[i].1 < nu := by rw [hnu]; exact hu
 have hin : i < n := by rw [hn]; exact hi
 have hfv := findV_symP E.units[st.1[i].1].2.1 E.units[st.1[i].1].2.2 st.1[i].2
 have hpe : E.units[st.1[i].1].2 = (E.units[st.1[i].1].2.1, E.units[st.1[i].1].2.2) := rfl
 rw [hpe] at hsy
 rw [hsy] at hfv
 rw [<- hnu] at c0 hfew
 rw [<- hn] at c6 hl
 generalize E.units[st.1[i].1].2.2 = ss at hSB x2 hs1 hfv
 generalize E.units[st.1[i].1].2.1 = ll at hSA x1 hfv hsl
 obtain ⟨sn, hsn⟩ : ∃ q, q = ll.length := ⟨_, rfl⟩
 obtain ⟨sm, hsm⟩ : ∃ q, q = ss.length := ⟨_, rfl⟩
 obtain ⟨sq, hsq⟩ : ∃ q : Nat, sy.2.2 = (q : Int) := ⟨sy.2.2.toNat, by omega⟩
 rw [hsq] at z0 z1 z2 hs1
 rw [Int.toNat_natCast] at z0 z1 z2 hs1
 have hsqm : sq < sm := by rw [hsm]; exact hs1
 obtain ⟨s0, s1, s2⟩ := sy
 simp only at hsq
 subst hsq
 rw [<- hsn] at x1
 rw [<- hsm] at x2
 have HFIND := Lib.hid (fun W (hW : Ext w W) => Find_any ll SA (some ⟨sb, so, none⟩) sc sd sn sm st.1[i].2 W hsn ((hSA.keep (fun b hb => (h.out b hb).1) fun _ _ => rfl : SliceAt symR w (Old w) SA sc ll).ext hW) (by omega))
 rw [hfv] at HFIND
 unfold symV at HFIND
 simp only at HFIND
 have HRA := Lib.hid hRA
 generalize st.1[i].1 = pu at *
 generalize st.1[i].2 = px at *
 obtain ⟨ck, cd, cr⟩ := c
 simp only at z0 z1 z2 HRA
 have HCR := Lib.hid (show ∃ rn, rn = cr.length from ⟨_, rfl⟩)
 obtain ⟨rn, hrn⟩ := HCR.out
 rw [<- hrn] at z2
 have HRN := Lib.hid hrn
 clear hrn HCR hm hsy hs0 hs1 hs2 hv hgk hRA hSA hSB hA hB hc hfv hpe hsn hsm hn hnu hi hu hsz h hE
 obtain ⟨W1, hW1⟩ : ∃ W1, W1 = w.alloc (.cells #[.int .i64 0, .string ⟨#[]⟩, .slice none 0 0] 67) := ⟨_, rfl⟩
 have E1 : Ext w W1 := by rw [hW1]; exact (Ext.refl w).alloc _
 have hb1 : W1.heap[w.heap.size]? = some (.cells #[.int .i64 0, .string ⟨#[]⟩, .slice none 0 0] 67 (0, 0)) := by rw [hW1]; exact heap_alloc_new w _
 have HE1 := Lib.hid E1
 have HB1 := Lib.hid hb1
 have y0 := E1.keepc c0
 have y6 := E1.keepc c6
 have u0 := E1.keepc v0
 have u1 := E1.keepc v1
 have t0 := E1.keepc x0
 have t1 := E1.keepc x1
 have t2 := E1.keepc x2
 have q0 := E1.keepc z0
 have q1 := E1.keepc z1
 have q2 := E1.keepc z2
 have HW1 := Lib.hid hW1
 clear c0 c6 v0 v1 x0 x1 x2 z0 z1 z2 hW1 E1 hb1
 have fx0 : ∀ z : Lat (Ext W1), z.w'.cell? ⟨g, 0, none⟩ = _ := fun z => z.h.keepc y0
 have fx1 : ∀ z : Lat (Ext W1), z.w'.cell? ⟨g, 6, none⟩ = _ := fun z => z.h.keepc y6
 have fx2 : ∀ z : Lat (Ext W1), z.w'.cell? ⟨bl, ol + i * 2, none⟩ = _ := fun z => z.h.keepc u0
 have fx3 : ∀ z : Lat (Ext W1), z.w'.cell? ⟨b, off + pu * 3 + 1, none⟩ = _ := fun z => z.h.keepc t1
 have fx4 : ∀ z : Lat (Ext W1), z.w'.cell? ⟨b, off + pu * 3 + 1 + 1, none⟩ = _ := fun z => z.h.keepc t2
 have hne := Lat.some (Φ := Ext W1) ((Ext.refl W1).drew)
 go_enter Tryz.func49, Tryz.ntmps49
 go_upto_region 1 with (fail)
 rw [<- HW1.out]
 refine wp_region_tail 16 [15] (Ext W1) ((Ext.refl W1).drew) (by kernel_rfl) (by kernel_rfl) (by kernel_rfl) ?_
 simp only [List.take_succ_cons, List.take_zero, List.drop_succ_cons, List.drop_zero]
 iterate 15 (refine lex_pure rfl rfl rfl ?_; intro K hK; go_big_quiet_op; go_big_quiet_on)
 refine lex_eff rfl ?_
 go_wp2_with fail
 obtain ⟨W2, hW2⟩ : ∃ W2, W2 = (W1.alloc (.cells #[.slice none 0 0, .slice none 0 0] 56)).drew := ⟨_, rfl⟩
 have E2 : Ext W1 W2 := by rw [hW2]; exact ((Ext.refl W1).alloc _).drew
 have hb2 : W2.heap[W1.heap.size]? = some (.cells #[.slice none 0 0, .slice none 0 0] 56 (0, 0)) := by rw [hW2]; exact heap_alloc_new W1 _
 rw [<- hW2]
 clear hW2
 refine ⟨⟨⟨W2, E2⟩, rfl⟩, ?_⟩
 refine lex_nil ?_
 clear fx0 fx1 fx2 fx3 fx4 hne
 obtain ⟨ob, hob⟩ : ∃ ob, ob = W1.heap.size := ⟨_, rfl⟩
 rw [<- hob] at hb2 ⊢
 have HOB := Lib.hid hob
 clear hob
 have hc2 := fun j => cell_of_row W2 ob j _ _ _ hb2
 have r0 := hc2 0
 have r1 := hc2 1
 have f0 := Lib.frozen_of_heap hb2 0
 have f1 := Lib.frozen_of_heap hb2 1
 clear hc2
 go_upto_region 2 with (fail)
 obtain ⟨W3, hW3⟩ : ∃ W3, W3 = (W2.setCell ⟨ob, 0, none⟩ (.slice SA sn sc)).setCell ⟨ob, 1, none⟩ (.slice (some ⟨sb, so, none⟩) sm sd) := ⟨_, rfl⟩
 have E3 : Ext W1 W3 := by rw [hW3]; exact (E2.setCell (p := ⟨ob, 0, none⟩) (by rw [HOB.out]; exact Nat.le_refl _) _).setCell (p := ⟨ob, 1, none⟩) (by rw [HOB.out]; exact Nat.le_refl _) _
 have hb3 : W3.heap[ob]? = some (.cells #[.slice SA sn sc, .slice (some ⟨sb, so, none⟩) sm sd] 56 (0, 0)) := by
  rw [hW3]
  exact heap_setCell_cells (heap_setCell_cells hb2 0 _) 1 _
 rw [<- hW3]
 clear hW3 hb2 r0 r1 f0 f1 E2
 have r0 : W3.cell? ⟨ob, 0, none⟩ = _ := cell_of_row W3 ob 0 _ _ _ hb3
 have r1 : W3.cell? ⟨ob, 1, none⟩ = _ := cell_of_row W3 ob 1 _ _ _ hb3
 have HX3 := Lib.hid (HE1.out.trans E3)
 have m6 := E3.keepc y6
 have m1 := E3.keepc u1
 have n0 := E3.keepc q0
 have n1 := E3.keepc q1
 have n2 := E3.keepc q2
 obtain ⟨kk, ff⟩ := (E3.tch (fun _ => False)).cells HB1.out (fun h => h)
 have k0 := kk 0
 have k1 := kk 1
 have k2 := kk 2
 have g0 := ff 0
 have g1 := ff 1
 have g2 := ff 2
 clear kk ff y0 y6 u0 u1 t0 t1 t2 q0 q1 q2 hb3 E3
 have fx0 : ∀ z : Lat (Ext W3), z.w'.cell? ⟨ob, 0, none⟩ = some (.slice SA sn sc) := fun z => z.h.keepc r0
 have fx1 : ∀ z : Lat (Ext W3), z.w'.cell? ⟨ob, 1, none⟩ = some (.slice (some ⟨sb, so, none⟩) sm sd) := fun z => z.h.keepc r1
 have fx2 : ∀ z : Lat (Ext W3), z.w'.cell? ⟨g, 6, none⟩ = _ := fun z => z.h.keepc m6
 have fx3 : ∀ z : Lat (Ext W3), z.w'.cell? ⟨bl, ol + i * 2 + 1, none⟩ = _ := fun z => z.h.keepc m1
 have hne := Lat.some (Φ := Ext W3) ((Ext.refl W3).drew)
 refine wp_region_tree (FT.path [0,1,2,3,4,5,6,7,8] (.fork (FT.path [9,10,11,12,13,14,15] .leaf) (FT.path [13,9,10,11,12,14,15] .leaf))) [9, 13, 14] (Ext W3) ((Ext.refl W3).drew) (by kernel_rfl) (by kernel_rfl) ?_
 iterate 9 (refine ftl_pure rfl rfl rfl rfl ?_; intro K hK; go_big_quiet_op; go_big_quiet_on)
 refine ft_fork ?_ ?_
 ·refine ftl_eff rfl rfl ?_
  go_wp2_with fail
  refine (HFIND.out _ (HX3.out.trans (Ext.refl W3).drew)).mono ?_
  rintro e w4 ⟨rfl, d4⟩
  have HX4 := Lib.hid ((Ext.refl W3).drew.trans d4)
  clear d4
  go_wp2_with fail
  refine ⟨⟨⟨w4, HX4.out⟩, rfl⟩, ?_⟩
  iterate 3 (refine ftl_pure rfl rfl rfl rfl ?_; intro K hK; go_big_quiet_op; go_big_quiet_on)
  refine ftl_eff rfl rfl ?_
  go_wp2_with fail
  obtain ⟨W5, hW5⟩ : ∃ W5, W5 = w4.alloc (.cells #[.string ⟨#[]⟩, .int .i64 0, .int .i64 0] 60) := ⟨_, rfl⟩
  obtain ⟨sb6, hsb6⟩ : ∃ b, b = w4.heap.size := ⟨_, rfl⟩
  have E5 : Ext W3 W5 := by rw [hW5]; exact HX4.out.alloc _
  have hb5 : W5.heap[sb6]? = some (.cells #[.string ⟨#[]⟩, .int .i64 0, .int .i64 0] 60 (0, 0)) := by rw [hW5, hsb6]; exact heap_alloc_new w4 _
  have HSB : W3.heap.size <= sb6 := by rw [hsb6]; exact HX4.out.size
  rw [<- hW5, <- hsb6]
  clear hW5 hsb6
  refine ⟨⟨⟨W5, E5⟩, rfl⟩, ?_⟩
  have b50 : W5.cell? ⟨sb6, 0, none⟩ = _ := cell_of_row W5 sb6 0 _ _ _ hb5
  have b51 : W5.cell? ⟨sb6, 1, none⟩ = _ := cell_of_row W5 sb6 1 _ _ _ hb5
  have b52 : W5.cell? ⟨sb6, 2, none⟩ = _ := cell_of_row W5 sb6 2 _ _ _ hb5
  have f50 := Lib.frozen_of_heap hb5 0
  have f51 := Lib.frozen_of_heap hb5 1
  have f52 := Lib.frozen_of_heap hb5 2
  refine ftl_eff rfl rfl ?_
  go_wp2_with fail
  obtain ⟨W6, hW6⟩ : ∃ W6, W6 = ((W5.setCell ⟨sb6, 0, none⟩ (.string s0)).setCell ⟨sb6, 1, none⟩ (.int .i64 s1)).setCell ⟨sb6, 2, none⟩ (.int .i64 (sq : Int)) := ⟨_, rfl⟩
  have E6 : Ext W3 W6 := by rw [hW6]; exact ((E5.setCell (p := ⟨sb6, 0, none⟩) HSB _).setCell (p := ⟨sb6, 1, none⟩) HSB _).setCell (p := ⟨sb6, 2, none⟩) HSB _
  have hb6 : W6.heap[sb6]? = some (.cells #[.string s0, .int .i64 s1, .int .i64 (sq : Int)] 60 (0, 0)) := by rw [hW6]; exact heap_setCell_cells (heap_setCell_cells (heap_setCell_cells hb5 0 _) 1 _) 2 _
  have r6 : W6.cell? ⟨sb6, 2, none⟩ = _ := cell_of_row W6 sb6 2 _ _ _ hb6
  rw [<- hW6]
  clear hW6 b50 b51 b52 f50 f51 f52 hb5 hb6 E5
  refine ⟨⟨⟨W6, E6⟩, rfl⟩, ?_⟩
  refine ftl_pure rfl rfl rfl rfl ?_; intro K hK; go_big_quiet_op; go_big_quiet_on
  refine ft_leaf ?_
  clear fx0 fx1 fx2 fx3 hne
  have s1' := E6.keepc r1
  have t0' := E6.keepc n0
  have t1' := E6.keepc n1
  have t2' := E6.keepc n2
  have l0 := E6.keepc k0
  have l1 := E6.keepc k1
  have l2 := E6.keepc k2
  have h0 := E6.keepf (World.block_lt_of_cell? W3 _ k0) g0
  have h1 := E6.keepf (World.block_lt_of_cell? W3 _ k1) g1
  have h2 := E6.keepf (World.block_lt_of_cell? W3 _ k2) g2
  have HX6 := Lib.hid (HX3.out.trans E6)
  clear E6 r0 r1 n0 n1 n2 k0 k1 k2 g0 g1 g2 m6 m1
  go_wp2_with fail
  refine bodyPost_ret (v := .agg #[.int .i64 ck, .string cd, .slice RA rn rc]) (by simp [results, Tryz.results49, go_sem, l0, l1, l2]) rfl ⟨((HX6.out.setCell (p := ⟨w.heap.size, 0, none⟩) (Nat.le_refl _) _).setCell (p := ⟨w.heap.size, 1, none⟩) (Nat.le_refl _) _).setCell (p := ⟨w.heap.size, 2, none⟩) (Nat.le_refl _) _, RA, rc, HRA.out, ?_⟩
  rw [HRN.out]
 ·refine ftl_eff rfl rfl ?_
  go_wp2_with fail
  obtain ⟨W4, hW4⟩ : ∃ W4, W4 = (W3.alloc (.cells #[.string ⟨#[]⟩, .int .i64 0, .int .i64 0] 60)).drew := ⟨_, rfl⟩
  obtain ⟨sb6, hsb6⟩ : ∃ b, b = W3.heap.size := ⟨_, rfl⟩
  have E4 : Ext W3 W4 := by rw [hW4]; exact ((Ext.refl W3).alloc _).drew
  have hb4 : W4.heap[sb6]? = some (.cells #[.string ⟨#[]⟩, .int .i64 0, .int .i64 0] 60 (0, 0)) := by rw [hW4, hsb6]; exact heap_alloc_new W3 _
  have HSB : W3.heap.size <= sb6 := by rw [hsb6]; exact Nat.le_refl _
  rw [<- hW4, <- hsb6]
  clear hW4 hsb6
  refine ⟨⟨⟨W4, E4⟩, rfl⟩, ?_⟩
  refine ftl_eff rfl rfl ?_
  go_wp2_with fail
  refine (HFIND.out _ (HX3.out.trans E4)).mono ?_
  rintro e W5 ⟨rfl, d4⟩
  have E5 := E4.trans d4
  have hb5 := (d4.block _ (hltA hb4)).trans hb4
  clear d4 hb4 E4
  go_wp2_with fail
  refine ⟨⟨⟨W5, E5⟩, rfl⟩, ?_⟩
  iterate 3 (refine ftl_pure rfl rfl rfl rfl ?_; intro K hK; go_big_quiet_op; go_big_quiet_on)
  have b50 : W5.cell? ⟨sb6, 0, none⟩ = _ := cell_of_row W5 sb6 0 _ _ _ hb5
  have b51 : W5.cell? ⟨sb6, 1, none⟩ = _ := cell_of_row W5 sb6 1 _ _ _ hb5
  have b52 : W5.cell? ⟨sb6, 2, none⟩ = _ := cell_of_row W5 sb6 2 _ _ _ hb5
  have f50 := Lib.frozen_of_heap hb5 0
  have f51 := Lib.frozen_of_heap hb5 1
  have f52 := Lib.frozen_of_heap hb5 2
  refine ftl_eff rfl rfl ?_
  go_wp2_with fail
  obtain ⟨W6, hW6⟩ : ∃ W6, W6 = ((W5.setCell ⟨sb6, 0, none⟩ (.string s0)).setCell ⟨sb6, 1, none⟩ (.int .i64 s1)).setCell ⟨sb6, 2, none⟩ (.int .i64 (sq : Int)) := ⟨_, rfl⟩
  have E6 : Ext W3 W6 := by rw [hW6]; exact ((E5.setCell (p := ⟨sb6, 0, none⟩) HSB _).setCell (p := ⟨sb6, 1, none⟩) HSB _).setCell (p := ⟨sb6, 2, none⟩) HSB _
  have hb6 : W6.heap[sb6]? = some (.cells #[.string s0, .int .i64 s1, .int .i64 (sq : Int)] 60 (0, 0)) := by rw [hW6]; exact heap_setCell_cells (heap_setCell_cells (heap_setCell_cells hb5 0 _) 1 _) 2 _
  have r6 : W6.cell? ⟨sb6, 2, none⟩ = _ := cell_of_row W6 sb6 2 _ _ _ hb6
  rw [<- hW6]
  clear hW6 b50 b51 b52 f50 f51 f52 hb5 hb6 E5
  refine ⟨⟨⟨W6, E6⟩, rfl⟩, ?_⟩
  refine ftl_pure rfl rfl rfl rfl ?_; intro K hK; go_big_quiet_op; go_big_quiet_on
  refine ft_leaf ?_
  clear fx0 fx1 fx2 fx3 hne
  have s1' := E6.keepc r1
  have t0' := E6.keepc n0
  have t1' := E6.keepc n1
  have t2' := E6.keepc n2
  have l0 := E6.keepc k0
  have l1 := E6.keepc k1
  have l2 := E6.keepc k2
  have h0 := E6.keepf (World.block_lt_of_cell? W3 _ k0) g0
  have h1 := E6.keepf (World.block_lt_of_cell? W3 _ k1) g1
  have h2 := E6.keepf (World.block_lt_of_cell? W3 _ k2) g2
  have HX6 := Lib.hid (HX3.out.trans E6)
  clear E6 r0 r1 n0 n1 n2 k0 k1 k2 g0 g1 g2 m6 m1
  go_wp2_with fail
  refine bodyPost_ret (v := .agg #[.int .i64 ck, .string cd, .slice RA rn rc]) (by simp [results, Tryz.results49, go_sem, l0, l1, l2]) rfl ⟨((HX6.out.setCell (p := ⟨w.heap.size, 0, none⟩) (Nat.le_refl _) _).setCell (p := ⟨w.heap.size, 1, none⟩) (Nat.le_refl _) _).setCell (p := ⟨w.heap.size, 2, none⟩) (Nat.le_refl _) _, RA, rc, HRA.out, ?_⟩
  rw [HRN.out]
end Go.Proofs.YtfbhchpbflaphaaGreatDoor

namespace Go.Proofs.YtfbhchpbflaphaaGreatDoor
open Go.RowKit Go.Maps Go.ChangeMaps
def meanI (E : L.Env) (l : List L.Spot) (u : Nat) (x : ByteArray) : Int × Int := match L.aim E u x with
 | .spot p => ((L.pos l p : Int), -1)
 | .lib j => (-1, (j : Int))
 | .bad _ => (-1, -1)
def RetMean (w : World) (S X : Nat -> Prop) (base g : Nat) (E : L.Env) (M : List (List (Int × Int))) (u : Nat) (x : ByteArray) (r : Except Int L.St) (e : Ending) (w' : World) : Prop :=
 Tch X w w' /\ match r with
 | .error n => n ≠ 0 /\ ∃ a b : Int, e = .returned (.tuple #[.agg #[.int .i64 a, .int .i64 b], .int .i64 n])
 | .ok st' => e = .returned (.tuple #[.agg #[.int .i64 (meanI E st'.1 u x).1, .int .i64 (meanI E st'.1 u x).2], .int .i64 0]) /\ ∃ X' k', (∀ b, X' b -> X b ∨ w.heap.size <= b) /\ LinkAt w' S X' base g E st' M k'
theorem note_zero (st : L.St) : L.note st (0, 0) = st := by simp [L.note]
set_option maxRecDepth 8000 in
set_option maxHeartbeats 4000000 in
theorem mean_any (w : World) (S X : Nat -> Prop) (base g : Nat) (E : L.Env) (st : L.St) (M : List (List (Int × Int))) (k : LC) (h : LinkAt w S X base g E st M k) (hE : EnvOk E) (u : Nat) (hu : u < E.units.length) (x : ByteArray) (hx : x.size <= 9223372036854775807)
 (hs : (E.sym (u, x)).isSome = true) (hd : ∀ q ∈ st.1, DomP q) (hl : st.1.length <= 128) :
 Calls Tryz.prog 115 #[.pointer (some ⟨g, 0, none⟩), .int .i64 (u : Int), .string x] w (RetMean w S X base g E M u x (L.stepR E u st x)) := by
 obtain ⟨sy, hsy⟩ := Option.isSome_iff_exists.1 hs
 obtain ⟨R, hR⟩ : ∃ R, R = L.stepR E u st x := ⟨_, rfl⟩
 rw [<- hR]
 unfold L.stepR at hR
 have HAI : Hid (∀ a, L.aim E u x = a -> ∀ l, meanI E l u x = match a with | .spot p => ((L.pos l p : Int), -1) | .lib j => (-1, (j : Int)) | .bad _ => (-1, -1)) := fun a ha l => by unfold meanI; rw [ha]
 have ha : L.aim E u x = if sy.2.1 = 0 then (if sy.2.2 < 0 then .bad 8 else .spot (u, x)) else match L.hit E x with | .twice => .bad 6 | .unknown => .bad 8 | .unit v _ => .spot (v, x) | .lib j => .lib j := by unfold L.aim; rw [hsy]; rfl
 have hn : L.aimN E u x = if sy.2.1 = 0 then (0, 0) else match L.hit E x with | .unit _ m => (m, 0) | .lib j => (E.mems.length, j + 1) | _ => (0, 0) := by unfold L.aimN; rw [hsy]; rfl
 have c0 := h.row.c0
 obtain ⟨b, off, nm, SA, sc, SB, sd, hA, hB, hgk, hsz, hSA, hSB, x0, x1, x2⟩ := mem_getB h.unitsOld hu
 rw [hA] at c0
 have hsl := hE.syms _ (List.getElem_mem hu)
 have hfv := findV_symP E.units[u].2.1 E.units[u].2.2 x
 unfold L.Env.sym at hsy
 rw [List.getElem?_eq_getElem hu] at hsy
 replace hsy : L.symP (E.units[u].2.1, E.units[u].2.2) x = some sy := hsy
 rw [hsy] at hfv
 have hfew := hE.few
 obtain ⟨nu, hnu⟩ : ∃ nu, nu = E.units.length := ⟨_, rfl⟩
 have hun : u < nu := by rw [hnu]; exact hu
 rw [<- hnu] at c0 hfew
 generalize E.units[u].2.2 = ss at hSB x2 hfv hsy
 generalize E.units[u].2.1 = ll at hSA x1 hfv hsl hsy
 obtain ⟨sn, hsn⟩ : ∃ q, q = ll.length := ⟨_, rfl⟩
 obtain ⟨sm, hsm⟩ : ∃ q, q = ss.length := ⟨_, rfl⟩
 rw [<- hsn] at x1
 rw [<- hsm] at x2
 obtain ⟨s0, s1, s2⟩ := sy
 simp only at ha hn
 have HF := Lib.hid (fun W (hW : Ext w W) => Find_any ll SA SB sc sd sn sm x W hsn (hSA.ext hW) (by omega))
 rw [hfv] at HF
 unfold symV at HF
 simp only at HF
 have HL := Lib.hid h
 have HE := Lib.hid hE
 obtain ⟨W1, hW1⟩ : ∃ W1, W1 = w.alloc (.cells #[.int .i64 0, .int .i64 0] 195) := ⟨_, rfl⟩
 have E1 : Ext w W1 := by rw [hW1]; exact (Ext.refl w).alloc _
 have hb1 : W1.heap[w.heap.size]? = some (.cells #[.int .i64 0, .int .i64 0] 195 (0, 0)) := by rw [hW1]; exact heap_alloc_new w _
 have HE1 := Lib.hid E1
 have HB1 := Lib.hid hb1
 have y0 := E1.keepc c0
 have y1 := E1.keepc x1
 have y2 := E1.keepc x2
 have HW1 := Lib.hid hW1
 have hux : DomP (u, x) := ⟨by show u < _; omega, hx⟩
 clear h hE hs hsy hfv hgk hsz hSA hSB hA hB hsn hsm hnu hsl hW1 E1 hb1 c0 x0 x1 x2
 have HAE := Lib.hid ha
 have HNE := Lib.hid hn
 have HRE := Lib.hid hR
 clear ha hn hR
 go_enter Tryz.func115, Tryz.ntmps115
 go_upto_region 1 with (fail)
 rw [<- HW1.out]
 go_wp2_with fail
 refine (HF.out _ HE1.out).mono ?_
 rintro e w2 ⟨rfl, d2⟩
 obtain ⟨W3, hW3⟩ : ∃ W3, W3 = w2.alloc (.cells #[.string s0, .int .i64 s1, .int .i64 s2] 60) := ⟨_, rfl⟩
 have E3 : Ext W1 W3 := by rw [hW3]; exact d2.alloc _
 have hb3 : W3.heap[w2.heap.size]? = some (.cells #[.string s0, .int .i64 s1, .int .i64 s2] 60 (0, 0)) := by rw [hW3]; exact heap_alloc_new w2 _
 obtain ⟨sb, hsb⟩ : ∃ b, b = w2.heap.size := ⟨_, rfl⟩
 have HSB : Hid (W1.heap.size <= sb) := Lib.hid (by rw [hsb]; exact d2.size)
 rw [<- hsb] at hb3
 have HSBE := Lib.hid hsb
 clear hsb
 go_upto_region 2 with (fail)
 rw [<- hW3, <- HSBE.out]
 clear hW3 d2 y0 y1 y2
 obtain ⟨W4, hW4⟩ : ∃ W4, W4 = W3.alloc (.cells #[.int .i64 (u : Int), .int .i64 (-1)] 101) := ⟨_, rfl⟩
 obtain ⟨pb, hpb⟩ : ∃ b, b = W3.heap.size := ⟨_, rfl⟩
 have E4 : Ext W1 W4 := by rw [hW4]; exact E3.alloc _
 have hb4 : W4.heap[pb]? = some (.cells #[.int .i64 (u : Int), .int .i64 (-1)] 101 (0, 0)) := by rw [hW4, hpb]; exact heap_alloc_new W3 _
 have hs4 : W4.heap[sb]? = some (.cells #[.string s0, .int .i64 s1, .int .i64 s2] 60 (0, 0)) := by rw [hW4]; exact (((Ext.refl W3).alloc _).block _ (hltA hb3)).trans hb3
 have HPB : Hid (W1.heap.size <= pb) := Lib.hid (by rw [hpb]; exact E3.size)
 have HPBE := Lib.hid hpb
 clear hpb
 go_upto_region 3 with (fail)
 rw [<- hW4, <- HPBE.out]
 clear hW4 hb3 E3
 have v1 : W4.cell? ⟨sb, 1, none⟩ = _ := cell_of_row W4 sb 1 _ _ _ hs4
 have v2 : W4.cell? ⟨sb, 2, none⟩ = _ := cell_of_row W4 sb 2 _ _ _ hs4
 have HB4 := Lib.hid hb4
 have HX4 := Lib.hid (HE1.out.trans E4)
 have HX14 := Lib.hid E4
 have HL4 := Lib.hid (HL.out.ext HX4.out)
 clear hs4 hb4 E4
 have ha := HAE.out
 have hn := HNE.out
 have hR := HRE.out
 clear HAE HNE HRE
 by_cases hm : s1 = 0
 ·subst hm
  rw [if_pos rfl] at ha hn
  obtain ⟨kk, ff⟩ := (HX14.out.tch (fun _ => False)).cells HB1.out (fun h => h)
  have k0 := kk 0
  have k1 := kk 1
  have f0 := ff 0
  have f1 := ff 1
  clear kk ff
  by_cases hsec : s2 < 0
  ·rw [if_pos hsec] at ha
   rw [ha] at hR
   have HR := Lib.hid hR
   clear hR ha hn
   have hsd : decide (s2 < 0) = true := decide_eq_true hsec
   go_wp2_with fail
   refine bodyPost_ret (v := .tuple #[.agg #[.int .i64 0, .int .i64 0], .int .i64 8]) (by simp [results, Tryz.results115, go_sem, k0, k1]) rfl ⟨((HX4.out.tch X).setCell (p := ⟨w.heap.size, 0, none⟩) (fun hp => absurd hp (Nat.lt_irrefl _)) _).setCell (p := ⟨w.heap.size, 1, none⟩) (fun hp => absurd hp (Nat.lt_irrefl _)) _, ?_⟩
   rw [HR.out]
   exact ⟨by decide, 0, 0, rfl⟩
  ·rw [if_neg hsec] at ha
   rw [ha, hn] at hR
   replace hR : R = L.addS (L.note st (0, 0)) (u, x) := hR
   rw [note_zero] at hR
   have hsd : decide (s2 < 0) = false := decide_eq_false hsec
   have HA := Lib.hid ha
   have HDV := Lib.hid hux
   clear k0 k1 f0 f1 ha hn
   obtain ⟨WP, hWP⟩ : ∃ WP, WP = W4 := ⟨_, rfl⟩
   subst hWP
   have HLP := HL4
   have HBP := HB4
   have HTP := Lib.hid (HX4.out.tch X)
   have HBRP : Hid (WP.heap[w.heap.size]? = some (.cells #[.int .i64 0, .int .i64 0] 195 (0, 0))) := Lib.hid ((HX14.out.block _ (hltA HB1.out)).trans HB1.out)
   obtain ⟨kk, _⟩ := (Ext.refl WP |>.tch (fun _ => False)).cells HBP.out (fun h => h)
   have p0 := kk 0
   have p1 := kk 1
   clear kk
   go_upto_region 12 with (fail)
   go_wp2_with fail
   refine (add_any WP S X base g E (st) M k HLP.out (u, x) HDV.out hd hl).mono ?_
   rintro e w6 ⟨ht6, hr6⟩
   have HT6 := Lib.hid (HTP.out.trans ht6)
   obtain ⟨kk, ff⟩ := ht6.cells HBRP.out (off_new (w' := w) HL.out (Nat.le_refl _)).1
   have k0 := kk 0
   have k1 := kk 1
   have f0 := ff 0
   have f1 := ff 1
   clear kk ff ht6 p0 p1
   cases hadd : L.addS (st) (u, x) with
   | error n =>
    rw [hadd] at hr6 hR
    obtain rfl := hr6
    have hn10 : n = 10 := by
     unfold L.addS at hadd
     split at hadd
     ·cases hadd
     ·split at hadd
      ·cases hadd; rfl
      ·cases hadd
    subst hn10
    have HR := Lib.hid hR
    clear hR hadd
    go_wp2_with fail
    refine bodyPost_ret (v := .tuple #[.agg #[.int .i64 0, .int .i64 (-1)], .int .i64 10]) (by simp [results, Tryz.results115, go_sem, k0, k1]) rfl ⟨(HT6.out.setCell (p := ⟨w.heap.size, 0, none⟩) (fun hp => absurd hp (Nat.lt_irrefl _)) _).setCell (p := ⟨w.heap.size, 1, none⟩) (fun hp => absurd hp (Nat.lt_irrefl _)) _, ?_⟩
    rw [HR.out]
    exact ⟨by decide, 0, -1, rfl⟩
   | ok st' =>
    rw [hadd] at hr6 hR
    obtain ⟨rfl, X', k', hX', hL'⟩ := hr6
    have HR := Lib.hid hR
    have HL' := Lib.hid hL'
    have HX' := Lib.hid hX'
    obtain ⟨ps, hps⟩ : ∃ ps, ps = L.pos st'.1 (u, x) := ⟨_, rfl⟩
    rw [<- hps]
    have HPS := Lib.hid hps
    clear hR hadd hL' hX' hps
    go_wp2_with fail
    obtain ⟨W7, hW7⟩ : ∃ W7, W7 = (w6.setCell ⟨w.heap.size, 0, none⟩ (.int .i64 (ps : Int))).setCell ⟨w.heap.size, 1, none⟩ (.int .i64 (-1)) := ⟨_, rfl⟩
    have hX7 : Tch X w W7 := by rw [hW7]; exact (HT6.out.setCell (p := ⟨w.heap.size, 0, none⟩) (fun hp => absurd hp (Nat.lt_irrefl _)) _).setCell (p := ⟨w.heap.size, 1, none⟩) (fun hp => absurd hp (Nat.lt_irrefl _)) _
    have hY7 : Tch (fun b => b = w.heap.size) w6 W7 := by rw [hW7]; exact (((Ext.refl w6).tch (fun b => b = w.heap.size)).setCell (p := ⟨w.heap.size, 0, none⟩) (fun _ => rfl) _).setCell (p := ⟨w.heap.size, 1, none⟩) (fun _ => rfl) _
    have hwp : w.heap.size < WP.heap.size := (hltA HBRP.out)
    have hL7 := HL'.out.tch hY7 fun b hb => by
     subst hb
     refine ⟨fun hx => ?_, fun hs => absurd (HL.out.out _ hs).1 (Nat.lt_irrefl _)⟩
     rcases HX'.out _ hx with h | h
     ·exact absurd (HL.out.lt _ h).2 (Nat.lt_irrefl _)
     ·omega
    refine bodyPost_ret (v := .tuple #[.agg #[.int .i64 (ps : Int), .int .i64 (-1)], .int .i64 0]) (by simp [results, Tryz.results115, go_sem, k0, k1]) rfl ⟨by rw [<- hW7]; exact hX7, ?_⟩
    rw [HR.out]
    refine ⟨?_, X', k', fun b hb => ?_, by rw [<- hW7]; exact hL7⟩
    ·rw [HAI.out _ HA.out, HPS.out]
    ·rcases HX'.out b hb with h | h
     ·exact Or.inl h
     ·exact Or.inr (Nat.le_trans HTP.out.size h)
 ·rw [if_neg hm] at ha hn
  have hmd : (s1 == 0) = false := beq_eq_false_iff_ne.2 hm
  have HAE := Lib.hid ha
  have HNE := Lib.hid hn
  have HRE := Lib.hid hR
  clear ha hn hR
  go_wp2_with fail
  refine (resolve_any W4 S X base g E st M k HL4.out HE.out x hx).mono ?_
  rintro e w5 ⟨ht5, hr5⟩
  have ha := HAE.out
  have hn := HNE.out
  have hR := HRE.out
  have hpbw : w.heap.size < pb := by
   have := HPB.out
   have h1 := (hltA HB1.out)
   omega
  have hpN : ¬ pb < w.heap.size := by omega
  have hpX : ¬ X pb := fun hx => absurd (HL.out.lt _ hx).2 (by omega)
  have hpS : ¬ S pb := fun hs => absurd (HL.out.out _ hs).1 (by omega)
  have HT5 := Lib.hid ((HX4.out.tch X).trans ht5)
  have hb5 := (ht5.block _ (hltA HB4.out) hpX).trans HB4.out
  have hr1 : W4.heap[w.heap.size]? = some (.cells #[.int .i64 0, .int .i64 0] 195 (0, 0)) := (HX14.out.block _ (hltA HB1.out)).trans HB1.out
  have hbr5 := (ht5.block _ (hltA hr1) (off_new (w' := w) HL.out (Nat.le_refl _)).1).trans hr1
  have p0 : w5.cell? ⟨pb, 0, none⟩ = _ := cell_of_row w5 pb 0 _ _ _ hb5
  have p1 : w5.cell? ⟨pb, 1, none⟩ = _ := cell_of_row w5 pb 1 _ _ _ hb5
  have q0 := Lib.frozen_of_heap hb5 0
  have q1 := Lib.frozen_of_heap hb5 1
  have k0 : w5.cell? ⟨w.heap.size, 0, none⟩ = _ := cell_of_row w5 w.heap.size 0 _ _ _ hbr5
  have k1 : w5.cell? ⟨w.heap.size, 1, none⟩ = _ := cell_of_row w5 w.heap.size 1 _ _ _ hbr5
  have f0 := Lib.frozen_of_heap hbr5 0
  have f1 := Lib.frozen_of_heap hbr5 1
  have HB5 := Lib.hid hb5
  have HBR5 := Lib.hid hbr5
  have hr5 : match L.hit E x with
   | .twice => e = .returned (.tuple #[placeV (-1) (-1), .int .i64 6])
   | .unknown => e = .returned (.tuple #[placeV 0 0, .int .i64 8])
   | .unit u m => e = .returned (.tuple #[placeV u (-1), .int .i64 0]) /\ LinkAt w5 S X base g E (L.note st (m, 0)) M k
   | .lib j => e = .returned (.tuple #[placeV (-1) j, .int .i64 0]) /\ LinkAt w5 S X base g E (L.note st (E.mems.length, j + 1)) M k := hr5
  clear hb5 hbr5 hr1 HAE HNE HRE ht5 v1 v2
  cases hh : L.hit E x with
  | twice =>
   rw [hh] at hr5 ha
   obtain rfl := hr5
   replace ha : L.aim E u x = .bad 6 := ha
   rw [ha] at hR
   have HR := Lib.hid hR
   clear hR ha hn hh
   unfold placeV
   go_wp2_with fail
   refine bodyPost_ret (v := .tuple #[.agg #[.int .i64 0, .int .i64 0], .int .i64 6]) (by simp [results, Tryz.results115, go_sem, k0, k1]) rfl ⟨?_, ?_⟩
   ·exact ((((HT5.out.setCell (p := ⟨pb, 0, none⟩) (fun hp => absurd hp hpN) _).setCell (p := ⟨pb, 1, none⟩) (fun hp => absurd hp hpN) _).setCell (p := ⟨w.heap.size, 0, none⟩) (fun hp => absurd hp (Nat.lt_irrefl _)) _).setCell (p := ⟨w.heap.size, 1, none⟩) (fun hp => absurd hp (Nat.lt_irrefl _)) _)
   ·rw [HR.out]
    exact ⟨by decide, 0, 0, rfl⟩
  | unknown =>
   rw [hh] at hr5 ha
   obtain rfl := hr5
   replace ha : L.aim E u x = .bad 8 := ha
   rw [ha] at hR
   have HR := Lib.hid hR
   clear hR ha hn hh
   unfold placeV
   go_wp2_with fail
   refine bodyPost_ret (v := .tuple #[.agg #[.int .i64 0, .int .i64 0], .int .i64 8]) (by simp [results, Tryz.results115, go_sem, k0, k1]) rfl ⟨?_, ?_⟩
   ·exact ((((HT5.out.setCell (p := ⟨pb, 0, none⟩) (fun hp => absurd hp hpN) _).setCell (p := ⟨pb, 1, none⟩) (fun hp => absurd hp hpN) _).setCell (p := ⟨w.heap.size, 0, none⟩) (fun hp => absurd hp (Nat.lt_irrefl _)) _).setCell (p := ⟨w.heap.size, 1, none⟩) (fun hp => absurd hp (Nat.lt_irrefl _)) _)
   ·rw [HR.out]
    exact ⟨by decide, 0, 0, rfl⟩
  | lib j =>
   rw [hh] at hr5 ha hn
   obtain ⟨rfl, hl5⟩ := hr5
   replace ha : L.aim E u x = .lib j := ha
   rw [ha] at hR
   replace hR : R = .ok (L.note st (L.aimN E u x)) := hR
   rw [hn] at hR
   replace hR : R = .ok (L.note st (E.mems.length, j + 1)) := hR
   have HR := Lib.hid hR
   have HA := Lib.hid ha
   have HL5 := Lib.hid hl5
   clear hR ha hn hh hl5
   unfold placeV
   go_wp2_with fail
   obtain ⟨W7, hW7⟩ : ∃ W7, W7 = (((w5.setCell ⟨pb, 0, none⟩ (.int .i64 (-1))).setCell ⟨pb, 1, none⟩ (.int .i64 (j : Int))).setCell ⟨w.heap.size, 0, none⟩ (.int .i64 (-1))).setCell ⟨w.heap.size, 1, none⟩ (.int .i64 (j : Int)) := ⟨_, rfl⟩
   have hX7 : Tch X w W7 := by rw [hW7]; exact ((((HT5.out.setCell (p := ⟨pb, 0, none⟩) (fun hp => absurd hp hpN) _).setCell (p := ⟨pb, 1, none⟩) (fun hp => absurd hp hpN) _).setCell (p := ⟨w.heap.size, 0, none⟩) (fun hp => absurd hp (Nat.lt_irrefl _)) _).setCell (p := ⟨w.heap.size, 1, none⟩) (fun hp => absurd hp (Nat.lt_irrefl _)) _)
   have hY7 : Tch (fun b => b = pb ∨ b = w.heap.size) w5 W7 := by rw [hW7]; exact (((((Ext.refl w5).tch (fun b => b = pb ∨ b = w.heap.size)).setCell (p := ⟨pb, 0, none⟩) (fun _ => Or.inl rfl) _).setCell (p := ⟨pb, 1, none⟩) (fun _ => Or.inl rfl) _).setCell (p := ⟨w.heap.size, 0, none⟩) (fun _ => Or.inr rfl) _).setCell (p := ⟨w.heap.size, 1, none⟩) (fun _ => Or.inr rfl) _
   have hL7 := HL5.out.tch hY7 fun b hb => by
    rcases hb with rfl | rfl
    ·exact ⟨hpX, hpS⟩
    ·exact off_new (w' := w) HL.out (Nat.le_refl _)
   refine bodyPost_ret (v := .tuple #[.agg #[.int .i64 (-1), .int .i64 (j : Int)], .int .i64 0]) (by simp [results, Tryz.results115, go_sem, k0, k1]) rfl ⟨by rw [<- hW7]; exact hX7, ?_⟩
   rw [HR.out]
   refine ⟨?_, X, k, fun b hb => Or.inl hb, by rw [<- hW7]; exact hL7⟩
   rw [HAI.out _ HA.out]
  | unit v m =>
   have hvu : v < E.units.length := (L.hit_sec HE.out.units hh).1
   rw [hh] at hr5 ha hn
   obtain ⟨rfl, hl5⟩ := hr5
   replace ha : L.aim E u x = .spot (v, x) := ha
   rw [ha] at hR
   replace hR : R = L.addS (L.note st (L.aimN E u x)) (v, x) := hR
   rw [hn] at hR
   replace hR : R = L.addS (L.note st (m, 0)) (v, x) := hR
   have HDV := Lib.hid (show DomP (v, x) from ⟨by show v < _; have := HE.out.few; omega, hx⟩)
   have HA := Lib.hid ha
   have HRE := Lib.hid hR
   clear ha hn hh hR k0 k1 f0 f1
   unfold placeV
   go_upto_region 6 with (fail)
   obtain ⟨WP, hWP⟩ : ∃ WP, WP = (w5.setCell ⟨pb, 0, none⟩ (.int .i64 (v : Int))).setCell ⟨pb, 1, none⟩ (.int .i64 (-1)) := ⟨_, rfl⟩
   have hYP : Tch (fun b => b = pb) w5 WP := by rw [hWP]; exact (((Ext.refl w5).tch (fun b => b = pb)).setCell (p := ⟨pb, 0, none⟩) (fun _ => rfl) _).setCell (p := ⟨pb, 1, none⟩) (fun _ => rfl) _
   have HBP : Hid (WP.heap[pb]? = some (.cells #[.int .i64 (v : Int), .int .i64 (-1)] 101 (0, 0))) := Lib.hid (by rw [hWP]; exact heap_setCell_cells (heap_setCell_cells HB5.out 0 _) 1 _)
   have HBRP := Lib.hid ((hYP.block _ (hltA HBR5.out) (by omega)).trans HBR5.out)
   have HLP := Lib.hid (hl5.tch hYP fun b hb => by subst hb; exact ⟨hpX, hpS⟩)
   have HTP := Lib.hid (HT5.out.trans' hYP fun b hb e => absurd hb (by omega))
   rw [<- hWP]
   clear hWP hYP hl5 p0 p1 q0 q1
   have hR := HRE.out
   clear HRE
   obtain ⟨kk, _⟩ := (Ext.refl WP |>.tch (fun _ => False)).cells HBP.out (fun h => h)
   have p0 := kk 0
   have p1 := kk 1
   clear kk
   go_upto_region 12 with (fail)
   go_wp2_with fail
   refine (add_any WP S X base g E (L.note st (m, 0)) M k HLP.out (v, x) HDV.out hd hl).mono ?_
   rintro e w6 ⟨ht6, hr6⟩
   have HT6 := Lib.hid (HTP.out.trans ht6)
   obtain ⟨kk, ff⟩ := ht6.cells HBRP.out (off_new (w' := w) HL.out (Nat.le_refl _)).1
   have k0 := kk 0
   have k1 := kk 1
   have f0 := ff 0
   have f1 := ff 1
   clear kk ff ht6 p0 p1
   cases hadd : L.addS (L.note st (m, 0)) (v, x) with
   | error n =>
    rw [hadd] at hr6 hR
    obtain rfl := hr6
    have hn10 : n = 10 := by
     unfold L.addS at hadd
     split at hadd
     ·cases hadd
     ·split at hadd
      ·cases hadd; rfl
      ·cases hadd
    subst hn10
    have HR := Lib.hid hR
    clear hR hadd
    go_wp2_with fail
    refine bodyPost_ret (v := .tuple #[.agg #[.int .i64 0, .int .i64 (-1)], .int .i64 10]) (by simp [results, Tryz.results115, go_sem, k0, k1]) rfl ⟨(HT6.out.setCell (p := ⟨w.heap.size, 0, none⟩) (fun hp => absurd hp (Nat.lt_irrefl _)) _).setCell (p := ⟨w.heap.size, 1, none⟩) (fun hp => absurd hp (Nat.lt_irrefl _)) _, ?_⟩
    rw [HR.out]
    exact ⟨by decide, 0, -1, rfl⟩
   | ok st' =>
    rw [hadd] at hr6 hR
    obtain ⟨rfl, X', k', hX', hL'⟩ := hr6
    have HR := Lib.hid hR
    have HL' := Lib.hid hL'
    have HX' := Lib.hid hX'
    obtain ⟨ps, hps⟩ : ∃ ps, ps = L.pos st'.1 (v, x) := ⟨_, rfl⟩
    rw [<- hps]
    have HPS := Lib.hid hps
    clear hR hadd hL' hX' hps
    go_wp2_with fail
    obtain ⟨W7, hW7⟩ : ∃ W7, W7 = (w6.setCell ⟨w.heap.size, 0, none⟩ (.int .i64 (ps : Int))).setCell ⟨w.heap.size, 1, none⟩ (.int .i64 (-1)) := ⟨_, rfl⟩
    have hX7 : Tch X w W7 := by rw [hW7]; exact (HT6.out.setCell (p := ⟨w.heap.size, 0, none⟩) (fun hp => absurd hp (Nat.lt_irrefl _)) _).setCell (p := ⟨w.heap.size, 1, none⟩) (fun hp => absurd hp (Nat.lt_irrefl _)) _
    have hY7 : Tch (fun b => b = w.heap.size) w6 W7 := by rw [hW7]; exact (((Ext.refl w6).tch (fun b => b = w.heap.size)).setCell (p := ⟨w.heap.size, 0, none⟩) (fun _ => rfl) _).setCell (p := ⟨w.heap.size, 1, none⟩) (fun _ => rfl) _
    have hwp : w.heap.size < WP.heap.size := (hltA HBRP.out)
    have hL7 := HL'.out.tch hY7 fun b hb => by
     subst hb
     refine ⟨fun hx => ?_, fun hs => absurd (HL.out.out _ hs).1 (Nat.lt_irrefl _)⟩
     rcases HX'.out _ hx with h | h
     ·exact absurd (HL.out.lt _ h).2 (Nat.lt_irrefl _)
     ·omega
    refine bodyPost_ret (v := .tuple #[.agg #[.int .i64 (ps : Int), .int .i64 (-1)], .int .i64 0]) (by simp [results, Tryz.results115, go_sem, k0, k1]) rfl ⟨by rw [<- hW7]; exact hX7, ?_⟩
    rw [HR.out]
    refine ⟨?_, X', k', fun b hb => ?_, by rw [<- hW7]; exact hL7⟩
    ·rw [HAI.out _ HA.out, HPS.out]
    ·rcases HX'.out b hb with h | h
     ·exact Or.inl h
     ·exact Or.inr (Nat.le_trans HTP.out.size h)
end Go.Proofs.YtfbhchpbflaphaaGreatDoor

namespace Go.Proofs.YtfbhchpbflaphaaGreatDoor
open Go.RowKit Go.Maps Go.ChangeMaps
theorem meanI_keep {E : L.Env} {l m : List L.Spot} {u : Nat} {x : ByteArray} (hp : l <+: m) (h : ∀ p, L.aim E u x = .spot p -> p ∈ l) : meanI E m u x = meanI E l u x := by
 unfold meanI
 cases ha : L.aim E u x with
 | bad e => rfl
 | lib j => rfl
 | spot p =>
  show ((L.pos m p : Int), (-1 : Int)) = ((L.pos l p : Int), -1)
  rw [L.idx_keep hp (h p ha)]
def relMeans (E : L.Env) (l : List L.Spot) (u : Nat) (rs : List C.Rel) : List (Int × Int) := rs.map fun r => meanI E l u r.2
def meansTo (E : L.Env) (l : List L.Spot) (k : Nat) : List (List (Int × Int)) := (l.take k).map fun p => relMeans E l p.1 (E.rels p)
theorem relMeans_keep {E : L.Env} {l m : List L.Spot} {u : Nat} {rs : List C.Rel} (hp : l <+: m) (h : ∀ r ∈ rs, ∀ p, L.aim E u r.2 = .spot p -> p ∈ l) : relMeans E m u rs = relMeans E l u rs :=
 List.map_congr_left fun r hr => meanI_keep hp (h r hr)
theorem take_keep {l m : List L.Spot} {k : Nat} (hp : l <+: m) (hk : k <= l.length) : m.take k = l.take k := by
 obtain ⟨t, rfl⟩ := hp
 exact List.take_append_of_le_length hk
theorem meansTo_keep {E : L.Env} {l m : List L.Spot} {k : Nat} (hp : l <+: m) (hk : k <= l.length) (h : L.Closed E l k) : meansTo E m k = meansTo E l k := by
 unfold meansTo
 rw [take_keep hp hk]
 refine List.map_congr_left fun p hpm => ?_
 obtain ⟨i, hi, rfl⟩ := List.getElem_of_mem hpm
 rw [List.length_take] at hi
 rw [List.getElem_take]
 exact relMeans_keep hp fun r hr q hq => h i (by omega) (by omega) r hr q hq
theorem meansTo_succ {E : L.Env} {l : List L.Spot} {k : Nat} (hk : k < l.length) : meansTo E l (k + 1) = meansTo E l k ++ [relMeans E l l[k].1 (E.rels l[k])] := by
 unfold meansTo
 rw [List.take_succ_eq_append_getElem hk, List.map_append]
 rfl
theorem relMeans_snoc (E : L.Env) (l : List L.Spot) (u : Nat) (rs : List C.Rel) {j : Nat} (hj : j < rs.length) : relMeans E l u (rs.take (j + 1)) = relMeans E l u (rs.take j) ++ [meanI E l u rs[j].2] := by
 unfold relMeans
 rw [List.take_succ_eq_append_getElem hj, List.map_append]
 rfl
def thenE (r : Except Int L.St) (f : L.St -> Except Int L.St) : Except Int L.St := match r with | .error e => .error e | .ok s => f s
theorem relsF_step {E : L.Env} {u : Nat} {rs : List C.Rel} {j : Nat} (hj : j < rs.length) (st : L.St) : L.relsF E u (rs.drop j) st = thenE (L.stepR E u st rs[j].2) fun st' => L.relsF E u (rs.drop (j + 1)) st' := by
 rw [List.drop_eq_getElem_cons hj, L.relsF]
 cases L.stepR E u st rs[j].2 <;> rfl
theorem selF_step {E : L.Env} {f k : Nat} {st : L.St} (hk : k < st.1.length) : L.selF E (f + 1) k st = thenE (L.relsF E st.1[k].1 (E.rels st.1[k]) st) fun st' => L.selF E f (k + 1) st' := by
 rw [L.selF, List.getElem?_eq_getElem hk]
 unfold thenE
 show (match L.relsF E st.1[k].1 (E.rels st.1[k]) st with | .error e => (Except.error e : Except Int L.St) | .ok st' => L.selF E f (k + 1) st') = _
 cases L.relsF E st.1[k].1 (E.rels st.1[k]) st <;> rfl
theorem selF_end {E : L.Env} {f k : Nat} {st : L.St} (hk : ¬ k < st.1.length) : L.selF E f k st = .ok st := by
 cases f with
 | zero => rfl
 | succ f => rw [L.selF, List.getElem?_eq_none (by omega)]
theorem rel_getB {w : World} {B : Nat -> Prop} {A : Option Addr} {c k : Nat} {l : List C.Rel} (h : SliceAt relR w B A c l) (hk : k < l.length) :
 ∃ b off, A = some ⟨b, off, none⟩ /\ B b /\ (Lit.int .i64 l[k].1).wf = true /\ l[k].2.size <= 9223372036854775807 /\ w.cell? ⟨b, off + k * 2, none⟩ = some (.int .i64 l[k].1) /\ w.cell? ⟨b, off + k * 2 + 1, none⟩ = some (.string l[k].2) := by
 obtain ⟨b, off, rfl, hb, hr⟩ := h.2.2 (by intro h; rw [h] at hk; simp at hk)
 obtain ⟨us, ⟨x, y, rfl, ⟨rfl, hw⟩, rfl, hs⟩, hc⟩ := hr k hk
 exact ⟨b, off, rfl, hb, hw, hs, hc 0 _ rfl, hc 1 _ rfl⟩
theorem spot_dom {E : L.Env} (hE : EnvOk E) {p : L.Spot} (h : p.1 < E.units.length /\ (E.sec? p).isSome = true) : DomP p := by
 obtain ⟨c, hc⟩ := Option.isSome_iff_exists.1 h.2
 obtain ⟨m, s, h1, h2, _⟩ := L.sec_parts hc
 obtain ⟨h3, h4⟩ := L.symP_mem h2
 obtain ⟨hu, rfl⟩ := List.getElem?_eq_some_iff.1 h1
 have := (hE.sizes _ (List.getElem_mem hu)).2 s h3
 have e : s.1 = p.2 := bytes_inj h4
 refine ⟨?_, ?_⟩
 ·have := hE.few; have := h.1; omega
 ·rw [<- e]; omega
theorem list_dom {E : L.Env} (hE : EnvOk E) {l : List L.Spot} (h : L.ListOk E l) : ∀ p ∈ l, DomP p := fun p hp => spot_dom hE (h.2.2 p hp)
theorem rels_len {syms : List C.Sym} {d : C.Bs} : ∀ {l : List C.Rel} {e : Int}, C.relsB syms d l e = true -> l = [] ∨ e + 4 * (l.length : Int) <= d.length
 | [], _, _ => Or.inl rfl
 | r :: l, e, h => by
  unfold C.relsB at h
  simp only [Bool.and_eq_true, decide_eq_true_eq] at h
  obtain ⟨⟨⟨⟨h1, h2⟩, _⟩, _⟩, h5⟩ := h
  refine Or.inr ?_
  rw [List.length_cons]
  rcases rels_len h5 with rfl | h6
  ·simp only [List.length_nil]; omega
  ·omega
theorem rels_few {E : L.Env} (hE : EnvOk E) {p : L.Spot} {c : C.Sec} (h : E.sec? p = some c) : c.2.2.length <= 2048 /\ c.2.1.size <= 8192 := by
 obtain ⟨m, _, h2⟩ := L.sec_ok hE.units h
 unfold C.secB at h2
 simp only [Bool.and_eq_true, decide_eq_true_eq] at h2
 refine ⟨?_, h2.2⟩
 have hd : (c.2.1.data.toList.length : Int) = c.2.1.size := by simp
 rcases rels_len h2.1.2 with e | e
 ·rw [e]; simp
 ·omega
theorem info195 : (Tryz.prog.info? 195).map (fun i => (i.zero, i.size, i.bytes)) = some (some (.agg #[.int .i64 0, .int .i64 0]), 2, 16) := by kernel_rfl
theorem info193 : (Tryz.prog.info? 193).map (fun i => (i.zero, i.size, i.bytes)) = some (some (.slice none 0 0), 1, 24) := by kernel_rfl
theorem meanC_one (q : Int × Int) : ∀ u ∈ meanC q, u.oneCell' = true := by
 intro u hu
 simp only [meanC, List.mem_cons, List.not_mem_nil, or_false] at hu
 rcases hu with rfl | rfl <;> rfl
theorem mean_cells (W : World) (a b : Int) (t : TypeId) (g : Nat) (hb : g = W.heap.size) : ∀ j v, (meanC (a, b))[j]? = some v -> (W.alloc (.cells #[.int .i64 a, .int .i64 b] t)).cell? ⟨g, j, none⟩ = some v := by
 subst hb
 intro j v hj
 rw [cell_new]
 match j with
 | 0 => simpa [meanC] using hj
 | 1 => simpa [meanC] using hj
 | j + 2 => simp [meanC] at hj
theorem LinkAt.noted {a d : World} {S X : Nat -> Prop} {base g : Nat} {E : L.Env} {st : L.St} {M : List (List (Int × Int))} {k : LC} (h : LinkAt a S X base g E st M k) {l : List (Int × Int)} {A : Option Addr} {c : Nat} {B : Nat -> Prop} (hl : SliceAt meanR a B A c l) (hB : ∀ i, B i -> i < a.heap.size /\ ¬ X i)
 {v : Value} {xs : List Value} (hfl : Flat (sliceR meanR) a S M xs) (ho' : OwnAt d base 193 1 v (M.length + 1) (xs ++ [.slice A l.length c])) (hcd : a.grownBy d k.vM.ownBlock)
 (hv : v.ownBlock = k.vM.ownBlock ∨ ∃ i, v.ownBlock = some i /\ a.heap.size <= i /\ i < d.heap.size) :
 LinkAt (d.setCell ⟨g, 8, none⟩ v) (fun i => S i ∨ B i) (fun i => X i ∨ v.ownBlock = some i) base g E st (M ++ [l]) { k with vM := v } /\ Tch X a (d.setCell ⟨g, 8, none⟩ v) /\ (∀ i, v.ownBlock = some i -> X i ∨ a.heap.size <= i) /\ d.frozen? ⟨g, 8, none⟩ = false := by
 have hnew : ∀ i, v.ownBlock = some i -> X i ∨ a.heap.size <= i := by
  intro i hi
  rcases hv with e | ⟨j, e, h1, _⟩
  ·exact Or.inl (h.inX.2.2.2.2 i (by rw [<- e]; exact hi))
  ·rw [e] at hi
   cases hi
   exact Or.inr h1
 have hcd' : Tch (fun i => k.vM.ownBlock = some i) a d := ⟨hcd.os, hcd.tape, hcd.output, hcd.size, fun i hi hx => hcd.block i hi fun e => hx e.symm⟩
 have hde : Tch (fun i => i = g) d (d.setCell ⟨g, 8, none⟩ v) := grown_tch (grownBy_setCell d ⟨g, 8, none⟩ v)
 have hae : Tch (fun i => k.vM.ownBlock = some i ∨ i = g) a (d.setCell ⟨g, 8, none⟩ v) := (hcd'.mono fun _ _ e => Or.inl e).trans (hde.mono fun _ _ e => Or.inr e)
 have hXs : ∀ i, (k.vM.ownBlock = some i ∨ i = g) -> X i := by
  rintro i (e | rfl)
  ·exact h.inX.2.2.2.2 i e
  ·exact h.inX.1
 have hS : ∀ i, S i -> i < a.heap.size /\ ¬ (k.vM.ownBlock = some i ∨ i = g) := fun i hi => ⟨(h.out i hi).1, fun e => (h.out i hi).2 (hXs i e)⟩
 have hne : ∀ i, v.ownBlock = some i -> i ≠ g /\ i ≠ k.bk /\ i ≠ k.bi /\ k.vL.ownBlock ≠ some i := by
  intro i hi
  rcases hv with e | ⟨j, e, h1, _⟩
  ·have hi' : k.vM.ownBlock = some i := by rw [<- e]; exact hi
   obtain ⟨a1, a2, a3⟩ := h.apart.2.2 i hi'
   exact ⟨a1, a2, a3, fun e2 => (h.apart.2.1 i e2).2.2.2 hi'⟩
  ·rw [e] at hi
   cases hi
   have key : ∀ t, X t -> i ≠ t := fun t ht e => absurd (h.lt t ht).2 (by omega)
   exact ⟨key g h.inX.1, key _ h.inX.2.1, key _ h.inX.2.2.1, fun e => key i (h.inX.2.2.2.1 i e) rfl⟩
 have hrow : LRow d g (.slice k.A E.units.length k.c) (.slice k.B E.libs.length k.d) k.vL k.vM E.objs.length st.2.1 st.2.2 k.bk k.bi := h.row.tch hcd' fun e => (h.apart.2.2 g e).1 rfl
 refine ⟨?_, hae.mono fun i _ e => hXs i e, hnew, hrow.frozen 8⟩
 exact {
  row := hrow.set8 v
  units := (h.units.tch hae hS).keep (fun _ h => Or.inl h) fun _ _ => rfl
  libs := (h.libs.tch hae hS).keep (fun _ h => Or.inl h) fun _ _ => rfl
  known := by
   obtain ⟨f, h1, h2⟩ := h.known
   refine ⟨f, h1.tch hae ?_, h2⟩
   rintro (e | e)
   ·exact (h.apart.2.2 _ e).2.1 rfl
   ·exact h.apart.1.1 e.symm
  list := by
   refine h.list.tch hae ?_
   rintro i hi (e | e)
   ·exact (h.apart.2.1 i hi).2.2.2 e
   ·exact (h.apart.2.1 i hi).1 e
  index := by
   refine h.index.tch hae ?_
   rintro (e | e)
   ·exact (h.apart.2.2 _ e).2.2 rfl
   ·exact h.apart.1.2.1 e.symm
  means := by
   refine ⟨xs ++ [.slice A l.length c], ?_, ?_⟩
   ·have := ho'.tch hde fun i hi e => (hne i hi).1 e
    rw [show M.length + 1 = (M ++ [l]).length by simp] at this
    exact this
   ·have h1 := (hfl.tch hae hS).keep (S' := fun i => S i ∨ B i) (fun _ h => Or.inl h) fun _ _ => rfl
    have h2 : SliceAt meanR (d.setCell ⟨g, 8, none⟩ v) (fun i => S i ∨ B i) A c l := (hl.tch hae fun i hi => ⟨(hB i hi).1, fun e => (hB i hi).2 (hXs i e)⟩).keep (fun _ h => Or.inr h) fun _ _ => rfl
    exact Flat.append (Flat.one (r := sliceR meanR) (a := l) (us := [.slice A l.length c]) ⟨A, c, rfl, h2⟩) h1
  inX := ⟨Or.inl h.inX.1, Or.inl h.inX.2.1, Or.inl h.inX.2.2.1, fun i hi => Or.inl (h.inX.2.2.2.1 i hi), fun i hi => Or.inr hi⟩
  apart := ⟨h.apart.1, fun i hi => ⟨(h.apart.2.1 i hi).1, (h.apart.2.1 i hi).2.1, (h.apart.2.1 i hi).2.2.1, fun e => (hne i e).2.2.2 hi⟩, fun i hi => ⟨(hne i hi).1, (hne i hi).2.1, (hne i hi).2.2.1⟩⟩
  out := fun i hi => by
   rcases hi with hi | hi
   ·refine ⟨Nat.lt_of_lt_of_le (h.out i hi).1 hae.size, fun e => ?_⟩
    rcases e with e | e
    ·exact (h.out i hi).2 e
    ·rcases hnew i e with e' | e'
     ·exact (h.out i hi).2 e'
     ·have := (h.out i hi).1; omega
   ·refine ⟨Nat.lt_of_lt_of_le (hB i hi).1 hae.size, fun e => ?_⟩
    rcases e with e | e
    ·exact (hB i hi).2 e
    ·rcases hnew i e with e' | e'
     ·exact (hB i hi).2 e'
     ·have := (hB i hi).1; omega
  lt := fun i hi => by
   rcases hi with hi | hi
   ·exact ⟨(h.lt i hi).1, Nat.lt_of_lt_of_le (h.lt i hi).2 hae.size⟩
   ·exact ⟨(ho'.lt hi).1, Nat.lt_of_lt_of_le (ho'.lt hi).2 hde.size⟩ }
end Go.Proofs.YtfbhchpbflaphaaGreatDoor
