/- The texts Lex TkP of the seat, joined. -/
import Derived.Test.YtfbhchpbflaphaaGreatDoorG1
import Derived.IntWalk
import Derived.Laws.RangeAny
import Derived.Laws.RangeString
import Derived.Shelf.GgClosure.StringsIndexFunc
/- A region whose order is open, walked once in the order of the text: what only reads has one value in all later worlds; what does more comes in one order alone. For any program. -/
namespace Go.Proofs.YtfbhchpbflaphaaGreatDoor
open Go.RowKit

/-- No way out but the normal one. -/
def NoQ : Exit → Act → World → Prop := fun _ _ _ => False
theorem noQ_out : ¬ LetsOut NoQ := fun ⟨_, _, h⟩ => h

/-- The operation yields v here, and leaves the world alone. -/
def pureUpon (w : World) (v : Value) : Result Next → Prop
  | .ok (.value u) w' => w' = w ∧ u = v
  | .ok .skip w' => w' = w ∧ v = undef
  | _ => False
def pureAt (P : Program) (o : Oper) (a : Act) (w : World) (v : Value) : Prop := pureUpon w v ((execOp a.eval o).run P w)
theorem pureAt_det {P : Program} {o : Oper} {a : Act} {w : World} {v u : Value} (h : pureAt P o a w v) (k : pureAt P o a w u) : v = u := by
  unfold pureAt at h k
  generalize (execOp a.eval o).run P w = r at h k
  cases r with
  | ok n w' => cases n <;> simp only [pureUpon] at h k <;> first | exact h.2.symm.trans k.2 | exact h.2.trans k.2.symm
  | halt _ _ => simp only [pureUpon] at h
theorem pureAt_same {P : Program} {o : Oper} {a a' : Act} {w : World} {v : Value} (he : execOp a'.eval o = execOp a.eval o) (h : pureAt P o a w v) : pureAt P o a' w v := by
  unfold pureAt at *; rw [he]; exact h

/-- An operation that gives a value and calls no Go function. -/
def plainOp (o : Oper) : Bool :=
  match o.op with
  | .call c => match c.callee with
    | .builtin .len | .builtin .cap | .builtin .min | .builtin .max => true
    | _ => false
  | .move _ | .assign _ | .pick _ _ _ | .build _ _ | .load _ _ | .waits _ | .binOp _ _ _ _ _ | .unOp _ _ _ | .convert _ _ _ | .makeInterface _ _ | .makeFunc _ _ _ | .slice _ _ _ _ _ | .fieldAddr _ _ _ | .field _ _ _
  | .indexAddr _ _ _ | .index _ _ _ | .lookup _ _ _ _ | .extract _ _ | .nilCheck _ | .ready _ => true
  | _ => false

theorem run_v {P : Program} {w : World} (s : Sem Value) (f : FuncId) (args : Array Value) (w' : World) : (do pure (Next.value (← s)) : Sem Next).run P w ≠ .ok (.enter f args) w' := by
  simp only [Sem.run_bind]
  cases s.run P w <;> simp [Result.andThen]
theorem andThen_v {r : Result Value} (f : FuncId) (args : Array Value) (w' : World) : (r.andThen fun a w' => Result.ok (Next.value a) w') ≠ .ok (.enter f args) w' := by
  cases r <;> simp [Result.andThen]
theorem run_u {P : Program} {w : World} (s : Sem Unit) (f : FuncId) (args : Array Value) (w' : World) : (do s; pure Next.skip : Sem Next).run P w ≠ .ok (.enter f args) w' := by
  simp only [Sem.run_bind]
  cases s.run P w <;> simp [Result.andThen]

section
variable {P : Program} {ops : Array Oper} {md : Region.Mode} {C : World → Prop} {E : List Nat}

def xOp (P : Program) (ops : Array Oper) (C : World → Prop) (E : List Nat) (i : Nat) (K : Act → World → Prop) (a : Act) (w : World) : Prop :=
  match ops[i]? with
  | none => K a w
  | some o =>
    if Region.wanted o (yielded ops a.tmps) = true then
      (if i ∈ E then o.wp P a w (fun a' w' => C w' ∧ K a' w') NoQ else ∃ v, (∀ w', C w' → pureAt P o a w' v) ∧ K (a.put o.dst v) w)
    else K (a.put o.dst undef) w

def wpAnyX (P : Program) (md : Region.Mode) (ops : Array Oper) (C : World → Prop) (E : List Nat) (R : Act → World → Prop) : Nat → Array Bool → Act → World → Prop
  | 0, listed, a, w => Region.ready md ops listed = [] ∧ R a w
  | fuel + 1, listed, a, w =>
    (Region.ready md ops listed = [] → R a w) ∧ ∀ i ∈ Region.ready md ops listed, xOp P ops C E i (wpAnyX P md ops C E R fuel (listed.setIfInBounds i true)) a w

theorem xOp_mono {i : Nat} {K K' : Act → World → Prop} {a : Act} {w : World} (hC : C w) (h : ∀ a w, C w → K a w → K' a w) (hh : xOp P ops C E i K a w) : xOp P ops C E i K' a w := by
  unfold xOp at *
  split
  · rename_i ho; simp only [ho] at hh; exact h _ _ hC hh
  · rename_i o ho
    simp only [ho] at hh
    split
    · rename_i hw
      simp only [hw, if_true] at hh
      split
      · rename_i hE
        simp only [hE, if_true] at hh
        exact Oper.wp_mono (fun a w ⟨h1, h2⟩ => ⟨h1, h _ _ h1 h2⟩) hh
      · rename_i hE
        simp only [hE, if_false] at hh
        obtain ⟨v, h1, h2⟩ := hh
        exact ⟨v, h1, h _ _ hC h2⟩
    · rename_i hw
      simp only [hw] at hh
      exact h _ _ hC hh

theorem wp_exits {o : Oper} {a : Act} {w : World} {K : Act → World → Prop} {Q : Exit → Act → World → Prop} (h : o.wp P a w K NoQ) : o.wp P a w K Q := by
  unfold Oper.wp at *
  generalize (execOp a.eval o).run P w = r at *
  cases r with
  | ok n w' =>
    cases n <;> simp only [Oper.upon] at h ⊢ <;>
      first
        | exact h
        | exact Calls.mono h (fun e w'' he => by cases e <;> first | exact he | exact (he : False).elim | exact absurd he noQ_out)
  | halt x w' => cases x <;> simp only [Oper.upon] at h ⊢ <;> exact (h : False).elim

theorem wp_put {o : Oper} {a : Act} {w : World} {K : Act → World → Prop} {d : Option Tmp} {v : Value} (he : execOp (a.put d v).eval o = execOp a.eval o) (hne : ∀ x, d = some x → o.dst ≠ some x) :
    o.wp P (a.put d v) w K NoQ ↔ o.wp P a w (fun a1 w1 => K (a1.put d v) w1) NoQ := by
  have hc : ∀ (b : Act) (u : Value), (b.put d v).put o.dst u = (b.put o.dst u).put d v := fun b u => Act.put_comm b v u hne
  have hd : ∀ x : Deferred, ({ (a.put d v) with defers := x :: (a.put d v).defers } : Act) = ({ a with defers := x :: a.defers } : Act).put d v := fun x => by cases d <;> rfl
  unfold Oper.wp
  rw [he]
  generalize (execOp a.eval o).run P w = r
  cases r with
  | ok n w' =>
    cases n <;> simp only [Oper.upon, hc, hd]
    · constructor <;> intro h <;> exact Calls.mono h (fun e w'' he => by cases e <;> first | exact he | exact (he : False).elim)
  | halt x w' => cases x <;> simp only [Oper.upon] <;> exact Iff.rfl

theorem wp_some {o : Oper} {a : Act} {w : World} {K : Act → World → Prop} (h : o.wp P a w K NoQ) : ∃ a1 w1 u, K a1 w1 ∧ a1.tmps = (a.put o.dst u).tmps := by
  unfold Oper.wp at h
  generalize (execOp a.eval o).run P w = r at h
  cases r with
  | ok n w' =>
    cases n <;> simp only [Oper.upon] at h
    case value v => exact ⟨_, _, v, h, rfl⟩
    case skip => exact ⟨_, _, undef, h, rfl⟩
    case enter f args =>
      obtain ⟨e, w1, fr, hR, _⟩ := h []
      cases e with
      | returned v => exact ⟨_, _, v, hR, rfl⟩
      | panicked c => exact (hR : False).elim
      | outgrown => exact absurd hR noQ_out
    case row row args =>
      obtain ⟨v, w1, hR, _⟩ := h default []
      exact ⟨_, _, v, hR, rfl⟩
    case defer x =>
      refine ⟨_, _, undef, h, ?_⟩
      cases o.dst <;> rfl
  | halt x w' => cases x <;> simp only [Oper.upon] at h <;> exact (h : False).elim

theorem eval_tmps {a b : Act} (h : a.tmps = b.tmps) : a.eval = b.eval := by
  funext x
  cases x <;> simp [Act.eval, h]

theorem xOp_some {i : Nat} {K : Act → World → Prop} {a : Act} {w : World} (h : xOp P ops C E i K a w) : ∃ a' w', K a' w' := by
  unfold xOp at h
  split at h
  · exact ⟨_, _, h⟩
  · split at h
    · split at h
      · obtain ⟨a1, w1, _, h1, _⟩ := wp_some h
        exact ⟨_, _, h1.2⟩
      · obtain ⟨v, _, h1⟩ := h
        exact ⟨_, _, h1⟩
    · exact ⟨_, _, h⟩

theorem xOp_swap {i j : Nat} {oi oj : Oper} {K : Act → World → Prop} {a : Act} {w : World} (hi : ops[i]? = some oi) (hj : ops[j]? = some oj) (hap : oi.apart ops oj = true)
    (hsi : ∀ cs b, oi.op ≠ .select cs b) (hsj : ∀ cs b, oj.op ≠ .select cs b) (hE : ¬ (i ∈ E ∧ j ∈ E)) (hC : C w)
    (h : xOp P ops C E i (fun a1 w1 => xOp P ops C E j K a1 w1) a w) : xOp P ops C E j (fun a1 w1 => xOp P ops C E i K a1 w1) a w := by
  obtain ⟨h1, h2, h3⟩ := Oper.apart_spec hap
  have h2' : ∀ d, oj.dst = some d → oi.dst ≠ some d := fun d hd hd' => h2 d hd' hd
  have ej : ∀ (b : Act) v, execOp (b.put oi.dst v).eval oj = execOp b.eval oj := fun b v => execOp_put oj hsj b oi.dst v h1
  have wj : ∀ (b : Act) v, Region.wanted oj (yielded ops (b.put oi.dst v).tmps) = Region.wanted oj (yielded ops b.tmps) := fun b v => wanted_put oj b oi.dst v h1
  have ei : ∀ (b : Act) v, execOp (b.put oj.dst v).eval oi = execOp b.eval oi := fun b v => execOp_put oi hsi b oj.dst v h3
  have wi : ∀ (b : Act) v, Region.wanted oi (yielded ops (b.put oj.dst v).tmps) = Region.wanted oi (yielded ops b.tmps) := fun b v => wanted_put oi b oj.dst v h3
  have pc : ∀ (b : Act) v u, (b.put oi.dst v).put oj.dst u = (b.put oj.dst u).put oi.dst v := fun b v u => Act.put_comm b v u h2
  unfold xOp at h ⊢
  simp only [hi, hj] at h ⊢
  by_cases hwi : Region.wanted oi (yielded ops a.tmps) = true
  · simp only [hwi, if_true] at h
    by_cases hiE : i ∈ E
    · simp only [hiE, if_true] at h
      have hjE : j ∉ E := fun hj => hE ⟨hiE, hj⟩
      simp only [hjE, if_false] at h ⊢
      obtain ⟨a1, w1, u, ⟨_, k1⟩, ht⟩ := wp_some h
      have wj1 : Region.wanted oj (yielded ops a1.tmps) = Region.wanted oj (yielded ops a.tmps) := by rw [ht]; exact wj a u
      have ej1 : execOp a1.eval oj = execOp a.eval oj := by rw [eval_tmps ht]; exact ej a u
      by_cases hwj : Region.wanted oj (yielded ops a.tmps) = true
      · simp only [hwj, if_true]
        rw [wj1, if_pos hwj] at k1
        obtain ⟨v, hv, _⟩ := k1
        have hv' : ∀ w', C w' → pureAt P oj a w' v := fun w' hw' => pureAt_same ej1.symm (hv w' hw')
        refine ⟨v, hv', ?_⟩
        simp only [wi, hwi, hiE, if_true]
        refine (wp_put (ei a v) h2').2 ?_
        have h' := h
        unfold Oper.wp at h' ⊢
        generalize (execOp a.eval oi).run P w = r at h' ⊢
        have fin : ∀ (a2 : Act) (w2 : World) (u2 : Value), a2.tmps = (a.put oi.dst u2).tmps →
            (C w2 ∧ (if Region.wanted oj (yielded ops a2.tmps) = true then ∃ v, (∀ w', C w' → pureAt P oj a2 w' v) ∧ K (a2.put oj.dst v) w2 else K (a2.put oj.dst undef) w2)) → C w2 ∧ K (a2.put oj.dst v) w2 := by
          rintro a2 w2 u2 ht2 ⟨g1, g2⟩
          rw [show Region.wanted oj (yielded ops a2.tmps) = true by rw [ht2, wj a u2]; exact hwj] at g2
          simp only [if_true] at g2
          obtain ⟨v2, hv2, g3⟩ := g2
          have e2 : execOp a2.eval oj = execOp a.eval oj := by rw [eval_tmps ht2]; exact ej a u2
          have : v2 = v := pureAt_det (pureAt_same e2.symm (hv2 w hC)) (hv' w hC)
          subst this
          exact ⟨g1, g3⟩
        cases r with
        | ok n w' =>
          cases n <;> simp only [Oper.upon] at h' ⊢
          case value x => exact fin _ _ x rfl h'
          case skip => exact fin _ _ undef rfl h'
          case enter f args => exact Calls.mono h' (fun e w'' he => by
            cases e with
            | returned x => exact fin _ _ x rfl he
            | panicked c => exact (he : False).elim
            | outgrown => exact absurd he noQ_out)
          case row row args => exact Rows.mono h' (fun x w'' he => fin _ _ x rfl he)
          case defer x =>
            refine fin _ _ undef ?_ h'
            cases oi.dst <;> rfl
        | halt x w' => cases x <;> simp only [Oper.upon] at h' ⊢ <;> exact (h' : False).elim
      · simp only [hwj]
        simp only [wi, hwi, hiE, if_true]
        refine (wp_put (ei a undef) h2').2 ?_
        have h' := h
        unfold Oper.wp at h' ⊢
        generalize (execOp a.eval oi).run P w = r at h' ⊢
        have fin : ∀ (a2 : Act) (w2 : World) (u2 : Value), a2.tmps = (a.put oi.dst u2).tmps →
            (C w2 ∧ (if Region.wanted oj (yielded ops a2.tmps) = true then ∃ v, (∀ w', C w' → pureAt P oj a2 w' v) ∧ K (a2.put oj.dst v) w2 else K (a2.put oj.dst undef) w2)) → C w2 ∧ K (a2.put oj.dst undef) w2 := by
          rintro a2 w2 u2 ht2 ⟨g1, g2⟩
          rw [if_neg (by rw [ht2, wj a u2]; exact hwj)] at g2
          exact ⟨g1, g2⟩
        cases r with
        | ok n w' =>
          cases n <;> simp only [Oper.upon] at h' ⊢
          case value x => exact fin _ _ x rfl h'
          case skip => exact fin _ _ undef rfl h'
          case enter f args => exact Calls.mono h' (fun e w'' he => by
            cases e with
            | returned x => exact fin _ _ x rfl he
            | panicked c => exact (he : False).elim
            | outgrown => exact absurd he noQ_out)
          case row row args => exact Rows.mono h' (fun x w'' he => fin _ _ x rfl he)
          case defer x =>
            refine fin _ _ undef ?_ h'
            cases oi.dst <;> rfl
        | halt x w' => cases x <;> simp only [Oper.upon] at h' ⊢ <;> exact (h' : False).elim
    · simp only [hiE, if_false] at h
      obtain ⟨v, hv, h⟩ := h
      rw [wj a v] at h
      have hi' : ∀ (b : Act) u w1, b.tmps = (a.put oj.dst u).tmps → K (b.put oi.dst v) w1 →
          (if Region.wanted oi (yielded ops b.tmps) = true then (if i ∈ E then oi.wp P b w1 (fun a' w' => C w' ∧ K a' w') NoQ else ∃ v, (∀ w', C w' → pureAt P oi b w' v) ∧ K (b.put oi.dst v) w1) else K (b.put oi.dst undef) w1) := by
        intro b u w1 hb hk
        rw [if_pos (by rw [hb, wi a u]; exact hwi), if_neg hiE]
        exact ⟨v, fun w' hw' => pureAt_same (by rw [eval_tmps hb]; exact ei a u) (hv w' hw'), hk⟩
      by_cases hwj : Region.wanted oj (yielded ops a.tmps) = true
      · simp only [hwj, if_true] at h ⊢
        by_cases hjE : j ∈ E
        · simp only [hjE, if_true] at h ⊢
          have h' := (wp_put (ej a v) h2).1 h
          unfold Oper.wp at h' ⊢
          generalize (execOp a.eval oj).run P w = r at h' ⊢
          cases r with
          | ok n w' =>
            cases n <;> simp only [Oper.upon] at h' ⊢
            case value x => exact ⟨h'.1, hi' _ x _ rfl h'.2⟩
            case skip => exact ⟨h'.1, hi' _ undef _ rfl h'.2⟩
            case enter f args => exact Calls.mono h' (fun e w'' he => by
              cases e with
              | returned x => exact ⟨he.1, hi' _ x _ rfl he.2⟩
              | panicked c => exact (he : False).elim
              | outgrown => exact absurd he noQ_out)
            case row row args => exact Rows.mono h' (fun x w'' he => ⟨he.1, hi' _ x _ rfl he.2⟩)
            case defer x =>
              refine ⟨h'.1, hi' _ undef _ ?_ h'.2⟩
              cases oj.dst <;> rfl
          | halt x w' => cases x <;> simp only [Oper.upon] at h' ⊢ <;> exact (h' : False).elim
        · simp only [hjE, if_false] at h ⊢
          obtain ⟨u, hu, h⟩ := h
          refine ⟨u, fun w' hw' => pureAt_same (ej a v).symm (hu w' hw'), hi' _ u _ rfl ?_⟩
          rw [← pc]; exact h
      · simp only [hwj] at h ⊢
        exact hi' _ undef _ rfl (by rw [← pc]; exact h)
  · simp only [hwi] at h
    rw [wj a undef] at h
    have hi' : ∀ (b : Act) u w1, b.tmps = (a.put oj.dst u).tmps → K (b.put oi.dst undef) w1 →
        (if Region.wanted oi (yielded ops b.tmps) = true then (if i ∈ E then oi.wp P b w1 (fun a' w' => C w' ∧ K a' w') NoQ else ∃ v, (∀ w', C w' → pureAt P oi b w' v) ∧ K (b.put oi.dst v) w1) else K (b.put oi.dst undef) w1) := by
      intro b u w1 hb hk
      rw [if_neg (by rw [hb, wi a u]; exact hwi)]
      exact hk
    by_cases hwj : Region.wanted oj (yielded ops a.tmps) = true
    · simp only [hwj, if_true] at h ⊢
      by_cases hjE : j ∈ E
      · simp only [hjE, if_true] at h ⊢
        have h' := (wp_put (ej a undef) h2).1 h
        unfold Oper.wp at h' ⊢
        generalize (execOp a.eval oj).run P w = r at h' ⊢
        cases r with
        | ok n w' =>
          cases n <;> simp only [Oper.upon] at h' ⊢
          case value x => exact ⟨h'.1, hi' _ x _ rfl h'.2⟩
          case skip => exact ⟨h'.1, hi' _ undef _ rfl h'.2⟩
          case enter f args => exact Calls.mono h' (fun e w'' he => by
            cases e with
            | returned x => exact ⟨he.1, hi' _ x _ rfl he.2⟩
            | panicked c => exact (he : False).elim
            | outgrown => exact absurd he noQ_out)
          case row row args => exact Rows.mono h' (fun x w'' he => ⟨he.1, hi' _ x _ rfl he.2⟩)
          case defer x =>
            refine ⟨h'.1, hi' _ undef _ ?_ h'.2⟩
            cases oj.dst <;> rfl
        | halt x w' => cases x <;> simp only [Oper.upon] at h' ⊢ <;> exact (h' : False).elim
      · simp only [hjE, if_false] at h ⊢
        obtain ⟨u, hu, h⟩ := h
        refine ⟨u, fun w' hw' => pureAt_same (ej a undef).symm (hu w' hw'), hi' _ u _ rfl ?_⟩
        rw [← pc]; exact h
    · simp only [hwj] at h ⊢
      exact hi' _ undef _ rfl (by rw [← pc]; exact h)

/-- What has come up has had come up before it all that it waits for. -/
def Closed (md : Region.Mode) (ops : Array Oper) (listed : Array Bool) : Prop :=
  ∀ j oj, ops[j]? = some oj → listed.getD j false = true → ∀ e ∈ oj.after, Region.binds md e = true → listed.getD e.on false = true
theorem Closed.set {i : Nat} {listed : Array Bool} (h : Closed md ops listed) (hi : i ∈ Region.ready md ops listed) : Closed md ops (listed.setIfInBounds i true) := by
  obtain ⟨_, oi, hoi, hall⟩ := mem_ready.1 hi
  intro j oj hj hl e he hb
  by_cases hij : i = j
  · subst hij
    have : oj = oi := Option.some.inj (hj.symm.trans hoi)
    subst this
    exact getD_set_true (hall e he hb)
  · rw [getD_set_ne false hij] at hl
    exact getD_set_true (h j oj hj hl e he hb)
/-- Which operations wait, on whatever road, for number k. -/
def waiters (md : Region.Mode) (ops : Array Oper) (k : Nat) : Nat → List Nat
  | 0 => []
  | n + 1 => if (match ops[n]? with | some o => o.after.any (fun e => Region.binds md e && (e.on == k || (waiters md ops k n).contains e.on)) | none => false) = true then n :: waiters md ops k n else waiters md ops k n
theorem waiters_spec {k : Nat} {listed : Array Bool} (hc : Closed md ops listed) : ∀ (n j : Nat) (oj : Oper), ops[j]? = some oj → j ∈ waiters md ops k n →
    (∀ e ∈ oj.after, Region.binds md e = true → listed.getD e.on false = true) → listed.getD k false = true
  | 0, _, _, _, h, _ => by simp [waiters] at h
  | n + 1, j, oj, hj, h, hd => by
    rw [waiters] at h
    by_cases hn : (match ops[n]? with | some o => o.after.any (fun e => Region.binds md e && (e.on == k || (waiters md ops k n).contains e.on)) | none => false) = true
    · rw [if_pos hn] at h
      rcases List.mem_cons.1 h with rfl | h
      · rw [hj] at hn
        obtain ⟨e, he, hb⟩ := Array.any_eq_true'.1 hn
        simp only [Bool.and_eq_true, Bool.or_eq_true, beq_iff_eq, List.contains_iff_mem] at hb
        have hl := hd e he hb.1
        rcases hb.2 with h1 | h1
        · rw [← h1]; exact hl
        · have hlt : ∃ oe, ops[e.on]? = some oe := by
            have : ∀ n, e.on ∈ waiters md ops k n → ∃ oe, ops[e.on]? = some oe := by
              intro n
              induction n with
              | zero => intro h; simp [waiters] at h
              | succ n ih =>
                intro h
                rw [waiters] at h
                by_cases hm : (match ops[n]? with | some o => o.after.any (fun e => Region.binds md e && (e.on == k || (waiters md ops k n).contains e.on)) | none => false) = true
                · rw [if_pos hm] at h
                  rcases List.mem_cons.1 h with h2 | h2
                  · rw [h2]
                    cases hq : ops[n]? with
                    | some o => exact ⟨o, rfl⟩
                    | none => rw [hq] at hm; simp at hm
                  · exact ih h2
                · rw [if_neg hm] at h
                  exact ih h
            exact this _ h1
          obtain ⟨oe, hoe⟩ := hlt
          exact waiters_spec hc _ e.on oe hoe h1 (hc e.on oe hoe hl)
      · exact waiters_spec hc n j oj hj h hd
    · rw [if_neg hn] at h
      exact waiters_spec hc n j oj hj h hd

theorem X_first {R : Act → World → Prop} {i : Nat} {oi : Oper} (hi : ops[i]? = some oi) (hsel : ∀ (j : Nat) (o : Oper) cs b, ops[j]? = some o → o.op ≠ .select cs b) :
    ∀ (fuel : Nat) (listed : Array Bool) (a : Act) (w : World), C w → Closed md ops listed →
      (∀ j oj, ops[j]? = some oj → j ≠ i → listed.getD j true = false → (∀ e ∈ oj.after, Region.binds md e = true → e.on ≠ i) → oi.apart ops oj = true) →
      (i ∈ E → ∀ j, j ∈ E → j ≠ i → listed.getD j true = false → j ∈ waiters md ops i ops.size) →
      i ∈ Region.ready md ops listed → xOp P ops C E i (wpAnyX P md ops C E R fuel (listed.setIfInBounds i true)) a w → wpAnyX P md ops C E R (fuel + 1) listed a w := by
  intro fuel
  induction fuel with
  | zero =>
    intro listed a w _ _ _ _ hr H
    refine ⟨fun h => (by rw [h] at hr; cases hr), fun j hj => ?_⟩
    by_cases hji : j = i
    · subst hji; exact H
    · obtain ⟨a', w', h0⟩ := xOp_some H
      have := ready_mono hj hji
      rw [h0.1] at this
      cases this
  | succ fuel ih =>
    intro listed a w hC hcl hfree heff hr H
    refine ⟨fun h => (by rw [h] at hr; cases hr), fun j hj => ?_⟩
    by_cases hji : j = i
    · subst hji; exact H
    · obtain ⟨hjun, oj, hoj, hall⟩ := mem_ready.1 hj
      have hiun := (mem_ready.1 hr).1
      have hif : listed.getD i false = false := by
        rcases Nat.lt_or_ge i listed.size with h' | h'
        · simp [h'] at hiun ⊢; exact hiun
        · simp [Array.getElem?_eq_none h'] at hiun
      have hnot : ∀ e ∈ oj.after, Region.binds md e = true → e.on ≠ i := fun e he hb heq => by
        have h1 := hall e he hb
        rw [heq, hif] at h1
        cases h1
      have hE : ¬ (i ∈ E ∧ j ∈ E) := fun ⟨h1, h2⟩ => by
        have := waiters_spec hcl _ j oj hoj (heff h1 j h2 hji hjun) hall
        rw [hif] at this
        cases this
      have h1 : xOp P ops C E i (fun a1 w1 => xOp P ops C E j (wpAnyX P md ops C E R fuel ((listed.setIfInBounds i true).setIfInBounds j true)) a1 w1) a w :=
        xOp_mono hC (fun a1 w1 _ h => h.2 j (ready_mono hj hji)) H
      have h2 := xOp_swap hi hoj (hfree j oj hoj hji hjun hnot) (fun cs b => hsel i oi cs b hi) (fun cs b => hsel j oj cs b hoj) hE hC h1
      refine xOp_mono hC (fun a1 w1 hC1 h3 => ih (listed.setIfInBounds j true) a1 w1 hC1 (hcl.set hj) ?_ ?_ (ready_mono hr (Ne.symm hji)) ?_) h2
      · intro k ok hk hki hun hno
        refine hfree k ok hk hki ?_ hno
        by_cases hjk : j = k
        · subst hjk; exact hjun
        · rw [getD_set_ne true hjk] at hun; exact hun
      · intro h1 k hk hki hun
        refine heff h1 k hk hki ?_
        by_cases hjk : j = k
        · subst hjk; exact hjun
        · rw [getD_set_ne true hjk] at hun; exact hun
      · rw [Array.setIfInBounds_comm _ _ hji]
        exact h3

/-- The walk in the order of the text. -/
def wpLex (P : Program) (ops : Array Oper) (C : World → Prop) (E : List Nat) (R : Act → World → Prop) : Nat → List Oper → Act → World → Prop
  | _, [], a, w => R a w
  | k, o :: rest, a, w =>
    if Region.wanted o (yielded ops a.tmps) = true then
      (if k ∈ E then o.wp P a w (fun a' w' => C w' ∧ wpLex P ops C E R (k + 1) rest a' w') NoQ else ∃ v, (∀ w', C w' → pureAt P o a w' v) ∧ wpLex P ops C E R (k + 1) rest (a.put o.dst v) w)
    else wpLex P ops C E R (k + 1) rest (a.put o.dst undef) w

def effOk (md : Region.Mode) (ops : Array Oper) (E : List Nat) : Bool := E.all fun k => E.all fun j => decide (j ≤ k) || (waiters md ops k ops.size).contains j

theorem wpAnyX_lex {R : Act → World → Prop} (hs : Region.noSelect ops = true) (hE : effOk md ops E = true) : ∀ (l : List Oper) (k : Nat) (listed : Array Bool) (a : Act) (w : World), C w → Closed md ops listed →
    (∀ j, j < k → listed.getD j true = true) → (∀ j, l[j]? = ops[k + j]?) → Region.lexFrom md ops l.length k listed = true → wpLex P ops C E R k l a w → wpAnyX P md ops C E R l.length listed a w
  | [], _, _, _, _, _, _, _, _, hB, h => ⟨by simpa [Region.lexFrom] using hB, h⟩
  | o :: l, k, listed, a, w, hC, hcl, hlt, hl, hB, h => by
    have h0 : ops[k]? = some o := by simpa using (hl 0).symm
    simp only [List.length_cons, Region.lexFrom, Bool.and_eq_true] at hB
    obtain ⟨⟨hr, hf⟩, hB'⟩ := hB
    have hr' : k ∈ Region.ready md ops listed := by simpa using hr
    refine X_first h0 (Region.noSelect_spec hs) l.length listed a w hC hcl (Region.free_spec h0 hf) ?_ hr' ?_
    · intro hk j hj hjk hun
      have h1 := List.all_eq_true.1 (List.all_eq_true.1 hE k hk) j hj
      simp only [Bool.or_eq_true, decide_eq_true_eq, List.contains_iff_mem] at h1
      rcases h1 with h1 | h1
      · rw [hlt j (by omega)] at hun; cases hun
      · exact h1
    · have hx : xOp P ops C E k (wpLex P ops C E R (k + 1) l) a w := by unfold xOp; simp only [h0]; exact h
      refine xOp_mono hC (fun a1 w1 hC1 h1 => wpAnyX_lex hs hE l (k + 1) _ a1 w1 hC1 (hcl.set hr') ?_ (fun j => by have := hl (j + 1); simpa [Nat.add_assoc, Nat.add_comm 1 j] using this) hB' h1) hx
      intro j hj
      by_cases hjk : k = j
      · subst hjk
        rcases Nat.lt_or_ge k listed.size with h' | h'
        · simp [h']
        · simp
      · rw [getD_set_ne true hjk]; exact hlt j (by omega)

theorem wpAny_of_X {R : Act → World → Prop} {Q : Exit → Act → World → Prop} (hQ : ∀ a w, R a w → Q .normal a w) : ∀ (fuel : Nat) (listed : Array Bool) (a : Act) (w : World), C w →
    wpAnyX P md ops C E R fuel listed a w → wpAny P md ops Q fuel listed a w
  | 0, _, _, _, _, h => ⟨h.1, hQ _ _ h.2⟩
  | fuel + 1, _, _, _, hC, h => ⟨fun h0 => hQ _ _ (h.1 h0), fun i hi => by
      have hx := h.2 i hi
      unfold xOp at hx
      unfold wpOp
      split
      · rename_i ho; simp only [ho] at hx; exact wpAny_of_X hQ fuel _ _ _ hC hx
      · rename_i o ho
        simp only [ho] at hx
        split
        · rename_i hw
          simp only [hw, if_true] at hx
          left
          split at hx
          · exact wp_exits (Oper.wp_mono (fun a' w' ⟨h1, h2⟩ => wpAny_of_X hQ fuel _ a' w' h1 h2) hx)
          · obtain ⟨v, hv, hx⟩ := hx
            have hv := hv _ hC
            unfold pureAt at hv
            unfold Oper.wp
            generalize (execOp _ o).run P _ = r at hv ⊢
            cases r with
            | ok n w' =>
              cases n <;> simp only [pureUpon] at hv <;> simp only [Oper.upon]
              case value u => obtain ⟨rfl, rfl⟩ := hv; exact wpAny_of_X hQ fuel _ _ _ hC hx
              case skip => obtain ⟨rfl, rfl⟩ := hv; exact wpAny_of_X hQ fuel _ _ _ hC hx
            | halt _ _ => simp only [pureUpon] at hv
        · rename_i hw
          simp only [hw] at hx
          exact wpAny_of_X hQ fuel _ _ _ hC hx⟩

theorem wp_region_lex {id : Nat} {Q : Exit → Act → World → Prop} {a : Act} {w : World} {l : List Oper} (E : List Nat) (C : World → Prop) (hC : C w.drew) (hm : P.follows .mixedOrders = true) (hB : Region.lexB .any l.toArray = true) (hE : effOk .any l.toArray E = true)
    (h : wpLex P l.toArray C E (fun a' w' => Q .normal a' w') 0 l a w.drew) : (Code.region id l.toArray true).wp P Q a w := by
  simp only [Region.lexB, Bool.and_eq_true] at hB
  refine wp_region_any hm (wpAny_of_X (C := C) (E := E) (R := fun a' w' => Q .normal a' w') (fun _ _ h => h) _ _ _ _ hC ?_)
  have := wpAnyX_lex (P := P) (C := C) (E := E) (md := .any) (R := fun a' w' => Q .normal a' w') hB.1 hE l 0 (Array.replicate l.toArray.size false) a w.drew hC
    (fun j oj _ hl => by
      rcases Nat.lt_or_ge j l.length with h | h
      · simp [h] at hl
      · simp [h] at hl) (fun j hj => absurd hj (Nat.not_lt_zero _)) (by simp) (by simpa using hB.2) h
  simpa using this

/-! ### Worlds of which something is known -/
structure Lat (Φ : World → Prop) where
  w' : World
  h : Φ w'
theorem Lat.some {Φ : World → Prop} {w : World} (h : Φ w) : Nonempty (Lat Φ) := ⟨⟨w, h⟩⟩
theorem wp_region_lat {id : Nat} {Q : Exit → Act → World → Prop} {a : Act} {w : World} {l : List Oper} (E : List Nat) (Φ : World → Prop) (h0 : Φ w.drew) (hm : P.follows .mixedOrders = true) (hB : Region.lexB .any l.toArray = true) (hE : effOk .any l.toArray E = true)
    (h : wpLex P l.toArray (fun w' => ∃ x : Lat Φ, w' = x.w') E (fun a' w' => Q .normal a' w') 0 l a w.drew) : (Code.region id l.toArray true).wp P Q a w :=
  wp_region_lex E _ ⟨⟨w.drew, h0⟩, rfl⟩ hm hB hE h

/-! ### Its steps -/
/-- What an effect leads to: on with the walk. -/
def LexQ (C : World → Prop) (R : Act → World → Prop) : Exit → Act → World → Prop
  | .normal, a, w => C w ∧ R a w
  | _, _, _ => False
theorem lexQ_out {R : Act → World → Prop} : ¬ LetsOut (LexQ C R) := fun ⟨_, _, h⟩ => h

theorem lex_nil {R : Act → World → Prop} {k : Nat} {a : Act} {w : World} (h : R a w) : wpLex P ops C E R k [] a w := h
theorem lex_skip {R : Act → World → Prop} {k : Nat} {o : Oper} {rest : List Oper} {a : Act} {w : World} (hw : Region.wanted o (yielded ops a.tmps) = false)
    (h : wpLex P ops C E R (k + 1) rest (a.put o.dst undef) w) : wpLex P ops C E R k (o :: rest) a w := by
  unfold wpLex
  rw [if_neg (by rw [hw]; exact Bool.false_ne_true)]
  exact h
theorem lex_eff {R : Act → World → Prop} {k : Nat} {o : Oper} {rest : List Oper} {a : Act} {w : World} (hk : decide (k ∈ E) = true)
    (h : wpList P ops (LexQ C (wpLex P ops C E R (k + 1) rest)) [o] a w) : wpLex P ops C E R k (o :: rest) a w := by
  have hk' : k ∈ E := of_decide_eq_true hk
  unfold wpList at h
  unfold wpLex
  split
  · rename_i hw
    rw [if_pos hw] at h
    rcases h with h | ⟨_, h⟩
    · unfold Oper.wp at h ⊢
      generalize (execOp a.eval o).run P w = r at h ⊢
      cases r with
      | ok n w' =>
        cases n <;> simp only [Oper.upon] at h ⊢
        case enter f args => exact Calls.mono h (fun e w'' he => by
          cases e with
          | returned x => exact he
          | panicked c => exact (he : False).elim
          | outgrown => exact absurd he lexQ_out)
        all_goals first | exact h | exact Rows.mono h (fun _ _ he => he)
      | halt x w' => cases x <;> simp only [Oper.upon] at h ⊢ <;> exact (h : False).elim
    · exact absurd h lexQ_out
  · rename_i hw
    rw [if_neg hw] at h
    exact h.2

theorem enter_not {o : Oper} (ho : plainOp o = true) (ρ : Operand → Value) (w : World) (f : FuncId) (args : Array Value) (w' : World) : (execOp ρ o).run P w ≠ .ok (.enter f args) w' := by
  obtain ⟨dst, op, type, pos, after, guard⟩ := o
  cases op with
  | call c =>
    obtain ⟨callee, as_, ts⟩ := c
    cases callee with
    | builtin b =>
      cases b <;> simp only [plainOp] at ho <;> first
        | (exfalso; revert ho; decide)
        | (simp only [execOp, resolve, invoke, builtin, Sem.run_bind, Sem.run_pure, Result.andThen_ok]; exact andThen_v _ _ _)
    | value x => simp [plainOp] at ho
    | invoke x n => simp [plainOp] at ho
  | pick c x y =>
    simp only [execOp, Sem.run_bind]
    cases (asBool (ρ c)).run P w <;> simp [Result.andThen]
  | move x => simp [execOp]
  | assign x => simp [execOp]
  | nilCheck x =>
    simp only [execOp]
    generalize ρ x = y
    have hp : ∀ (R : Result Next), (runtimePanic (α := Next) .nilDeref).run P w = R → R ≠ .ok (.enter f args) w' := by
      rintro R rfl
      simp [runtimePanic, goPanic, go_sem]
    split
    · exact hp _ rfl
    · exact hp _ rfl
    · exact hp _ rfl
    · split
      · exact hp _ rfl
      · simp only [Sem.run_bind]
        generalize (program).run P w = r0
        cases r0 with
        | ok p w0 =>
          simp only [Result.andThen]
          generalize Sem.run P _ w0 = r1
          cases r1 with
          | ok q w1 =>
            simp only
            split
            · simp [unsupported, go_sem]
            · simp
          | halt _ _ => simp
        | halt _ _ => simp [Result.andThen]
      · simp
    · simp
  | _ => first
    | exact run_v _ _ _ _
    | exact run_u _ _ _ _
    | (exfalso; revert ho; simp only [plainOp]; decide)

theorem lex_pure {R : Act → World → Prop} {k : Nat} {o : Oper} {rest : List Oper} {a : Act} {w : World} (hk : decide (k ∈ E) = false) (hp : plainOp o = true) (hw : Region.wanted o (yielded ops a.tmps) = true)
    (h : ∀ K : Act → Prop, (∀ a, wpLex P ops C E R (k + 1) rest a w → K a) → o.quiet P a C K) : wpLex P ops C E R k (o :: rest) a w := by
  obtain ⟨v, h1, h2⟩ := h _ (fun _ h => h)
  unfold wpLex
  rw [if_pos hw, if_neg (of_decide_eq_false hk)]
  refine ⟨v, fun w' hw' => ?_, h2⟩
  have := h1 w' hw'
  unfold Oper.quietAt at this
  unfold pureAt
  have hne := enter_not (P := P) hp a.eval w'
  generalize (execOp a.eval o).run P w' = r at this hne ⊢
  cases r with
  | ok n w2 =>
    cases n <;> simp only [Oper.quietUpon] at this <;> simp only [pureUpon]
    case value u => exact this
    case skip => exact this
    case enter f args => exact absurd rfl (hne f args w2)
  | halt _ _ => simp only [Oper.quietUpon] at this
end

end Go.Proofs.YtfbhchpbflaphaaGreatDoor

/- Plain facts on tokens: letters, digits, runs, numbers, symbols, the next token, the tokens of a line. No program in sight. -/
namespace Go.Proofs.YtfbhchpbflaphaaGreatDoor.K

def letterN (n : Int) : Bool := decide (97 ≤ n ∧ n ≤ 122) || decide (n = 95)
def digitN (n : Int) : Bool := decide (48 ≤ n ∧ n ≤ 57)
def letter (c : UInt8) : Bool := letterN c.toNat
def digit (c : UInt8) : Bool := digitN c.toNat
def wordN (names : Bool) (n : Int) : Bool := digitN n || (names && letterN n)
def word (names : Bool) (c : UInt8) : Bool := wordN names c.toNat
theorem wordN_high (names : Bool) (n : Int) (h : 128 ≤ n) : wordN names n = false := by
  have h1 : digitN n = false := by simp [digitN]; omega
  have h2 : letterN n = false := by simp [letterN]; omega
  simp [wordN, h1, h2]
/-- The length of the run at the beginning. -/
def run (names : Bool) (l : List UInt8) : Nat := (l.takeWhile (word names)).length
theorem run_le (names : Bool) (l : List UInt8) : run names l ≤ l.length := by
  unfold run
  have := List.takeWhile_append_dropWhile (p := word names) (l := l)
  conv => rhs; rw [← this]
  rw [List.length_append]
  omega
theorem run_cons (names : Bool) (c : UInt8) (l : List UInt8) : run names (c :: l) = if word names c then run names l + 1 else 0 := by
  unfold run
  rw [List.takeWhile_cons]
  split <;> simp
theorem run_nil (names : Bool) : run names [] = 0 := rfl
/-- Behind some of the run. -/
theorem run_drop (names : Bool) : ∀ (l : List UInt8) (k : Nat), k ≤ run names l → run names (l.drop k) = run names l - k
  | [], k, h => by simp [run]
  | c :: l, 0, h => by simp
  | c :: l, k + 1, h => by
    rw [run_cons] at h ⊢
    split at h
    · rename_i hc
      rw [if_pos hc, List.drop_succ_cons, run_drop names l k (by omega)]
      omega
    · omega
theorem run_at (names : Bool) : ∀ (l : List UInt8) (h : run names l < l.length), word names l[run names l] = false
  | [], h => by simp [run] at h
  | c :: l, h => by
    by_cases hc : word names c = true
    · have e : run names (c :: l) = run names l + 1 := by rw [run_cons, if_pos hc]
      have h' : run names l < l.length := by rw [e] at h; simpa using h
      have := run_at names l h'
      simp only [e, List.getElem_cons_succ]
      exact this
    · have e : run names (c :: l) = 0 := by rw [run_cons, if_neg hc]
      simp only [e, List.getElem_cons_zero]
      simpa using hc
theorem runWithin (names : Bool) : ∀ (l : List UInt8) (k : Nat) (_ : k < run names l) (h' : k < l.length), word names l[k] = true
  | [], k, _, h' => by simp at h'
  | c :: l, k, h, h' => by
    rw [run_cons] at h
    split at h
    · rename_i hc
      cases k with
      | zero => exact hc
      | succ k => exact runWithin names l k (by omega) (by simpa using h')
    · omega
/-- The run is what it is: k bytes of the kind, and then none. -/
theorem run_eq (names : Bool) (l : List UInt8) (k : Nat) (hk : k ≤ l.length) (h1 : ∀ j (h : j < l.length), j < k → word names l[j] = true) (h2 : ∀ h : k < l.length, word names l[k] = false) : run names l = k := by
  rcases Nat.lt_trichotomy (run names l) k with h | h | h
  · have := run_at names l (by omega)
    rw [h1 _ (by omega) h] at this
    cases this
  · exact h
  · have hle := run_le names l
    have := runWithin names l k h (by omega)
    rw [h2 (by omega)] at this
    cases this

/-- strings.IndexFunc finds the run's end. -/
theorem idxFrom (names : Bool) (p : Nat → Bool) (hp : ∀ r, p r = !wordN names r) (s : ByteArray) : ∀ (f pos : Nat), s.size - pos ≤ f → pos ≤ s.size →
    Lib.idxFuncFrom p true s f pos = if run names (s.data.toList.drop pos) = s.size - pos then -1 else (pos : Int) + run names (s.data.toList.drop pos)
  | 0, pos, h, h2 => by
    have e : s.data.toList.drop pos = [] := List.drop_eq_nil_of_le (by simp [ByteArray.size_data] at *; omega)
    rw [e, run_nil, if_pos (by omega)]
    rfl
  | f + 1, pos, h, h2 => by
    unfold Lib.idxFuncFrom
    by_cases hlt : pos < s.size
    · rw [if_pos hlt]
      have hl : s.data.toList.length = s.size := by simp
      have e : s.data.toList.drop pos = s[pos] :: s.data.toList.drop (pos + 1) := by
        rw [List.drop_eq_getElem_cons (by omega)]
        congr 1
      rw [e, run_cons]
      by_cases hc : word names s[pos] = true
      · rw [if_pos hc]
        have hlo : s[pos].toNat < 128 := by
          rcases Nat.lt_or_ge s[pos].toNat 128 with h5 | h5
          · exact h5
          · rw [word, wordN_high _ _ (by omega)] at hc; cases hc
        have hlen := List.length_drop (i := pos + 1) (l := s.data.toList)
        rw [decode_ascii s pos hlt hlo, if_neg (by rw [hp]; unfold word at hc; rw [hc]; simp), idxFrom names p hp s f (pos + 1) (by omega) (by omega)]
        have hle := run_le names (s.data.toList.drop (pos + 1))
        simp only [List.length_drop, hl] at hle
        by_cases h6 : run names (s.data.toList.drop (pos + 1)) = s.size - (pos + 1)
        · rw [if_pos h6, if_pos (by omega)]
        · rw [if_neg h6, if_neg (by omega)]
          omega
      · rw [if_neg hc]
        have : p (Utf8.decode s pos).1 = true := by
          rw [hp]
          rcases Nat.lt_or_ge s[pos].toNat 128 with h5 | h5
          · rw [decode_ascii s pos hlt h5]
            unfold word at hc
            simpa using hc
          · rw [wordN_high _ _ (by have := (decode_high s pos hlt h5).1; omega)]
            rfl
        rw [if_pos this, if_neg (by omega)]
        simp
    · have e : s.data.toList.drop pos = [] := List.drop_eq_nil_of_le (by simp [ByteArray.size_data] at *; omega)
      rw [if_neg hlt, e, run_nil, if_pos (by omega)]
theorem idxFunc_run (names : Bool) (p : Nat → Bool) (hp : ∀ r, p r = !wordN names r) (s : ByteArray) :
    Lib.idxFunc p true s = if run names s.data.toList = s.size then -1 else (run names s.data.toList : Int) := by
  unfold Lib.idxFunc
  rw [idxFrom names p hp s _ 0 (by omega) (by omega)]
  simp

/-- The value of digits. -/
def val (l : List UInt8) : Nat := l.foldl (fun n c => 10 * n + (c.toNat - 48)) 0
theorem val_snoc (l : List UInt8) (c : UInt8) : val (l ++ [c]) = 10 * val l + (c.toNat - 48) := by simp [val, List.foldl_append]
theorem val_from (l : List UInt8) : ∀ n, n ≤ l.foldl (fun n c => 10 * n + (c.toNat - 48)) n := by
  induction l with
  | nil => intro n; exact Nat.le_refl _
  | cons c l ih =>
    intro n
    refine Nat.le_trans ?_ (ih _)
    show n ≤ 10 * n + (c.toNat - 48)
    omega
theorem val_take (l : List UInt8) (k : Nat) : val (l.take k) ≤ val l := by
  conv => rhs; rw [← List.take_append_drop k l]
  unfold val
  rw [List.foldl_append]
  exact val_from _ _
/-- What Number gives. -/
def numOk (l : List UInt8) : Bool := decide (l ≠ []) && decide (run false l = l.length) && !(decide (1 < l.length) && decide (l[0]? = some 48))
def number (l : List UInt8) : Nat × Int := if numOk l = true then (if 4294967295 < val l then (0, 3) else (val l, 0)) else (0, 4)

def syms2 : List (List UInt8) := [[124, 124], [38, 38], [61, 61], [33, 61], [60, 61], [62, 61], [60, 60], [62, 62]]
def chars : List UInt8 := [124, 94, 38, 60, 62, 43, 45, 42, 47, 37, 126, 33, 40, 41, 44, 61]
def isSym2 (l : List UInt8) : Bool := syms2.contains (l.take 2)
def isChar (c : UInt8) : Bool := chars.contains c
/-- The length of the longest symbol at the beginning. -/
def sym : List UInt8 → Nat
  | [] => 0
  | c :: l => if isSym2 (c :: l) then 2 else if isChar c then 1 else 0

/-- The token at the beginning: its kind, its length, the error. -/
def nxt : List UInt8 → Int × Nat × Int
  | [] => (0, 0, 4)
  | c :: l =>
    if letter c then (if 32 < run true (c :: l) then (0, 0, 2) else (1, run true (c :: l), 0))
    else if digit c then
      (if (number ((c :: l).take (run false (c :: l)))).2 ≠ 0 then (0, 0, (number ((c :: l).take (run false (c :: l)))).2)
       else if (((c :: l).drop (run false (c :: l))).head?.map letter).getD false then (0, 0, 4) else (2, run false (c :: l), 0))
    else if sym (c :: l) = 0 then (0, 0, 4) else (3, sym (c :: l), 0)

end Go.Proofs.YtfbhchpbflaphaaGreatDoor.K
