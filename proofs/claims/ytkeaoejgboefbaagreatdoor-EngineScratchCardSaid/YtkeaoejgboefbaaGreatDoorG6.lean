/- The texts Lex LexT Hr Hs Ht Hu of the seat, joined. -/
import Derived.Test.YtkeaoejgboefbaaGreatDoorG5
import Derived.StillTail
import Derived.Lib.ItoaLen
/- A region whose order is open, walked once in the order of the text: what only reads has one value in all later worlds; what does more comes in one order alone. For any program. -/
namespace Go.Proofs.YtkeaoejgboefbaaGreatDoor
open Go.RowKit

/-- No way out but the normal one. -/
def NoQ : Exit → Act → World → Prop := fun _ _ _ => False
theorem noQ_out : ¬ LetsOut NoQ := fun ⟨_, _, h⟩ => h

/-- The operation yields v here, and leaves the world alone. -/
def pureUpon (w : World) (v : Value) : Result Next → Prop
  | .ok (.value u) w' => w' = w ∧ u = v
  | .ok .skip w' => w' = w ∧ v = undef
  | _ => False
def pureAt (P : Program) (o : Oper) (a : Act) (w : World) (v : Value) : Prop := pureUpon w v ((execOp a.eval o).run P w)
theorem pureAt_det {P : Program} {o : Oper} {a : Act} {w : World} {v u : Value} (h : pureAt P o a w v) (k : pureAt P o a w u) : v = u := by
  unfold pureAt at h k
  generalize (execOp a.eval o).run P w = r at h k
  cases r with
  | ok n w' => cases n <;> simp only [pureUpon] at h k <;> first | exact h.2.symm.trans k.2 | exact h.2.trans k.2.symm
  | halt _ _ => simp only [pureUpon] at h
theorem pureAt_same {P : Program} {o : Oper} {a a' : Act} {w : World} {v : Value} (he : execOp a'.eval o = execOp a.eval o) (h : pureAt P o a w v) : pureAt P o a' w v := by
  unfold pureAt at *; rw [he]; exact h

/-- An operation that gives a value and calls no Go function. -/
def plainOp (o : Oper) : Bool :=
  match o.op with
  | .call c => match c.callee with
    | .builtin .len | .builtin .cap | .builtin .min | .builtin .max => true
    | _ => false
  | .move _ | .assign _ | .pick _ _ _ | .build _ _ | .load _ _ | .waits _ | .binOp _ _ _ _ _ | .unOp _ _ _ | .convert _ _ _ | .makeInterface _ _ | .makeFunc _ _ _ | .slice _ _ _ _ _ | .fieldAddr _ _ _ | .field _ _ _
  | .indexAddr _ _ _ | .index _ _ _ | .lookup _ _ _ _ | .extract _ _ | .nilCheck _ | .ready _ => true
  | _ => false

theorem run_v {P : Program} {w : World} (s : Sem Value) (f : FuncId) (args : Array Value) (w' : World) : (do pure (Next.value (← s)) : Sem Next).run P w ≠ .ok (.enter f args) w' := by
  simp only [Sem.run_bind]
  cases s.run P w <;> simp [Result.andThen]
theorem andThen_v {r : Result Value} (f : FuncId) (args : Array Value) (w' : World) : (r.andThen fun a w' => Result.ok (Next.value a) w') ≠ .ok (.enter f args) w' := by
  cases r <;> simp [Result.andThen]
theorem run_u {P : Program} {w : World} (s : Sem Unit) (f : FuncId) (args : Array Value) (w' : World) : (do s; pure Next.skip : Sem Next).run P w ≠ .ok (.enter f args) w' := by
  simp only [Sem.run_bind]
  cases s.run P w <;> simp [Result.andThen]

section
variable {P : Program} {ops : Array Oper} {md : Region.Mode} {C : World → Prop} {E : List Nat}

def xOp (P : Program) (ops : Array Oper) (C : World → Prop) (E : List Nat) (i : Nat) (K : Act → World → Prop) (a : Act) (w : World) : Prop :=
  match ops[i]? with
  | none => K a w
  | some o =>
    if Region.wanted o (yielded ops a.tmps) = true then
      (if i ∈ E then o.wp P a w (fun a' w' => C w' ∧ K a' w') NoQ else ∃ v, (∀ w', C w' → pureAt P o a w' v) ∧ K (a.put o.dst v) w)
    else K (a.put o.dst undef) w

def wpAnyX (P : Program) (md : Region.Mode) (ops : Array Oper) (C : World → Prop) (E : List Nat) (R : Act → World → Prop) : Nat → Array Bool → Act → World → Prop
  | 0, listed, a, w => Region.ready md ops listed = [] ∧ R a w
  | fuel + 1, listed, a, w =>
    (Region.ready md ops listed = [] → R a w) ∧ ∀ i ∈ Region.ready md ops listed, xOp P ops C E i (wpAnyX P md ops C E R fuel (listed.setIfInBounds i true)) a w

theorem xOp_mono {i : Nat} {K K' : Act → World → Prop} {a : Act} {w : World} (hC : C w) (h : ∀ a w, C w → K a w → K' a w) (hh : xOp P ops C E i K a w) : xOp P ops C E i K' a w := by
  unfold xOp at *
  split
  · rename_i ho; simp only [ho] at hh; exact h _ _ hC hh
  · rename_i o ho
    simp only [ho] at hh
    split
    · rename_i hw
      simp only [hw, if_true] at hh
      split
      · rename_i hE
        simp only [hE, if_true] at hh
        exact Oper.wp_mono (fun a w ⟨h1, h2⟩ => ⟨h1, h _ _ h1 h2⟩) hh
      · rename_i hE
        simp only [hE, if_false] at hh
        obtain ⟨v, h1, h2⟩ := hh
        exact ⟨v, h1, h _ _ hC h2⟩
    · rename_i hw
      simp only [hw] at hh
      exact h _ _ hC hh

theorem wp_exits {o : Oper} {a : Act} {w : World} {K : Act → World → Prop} {Q : Exit → Act → World → Prop} (h : o.wp P a w K NoQ) : o.wp P a w K Q := by
  unfold Oper.wp at *
  generalize (execOp a.eval o).run P w = r at *
  cases r with
  | ok n w' =>
    cases n <;> simp only [Oper.upon] at h ⊢ <;>
      first
        | exact h
        | exact Calls.mono h (fun e w'' he => by cases e <;> first | exact he | exact (he : False).elim | exact absurd he noQ_out)
  | halt x w' => cases x <;> simp only [Oper.upon] at h ⊢ <;> exact (h : False).elim

theorem wp_put {o : Oper} {a : Act} {w : World} {K : Act → World → Prop} {d : Option Tmp} {v : Value} (he : execOp (a.put d v).eval o = execOp a.eval o) (hne : ∀ x, d = some x → o.dst ≠ some x) :
    o.wp P (a.put d v) w K NoQ ↔ o.wp P a w (fun a1 w1 => K (a1.put d v) w1) NoQ := by
  have hc : ∀ (b : Act) (u : Value), (b.put d v).put o.dst u = (b.put o.dst u).put d v := fun b u => Act.put_comm b v u hne
  have hd : ∀ x : Deferred, ({ (a.put d v) with defers := x :: (a.put d v).defers } : Act) = ({ a with defers := x :: a.defers } : Act).put d v := fun x => by cases d <;> rfl
  unfold Oper.wp
  rw [he]
  generalize (execOp a.eval o).run P w = r
  cases r with
  | ok n w' =>
    cases n <;> simp only [Oper.upon, hc, hd]
    · constructor <;> intro h <;> exact Calls.mono h (fun e w'' he => by cases e <;> first | exact he | exact (he : False).elim)
  | halt x w' => cases x <;> simp only [Oper.upon] <;> exact Iff.rfl

theorem wp_some {o : Oper} {a : Act} {w : World} {K : Act → World → Prop} (h : o.wp P a w K NoQ) : ∃ a1 w1 u, K a1 w1 ∧ a1.tmps = (a.put o.dst u).tmps := by
  unfold Oper.wp at h
  generalize (execOp a.eval o).run P w = r at h
  cases r with
  | ok n w' =>
    cases n <;> simp only [Oper.upon] at h
    case value v => exact ⟨_, _, v, h, rfl⟩
    case skip => exact ⟨_, _, undef, h, rfl⟩
    case enter f args =>
      obtain ⟨e, w1, fr, hR, _⟩ := h []
      cases e with
      | returned v => exact ⟨_, _, v, hR, rfl⟩
      | panicked c => exact (hR : False).elim
      | outgrown => exact absurd hR noQ_out
    case row row args =>
      obtain ⟨v, w1, hR, _⟩ := h default []
      exact ⟨_, _, v, hR, rfl⟩
    case defer x =>
      refine ⟨_, _, undef, h, ?_⟩
      cases o.dst <;> rfl
  | halt x w' => cases x <;> simp only [Oper.upon] at h <;> exact (h : False).elim

theorem eval_tmps {a b : Act} (h : a.tmps = b.tmps) : a.eval = b.eval := by
  funext x
  cases x <;> simp [Act.eval, h]

theorem xOp_some {i : Nat} {K : Act → World → Prop} {a : Act} {w : World} (h : xOp P ops C E i K a w) : ∃ a' w', K a' w' := by
  unfold xOp at h
  split at h
  · exact ⟨_, _, h⟩
  · split at h
    · split at h
      · obtain ⟨a1, w1, _, h1, _⟩ := wp_some h
        exact ⟨_, _, h1.2⟩
      · obtain ⟨v, _, h1⟩ := h
        exact ⟨_, _, h1⟩
    · exact ⟨_, _, h⟩

theorem xOp_swap {i j : Nat} {oi oj : Oper} {K : Act → World → Prop} {a : Act} {w : World} (hi : ops[i]? = some oi) (hj : ops[j]? = some oj) (hap : oi.apart ops oj = true)
    (hsi : ∀ cs b, oi.op ≠ .select cs b) (hsj : ∀ cs b, oj.op ≠ .select cs b) (hE : ¬ (i ∈ E ∧ j ∈ E)) (hC : C w)
    (h : xOp P ops C E i (fun a1 w1 => xOp P ops C E j K a1 w1) a w) : xOp P ops C E j (fun a1 w1 => xOp P ops C E i K a1 w1) a w := by
  obtain ⟨h1, h2, h3⟩ := Oper.apart_spec hap
  have h2' : ∀ d, oj.dst = some d → oi.dst ≠ some d := fun d hd hd' => h2 d hd' hd
  have ej : ∀ (b : Act) v, execOp (b.put oi.dst v).eval oj = execOp b.eval oj := fun b v => execOp_put oj hsj b oi.dst v h1
  have wj : ∀ (b : Act) v, Region.wanted oj (yielded ops (b.put oi.dst v).tmps) = Region.wanted oj (yielded ops b.tmps) := fun b v => wanted_put oj b oi.dst v h1
  have ei : ∀ (b : Act) v, execOp (b.put oj.dst v).eval oi = execOp b.eval oi := fun b v => execOp_put oi hsi b oj.dst v h3
  have wi : ∀ (b : Act) v, Region.wanted oi (yielded ops (b.put oj.dst v).tmps) = Region.wanted oi (yielded ops b.tmps) := fun b v => wanted_put oi b oj.dst v h3
  have pc : ∀ (b : Act) v u, (b.put oi.dst v).put oj.dst u = (b.put oj.dst u).put oi.dst v := fun b v u => Act.put_comm b v u h2
  unfold xOp at h ⊢
  simp only [hi, hj] at h ⊢
  by_cases hwi : Region.wanted oi (yielded ops a.tmps) = true
  · simp only [hwi, if_true] at h
    by_cases hiE : i ∈ E
    · simp only [hiE, if_true] at h
      have hjE : j ∉ E := fun hj => hE ⟨hiE, hj⟩
      simp only [hjE, if_false] at h ⊢
      obtain ⟨a1, w1, u, ⟨_, k1⟩, ht⟩ := wp_some h
      have wj1 : Region.wanted oj (yielded ops a1.tmps) = Region.wanted oj (yielded ops a.tmps) := by rw [ht]; exact wj a u
      have ej1 : execOp a1.eval oj = execOp a.eval oj := by rw [eval_tmps ht]; exact ej a u
      by_cases hwj : Region.wanted oj (yielded ops a.tmps) = true
      · simp only [hwj, if_true]
        rw [wj1, if_pos hwj] at k1
        obtain ⟨v, hv, _⟩ := k1
        have hv' : ∀ w', C w' → pureAt P oj a w' v := fun w' hw' => pureAt_same ej1.symm (hv w' hw')
        refine ⟨v, hv', ?_⟩
        simp only [wi, hwi, hiE, if_true]
        refine (wp_put (ei a v) h2').2 ?_
        have h' := h
        unfold Oper.wp at h' ⊢
        generalize (execOp a.eval oi).run P w = r at h' ⊢
        have fin : ∀ (a2 : Act) (w2 : World) (u2 : Value), a2.tmps = (a.put oi.dst u2).tmps →
            (C w2 ∧ (if Region.wanted oj (yielded ops a2.tmps) = true then ∃ v, (∀ w', C w' → pureAt P oj a2 w' v) ∧ K (a2.put oj.dst v) w2 else K (a2.put oj.dst undef) w2)) → C w2 ∧ K (a2.put oj.dst v) w2 := by
          rintro a2 w2 u2 ht2 ⟨g1, g2⟩
          rw [show Region.wanted oj (yielded ops a2.tmps) = true by rw [ht2, wj a u2]; exact hwj] at g2
          simp only [if_true] at g2
          obtain ⟨v2, hv2, g3⟩ := g2
          have e2 : execOp a2.eval oj = execOp a.eval oj := by rw [eval_tmps ht2]; exact ej a u2
          have : v2 = v := pureAt_det (pureAt_same e2.symm (hv2 w hC)) (hv' w hC)
          subst this
          exact ⟨g1, g3⟩
        cases r with
        | ok n w' =>
          cases n <;> simp only [Oper.upon] at h' ⊢
          case value x => exact fin _ _ x rfl h'
          case skip => exact fin _ _ undef rfl h'
          case enter f args => exact Calls.mono h' (fun e w'' he => by
            cases e with
            | returned x => exact fin _ _ x rfl he
            | panicked c => exact (he : False).elim
            | outgrown => exact absurd he noQ_out)
          case row row args => exact Rows.mono h' (fun x w'' he => fin _ _ x rfl he)
          case defer x =>
            refine fin _ _ undef ?_ h'
            cases oi.dst <;> rfl
        | halt x w' => cases x <;> simp only [Oper.upon] at h' ⊢ <;> exact (h' : False).elim
      · simp only [hwj]
        simp only [wi, hwi, hiE, if_true]
        refine (wp_put (ei a undef) h2').2 ?_
        have h' := h
        unfold Oper.wp at h' ⊢
        generalize (execOp a.eval oi).run P w = r at h' ⊢
        have fin : ∀ (a2 : Act) (w2 : World) (u2 : Value), a2.tmps = (a.put oi.dst u2).tmps →
            (C w2 ∧ (if Region.wanted oj (yielded ops a2.tmps) = true then ∃ v, (∀ w', C w' → pureAt P oj a2 w' v) ∧ K (a2.put oj.dst v) w2 else K (a2.put oj.dst undef) w2)) → C w2 ∧ K (a2.put oj.dst undef) w2 := by
          rintro a2 w2 u2 ht2 ⟨g1, g2⟩
          rw [if_neg (by rw [ht2, wj a u2]; exact hwj)] at g2
          exact ⟨g1, g2⟩
        cases r with
        | ok n w' =>
          cases n <;> simp only [Oper.upon] at h' ⊢
          case value x => exact fin _ _ x rfl h'
          case skip => exact fin _ _ undef rfl h'
          case enter f args => exact Calls.mono h' (fun e w'' he => by
            cases e with
            | returned x => exact fin _ _ x rfl he
            | panicked c => exact (he : False).elim
            | outgrown => exact absurd he noQ_out)
          case row row args => exact Rows.mono h' (fun x w'' he => fin _ _ x rfl he)
          case defer x =>
            refine fin _ _ undef ?_ h'
            cases oi.dst <;> rfl
        | halt x w' => cases x <;> simp only [Oper.upon] at h' ⊢ <;> exact (h' : False).elim
    · simp only [hiE, if_false] at h
      obtain ⟨v, hv, h⟩ := h
      rw [wj a v] at h
      have hi' : ∀ (b : Act) u w1, b.tmps = (a.put oj.dst u).tmps → K (b.put oi.dst v) w1 →
          (if Region.wanted oi (yielded ops b.tmps) = true then (if i ∈ E then oi.wp P b w1 (fun a' w' => C w' ∧ K a' w') NoQ else ∃ v, (∀ w', C w' → pureAt P oi b w' v) ∧ K (b.put oi.dst v) w1) else K (b.put oi.dst undef) w1) := by
        intro b u w1 hb hk
        rw [if_pos (by rw [hb, wi a u]; exact hwi), if_neg hiE]
        exact ⟨v, fun w' hw' => pureAt_same (by rw [eval_tmps hb]; exact ei a u) (hv w' hw'), hk⟩
      by_cases hwj : Region.wanted oj (yielded ops a.tmps) = true
      · simp only [hwj, if_true] at h ⊢
        by_cases hjE : j ∈ E
        · simp only [hjE, if_true] at h ⊢
          have h' := (wp_put (ej a v) h2).1 h
          unfold Oper.wp at h' ⊢
          generalize (execOp a.eval oj).run P w = r at h' ⊢
          cases r with
          | ok n w' =>
            cases n <;> simp only [Oper.upon] at h' ⊢
            case value x => exact ⟨h'.1, hi' _ x _ rfl h'.2⟩
            case skip => exact ⟨h'.1, hi' _ undef _ rfl h'.2⟩
            case enter f args => exact Calls.mono h' (fun e w'' he => by
              cases e with
              | returned x => exact ⟨he.1, hi' _ x _ rfl he.2⟩
              | panicked c => exact (he : False).elim
              | outgrown => exact absurd he noQ_out)
            case row row args => exact Rows.mono h' (fun x w'' he => ⟨he.1, hi' _ x _ rfl he.2⟩)
            case defer x =>
              refine ⟨h'.1, hi' _ undef _ ?_ h'.2⟩
              cases oj.dst <;> rfl
          | halt x w' => cases x <;> simp only [Oper.upon] at h' ⊢ <;> exact (h' : False).elim
        · simp only [hjE, if_false] at h ⊢
          obtain ⟨u, hu, h⟩ := h
          refine ⟨u, fun w' hw' => pureAt_same (ej a v).symm (hu w' hw'), hi' _ u _ rfl ?_⟩
          rw [← pc]; exact h
      · simp only [hwj] at h ⊢
        exact hi' _ undef _ rfl (by rw [← pc]; exact h)
  · simp only [hwi] at h
    rw [wj a undef] at h
    have hi' : ∀ (b : Act) u w1, b.tmps = (a.put oj.dst u).tmps → K (b.put oi.dst undef) w1 →
        (if Region.wanted oi (yielded ops b.tmps) = true then (if i ∈ E then oi.wp P b w1 (fun a' w' => C w' ∧ K a' w') NoQ else ∃ v, (∀ w', C w' → pureAt P oi b w' v) ∧ K (b.put oi.dst v) w1) else K (b.put oi.dst undef) w1) := by
      intro b u w1 hb hk
      rw [if_neg (by rw [hb, wi a u]; exact hwi)]
      exact hk
    by_cases hwj : Region.wanted oj (yielded ops a.tmps) = true
    · simp only [hwj, if_true] at h ⊢
      by_cases hjE : j ∈ E
      · simp only [hjE, if_true] at h ⊢
        have h' := (wp_put (ej a undef) h2).1 h
        unfold Oper.wp at h' ⊢
        generalize (execOp a.eval oj).run P w = r at h' ⊢
        cases r with
        | ok n w' =>
          cases n <;> simp only [Oper.upon] at h' ⊢
          case value x => exact ⟨h'.1, hi' _ x _ rfl h'.2⟩
          case skip => exact ⟨h'.1, hi' _ undef _ rfl h'.2⟩
          case enter f args => exact Calls.mono h' (fun e w'' he => by
            cases e with
            | returned x => exact ⟨he.1, hi' _ x _ rfl he.2⟩
            | panicked c => exact (he : False).elim
            | outgrown => exact absurd he noQ_out)
          case row row args => exact Rows.mono h' (fun x w'' he => ⟨he.1, hi' _ x _ rfl he.2⟩)
          case defer x =>
            refine ⟨h'.1, hi' _ undef _ ?_ h'.2⟩
            cases oj.dst <;> rfl
        | halt x w' => cases x <;> simp only [Oper.upon] at h' ⊢ <;> exact (h' : False).elim
      · simp only [hjE, if_false] at h ⊢
        obtain ⟨u, hu, h⟩ := h
        refine ⟨u, fun w' hw' => pureAt_same (ej a undef).symm (hu w' hw'), hi' _ u _ rfl ?_⟩
        rw [← pc]; exact h
    · simp only [hwj] at h ⊢
      exact hi' _ undef _ rfl (by rw [← pc]; exact h)

/-- What has come up has had come up before it all that it waits for. -/
def Closed (md : Region.Mode) (ops : Array Oper) (listed : Array Bool) : Prop :=
  ∀ j oj, ops[j]? = some oj → listed.getD j false = true → ∀ e ∈ oj.after, Region.binds md e = true → listed.getD e.on false = true
theorem Closed.set {i : Nat} {listed : Array Bool} (h : Closed md ops listed) (hi : i ∈ Region.ready md ops listed) : Closed md ops (listed.setIfInBounds i true) := by
  obtain ⟨_, oi, hoi, hall⟩ := mem_ready.1 hi
  intro j oj hj hl e he hb
  by_cases hij : i = j
  · subst hij
    have : oj = oi := Option.some.inj (hj.symm.trans hoi)
    subst this
    exact getD_set_true (hall e he hb)
  · rw [getD_set_ne false hij] at hl
    exact getD_set_true (h j oj hj hl e he hb)
/-- Which operations wait, on whatever road, for number k. -/
def waiters (md : Region.Mode) (ops : Array Oper) (k : Nat) : Nat → List Nat
  | 0 => []
  | n + 1 => if (match ops[n]? with | some o => o.after.any (fun e => Region.binds md e && (e.on == k || (waiters md ops k n).contains e.on)) | none => false) = true then n :: waiters md ops k n else waiters md ops k n
theorem waiters_spec {k : Nat} {listed : Array Bool} (hc : Closed md ops listed) : ∀ (n j : Nat) (oj : Oper), ops[j]? = some oj → j ∈ waiters md ops k n →
    (∀ e ∈ oj.after, Region.binds md e = true → listed.getD e.on false = true) → listed.getD k false = true
  | 0, _, _, _, h, _ => by simp [waiters] at h
  | n + 1, j, oj, hj, h, hd => by
    rw [waiters] at h
    by_cases hn : (match ops[n]? with | some o => o.after.any (fun e => Region.binds md e && (e.on == k || (waiters md ops k n).contains e.on)) | none => false) = true
    · rw [if_pos hn] at h
      rcases List.mem_cons.1 h with rfl | h
      · rw [hj] at hn
        obtain ⟨e, he, hb⟩ := Array.any_eq_true'.1 hn
        simp only [Bool.and_eq_true, Bool.or_eq_true, beq_iff_eq, List.contains_iff_mem] at hb
        have hl := hd e he hb.1
        rcases hb.2 with h1 | h1
        · rw [← h1]; exact hl
        · have hlt : ∃ oe, ops[e.on]? = some oe := by
            have : ∀ n, e.on ∈ waiters md ops k n → ∃ oe, ops[e.on]? = some oe := by
              intro n
              induction n with
              | zero => intro h; simp [waiters] at h
              | succ n ih =>
                intro h
                rw [waiters] at h
                by_cases hm : (match ops[n]? with | some o => o.after.any (fun e => Region.binds md e && (e.on == k || (waiters md ops k n).contains e.on)) | none => false) = true
                · rw [if_pos hm] at h
                  rcases List.mem_cons.1 h with h2 | h2
                  · rw [h2]
                    cases hq : ops[n]? with
                    | some o => exact ⟨o, rfl⟩
                    | none => rw [hq] at hm; simp at hm
                  · exact ih h2
                · rw [if_neg hm] at h
                  exact ih h
            exact this _ h1
          obtain ⟨oe, hoe⟩ := hlt
          exact waiters_spec hc _ e.on oe hoe h1 (hc e.on oe hoe hl)
      · exact waiters_spec hc n j oj hj h hd
    · rw [if_neg hn] at h
      exact waiters_spec hc n j oj hj h hd

theorem X_first {R : Act → World → Prop} {i : Nat} {oi : Oper} (hi : ops[i]? = some oi) (hsel : ∀ (j : Nat) (o : Oper) cs b, ops[j]? = some o → o.op ≠ .select cs b) :
    ∀ (fuel : Nat) (listed : Array Bool) (a : Act) (w : World), C w → Closed md ops listed →
      (∀ j oj, ops[j]? = some oj → j ≠ i → listed.getD j true = false → (∀ e ∈ oj.after, Region.binds md e = true → e.on ≠ i) → oi.apart ops oj = true) →
      (i ∈ E → ∀ j, j ∈ E → j ≠ i → listed.getD j true = false → j ∈ waiters md ops i ops.size) →
      i ∈ Region.ready md ops listed → xOp P ops C E i (wpAnyX P md ops C E R fuel (listed.setIfInBounds i true)) a w → wpAnyX P md ops C E R (fuel + 1) listed a w := by
  intro fuel
  induction fuel with
  | zero =>
    intro listed a w _ _ _ _ hr H
    refine ⟨fun h => (by rw [h] at hr; cases hr), fun j hj => ?_⟩
    by_cases hji : j = i
    · subst hji; exact H
    · obtain ⟨a', w', h0⟩ := xOp_some H
      have := ready_mono hj hji
      rw [h0.1] at this
      cases this
  | succ fuel ih =>
    intro listed a w hC hcl hfree heff hr H
    refine ⟨fun h => (by rw [h] at hr; cases hr), fun j hj => ?_⟩
    by_cases hji : j = i
    · subst hji; exact H
    · obtain ⟨hjun, oj, hoj, hall⟩ := mem_ready.1 hj
      have hiun := (mem_ready.1 hr).1
      have hif : listed.getD i false = false := by
        rcases Nat.lt_or_ge i listed.size with h' | h'
        · simp [h'] at hiun ⊢; exact hiun
        · simp [Array.getElem?_eq_none h'] at hiun
      have hnot : ∀ e ∈ oj.after, Region.binds md e = true → e.on ≠ i := fun e he hb heq => by
        have h1 := hall e he hb
        rw [heq, hif] at h1
        cases h1
      have hE : ¬ (i ∈ E ∧ j ∈ E) := fun ⟨h1, h2⟩ => by
        have := waiters_spec hcl _ j oj hoj (heff h1 j h2 hji hjun) hall
        rw [hif] at this
        cases this
      have h1 : xOp P ops C E i (fun a1 w1 => xOp P ops C E j (wpAnyX P md ops C E R fuel ((listed.setIfInBounds i true).setIfInBounds j true)) a1 w1) a w :=
        xOp_mono hC (fun a1 w1 _ h => h.2 j (ready_mono hj hji)) H
      have h2 := xOp_swap hi hoj (hfree j oj hoj hji hjun hnot) (fun cs b => hsel i oi cs b hi) (fun cs b => hsel j oj cs b hoj) hE hC h1
      refine xOp_mono hC (fun a1 w1 hC1 h3 => ih (listed.setIfInBounds j true) a1 w1 hC1 (hcl.set hj) ?_ ?_ (ready_mono hr (Ne.symm hji)) ?_) h2
      · intro k ok hk hki hun hno
        refine hfree k ok hk hki ?_ hno
        by_cases hjk : j = k
        · subst hjk; exact hjun
        · rw [getD_set_ne true hjk] at hun; exact hun
      · intro h1 k hk hki hun
        refine heff h1 k hk hki ?_
        by_cases hjk : j = k
        · subst hjk; exact hjun
        · rw [getD_set_ne true hjk] at hun; exact hun
      · rw [Array.setIfInBounds_comm _ _ hji]
        exact h3

/-- The walk in the order of the text. -/
def wpLex (P : Program) (ops : Array Oper) (C : World → Prop) (E : List Nat) (R : Act → World → Prop) : Nat → List Oper → Act → World → Prop
  | _, [], a, w => R a w
  | k, o :: rest, a, w =>
    if Region.wanted o (yielded ops a.tmps) = true then
      (if k ∈ E then o.wp P a w (fun a' w' => C w' ∧ wpLex P ops C E R (k + 1) rest a' w') NoQ else ∃ v, (∀ w', C w' → pureAt P o a w' v) ∧ wpLex P ops C E R (k + 1) rest (a.put o.dst v) w)
    else wpLex P ops C E R (k + 1) rest (a.put o.dst undef) w

def effOk (md : Region.Mode) (ops : Array Oper) (E : List Nat) : Bool := E.all fun k => E.all fun j => decide (j ≤ k) || (waiters md ops k ops.size).contains j

theorem wpAnyX_lex {R : Act → World → Prop} (hs : Region.noSelect ops = true) (hE : effOk md ops E = true) : ∀ (l : List Oper) (k : Nat) (listed : Array Bool) (a : Act) (w : World), C w → Closed md ops listed →
    (∀ j, j < k → listed.getD j true = true) → (∀ j, l[j]? = ops[k + j]?) → Region.lexFrom md ops l.length k listed = true → wpLex P ops C E R k l a w → wpAnyX P md ops C E R l.length listed a w
  | [], _, _, _, _, _, _, _, _, hB, h => ⟨by simpa [Region.lexFrom] using hB, h⟩
  | o :: l, k, listed, a, w, hC, hcl, hlt, hl, hB, h => by
    have h0 : ops[k]? = some o := by simpa using (hl 0).symm
    simp only [List.length_cons, Region.lexFrom, Bool.and_eq_true] at hB
    obtain ⟨⟨hr, hf⟩, hB'⟩ := hB
    have hr' : k ∈ Region.ready md ops listed := by simpa using hr
    refine X_first h0 (Region.noSelect_spec hs) l.length listed a w hC hcl (Region.free_spec h0 hf) ?_ hr' ?_
    · intro hk j hj hjk hun
      have h1 := List.all_eq_true.1 (List.all_eq_true.1 hE k hk) j hj
      simp only [Bool.or_eq_true, decide_eq_true_eq, List.contains_iff_mem] at h1
      rcases h1 with h1 | h1
      · rw [hlt j (by omega)] at hun; cases hun
      · exact h1
    · have hx : xOp P ops C E k (wpLex P ops C E R (k + 1) l) a w := by unfold xOp; simp only [h0]; exact h
      refine xOp_mono hC (fun a1 w1 hC1 h1 => wpAnyX_lex hs hE l (k + 1) _ a1 w1 hC1 (hcl.set hr') ?_ (fun j => by have := hl (j + 1); simpa [Nat.add_assoc, Nat.add_comm 1 j] using this) hB' h1) hx
      intro j hj
      by_cases hjk : k = j
      · subst hjk
        rcases Nat.lt_or_ge k listed.size with h' | h'
        · simp [h']
        · simp
      · rw [getD_set_ne true hjk]; exact hlt j (by omega)

theorem wpAny_of_X {R : Act → World → Prop} {Q : Exit → Act → World → Prop} (hQ : ∀ a w, R a w → Q .normal a w) : ∀ (fuel : Nat) (listed : Array Bool) (a : Act) (w : World), C w →
    wpAnyX P md ops C E R fuel listed a w → wpAny P md ops Q fuel listed a w
  | 0, _, _, _, _, h => ⟨h.1, hQ _ _ h.2⟩
  | fuel + 1, _, _, _, hC, h => ⟨fun h0 => hQ _ _ (h.1 h0), fun i hi => by
      have hx := h.2 i hi
      unfold xOp at hx
      unfold wpOp
      split
      · rename_i ho; simp only [ho] at hx; exact wpAny_of_X hQ fuel _ _ _ hC hx
      · rename_i o ho
        simp only [ho] at hx
        split
        · rename_i hw
          simp only [hw, if_true] at hx
          left
          split at hx
          · exact wp_exits (Oper.wp_mono (fun a' w' ⟨h1, h2⟩ => wpAny_of_X hQ fuel _ a' w' h1 h2) hx)
          · obtain ⟨v, hv, hx⟩ := hx
            have hv := hv _ hC
            unfold pureAt at hv
            unfold Oper.wp
            generalize (execOp _ o).run P _ = r at hv ⊢
            cases r with
            | ok n w' =>
              cases n <;> simp only [pureUpon] at hv <;> simp only [Oper.upon]
              case value u => obtain ⟨rfl, rfl⟩ := hv; exact wpAny_of_X hQ fuel _ _ _ hC hx
              case skip => obtain ⟨rfl, rfl⟩ := hv; exact wpAny_of_X hQ fuel _ _ _ hC hx
            | halt _ _ => simp only [pureUpon] at hv
        · rename_i hw
          simp only [hw] at hx
          exact wpAny_of_X hQ fuel _ _ _ hC hx⟩

theorem wp_region_lex {id : Nat} {Q : Exit → Act → World → Prop} {a : Act} {w : World} {l : List Oper} (E : List Nat) (C : World → Prop) (hC : C w.drew) (hm : P.follows .mixedOrders = true) (hB : Region.lexB .any l.toArray = true) (hE : effOk .any l.toArray E = true)
    (h : wpLex P l.toArray C E (fun a' w' => Q .normal a' w') 0 l a w.drew) : (Code.region id l.toArray true).wp P Q a w := by
  simp only [Region.lexB, Bool.and_eq_true] at hB
  refine wp_region_any hm (wpAny_of_X (C := C) (E := E) (R := fun a' w' => Q .normal a' w') (fun _ _ h => h) _ _ _ _ hC ?_)
  have := wpAnyX_lex (P := P) (C := C) (E := E) (md := .any) (R := fun a' w' => Q .normal a' w') hB.1 hE l 0 (Array.replicate l.toArray.size false) a w.drew hC
    (fun j oj _ hl => by
      rcases Nat.lt_or_ge j l.length with h | h
      · simp [h] at hl
      · simp [h] at hl) (fun j hj => absurd hj (Nat.not_lt_zero _)) (by simp) (by simpa using hB.2) h
  simpa using this

/-! ### Worlds of which something is known -/
structure Lat (Φ : World → Prop) where
  w' : World
  h : Φ w'
theorem Lat.some {Φ : World → Prop} {w : World} (h : Φ w) : Nonempty (Lat Φ) := ⟨⟨w, h⟩⟩
theorem wp_region_lat {id : Nat} {Q : Exit → Act → World → Prop} {a : Act} {w : World} {l : List Oper} (E : List Nat) (Φ : World → Prop) (h0 : Φ w.drew) (hm : P.follows .mixedOrders = true) (hB : Region.lexB .any l.toArray = true) (hE : effOk .any l.toArray E = true)
    (h : wpLex P l.toArray (fun w' => ∃ x : Lat Φ, w' = x.w') E (fun a' w' => Q .normal a' w') 0 l a w.drew) : (Code.region id l.toArray true).wp P Q a w :=
  wp_region_lex E _ ⟨⟨w.drew, h0⟩, rfl⟩ hm hB hE h

/-! ### Its steps -/
/-- What an effect leads to: on with the walk. -/
def LexQ (C : World → Prop) (R : Act → World → Prop) : Exit → Act → World → Prop
  | .normal, a, w => C w ∧ R a w
  | _, _, _ => False
theorem lexQ_out {R : Act → World → Prop} : ¬ LetsOut (LexQ C R) := fun ⟨_, _, h⟩ => h

theorem lex_nil {R : Act → World → Prop} {k : Nat} {a : Act} {w : World} (h : R a w) : wpLex P ops C E R k [] a w := h
theorem lex_skip {R : Act → World → Prop} {k : Nat} {o : Oper} {rest : List Oper} {a : Act} {w : World} (hw : Region.wanted o (yielded ops a.tmps) = false)
    (h : wpLex P ops C E R (k + 1) rest (a.put o.dst undef) w) : wpLex P ops C E R k (o :: rest) a w := by
  unfold wpLex
  rw [if_neg (by rw [hw]; exact Bool.false_ne_true)]
  exact h
theorem lex_eff {R : Act → World → Prop} {k : Nat} {o : Oper} {rest : List Oper} {a : Act} {w : World} (hk : decide (k ∈ E) = true)
    (h : wpList P ops (LexQ C (wpLex P ops C E R (k + 1) rest)) [o] a w) : wpLex P ops C E R k (o :: rest) a w := by
  have hk' : k ∈ E := of_decide_eq_true hk
  unfold wpList at h
  unfold wpLex
  split
  · rename_i hw
    rw [if_pos hw] at h
    rcases h with h | ⟨_, h⟩
    · unfold Oper.wp at h ⊢
      generalize (execOp a.eval o).run P w = r at h ⊢
      cases r with
      | ok n w' =>
        cases n <;> simp only [Oper.upon] at h ⊢
        case enter f args => exact Calls.mono h (fun e w'' he => by
          cases e with
          | returned x => exact he
          | panicked c => exact (he : False).elim
          | outgrown => exact absurd he lexQ_out)
        all_goals first | exact h | exact Rows.mono h (fun _ _ he => he)
      | halt x w' => cases x <;> simp only [Oper.upon] at h ⊢ <;> exact (h : False).elim
    · exact absurd h lexQ_out
  · rename_i hw
    rw [if_neg hw] at h
    exact h.2

theorem enter_not {o : Oper} (ho : plainOp o = true) (ρ : Operand → Value) (w : World) (f : FuncId) (args : Array Value) (w' : World) : (execOp ρ o).run P w ≠ .ok (.enter f args) w' := by
  obtain ⟨dst, op, type, pos, after, guard⟩ := o
  cases op with
  | call c =>
    obtain ⟨callee, as_, ts⟩ := c
    cases callee with
    | builtin b =>
      cases b <;> simp only [plainOp] at ho <;> first
        | (exfalso; revert ho; decide)
        | (simp only [execOp, resolve, invoke, builtin, Sem.run_bind, Sem.run_pure, Result.andThen_ok]; exact andThen_v _ _ _)
    | value x => simp [plainOp] at ho
    | invoke x n => simp [plainOp] at ho
  | pick c x y =>
    simp only [execOp, Sem.run_bind]
    cases (asBool (ρ c)).run P w <;> simp [Result.andThen]
  | move x => simp [execOp]
  | assign x => simp [execOp]
  | nilCheck x =>
    simp only [execOp]
    generalize ρ x = y
    have hp : ∀ (R : Result Next), (runtimePanic (α := Next) .nilDeref).run P w = R → R ≠ .ok (.enter f args) w' := by
      rintro R rfl
      simp [runtimePanic, goPanic, go_sem]
    split
    · exact hp _ rfl
    · exact hp _ rfl
    · exact hp _ rfl
    · split
      · exact hp _ rfl
      · simp only [Sem.run_bind]
        generalize (program).run P w = r0
        cases r0 with
        | ok p w0 =>
          simp only [Result.andThen]
          generalize Sem.run P _ w0 = r1
          cases r1 with
          | ok q w1 =>
            simp only
            split
            · simp [unsupported, go_sem]
            · simp
          | halt _ _ => simp
        | halt _ _ => simp [Result.andThen]
      · simp
    · simp
  | _ => first
    | exact run_v _ _ _ _
    | exact run_u _ _ _ _
    | (exfalso; revert ho; simp only [plainOp]; decide)

theorem lex_pure {R : Act → World → Prop} {k : Nat} {o : Oper} {rest : List Oper} {a : Act} {w : World} (hk : decide (k ∈ E) = false) (hp : plainOp o = true) (hw : Region.wanted o (yielded ops a.tmps) = true)
    (h : ∀ K : Act → Prop, (∀ a, wpLex P ops C E R (k + 1) rest a w → K a) → o.quiet P a C K) : wpLex P ops C E R k (o :: rest) a w := by
  obtain ⟨v, h1, h2⟩ := h _ (fun _ h => h)
  unfold wpLex
  rw [if_pos hw, if_neg (of_decide_eq_false hk)]
  refine ⟨v, fun w' hw' => ?_, h2⟩
  have := h1 w' hw'
  unfold Oper.quietAt at this
  unfold pureAt
  have hne := enter_not (P := P) hp a.eval w'
  generalize (execOp a.eval o).run P w' = r at this hne ⊢
  cases r with
  | ok n w2 =>
    cases n <;> simp only [Oper.quietUpon] at this <;> simp only [pureUpon]
    case value u => exact this
    case skip => exact this
    case enter f args => exact absurd rfl (hne f args w2)
  | halt _ _ => simp only [Oper.quietUpon] at this
end

end Go.Proofs.YtkeaoejgboefbaaGreatDoor

/- A region that draws its order and ends in operations whose order is forced: the head walked once in the text's order, then the tail. For any program. -/
namespace Go.Proofs.YtkeaoejgboefbaaGreatDoor
open Go.RowKit

section
variable {P : Program} {ops : Array Oper} {md : Region.Mode} {C : World → Prop} {E : List Nat}

def wpAnyT (P : Program) (md : Region.Mode) (ops : Array Oper) (C : World → Prop) (E : List Nat) (n : Nat) (L : Array Bool → Act → World → Prop) : Nat → Array Bool → Act → World → Prop
  | 0, listed, a, w => L listed a w
  | fuel + 1, listed, a, w =>
    Region.ready md ops listed ≠ [] ∧ ∀ i ∈ Region.ready md ops listed, i < n ∧ xOp P ops C E i (wpAnyT P md ops C E n L fuel (listed.setIfInBounds i true)) a w

theorem T_first {n i : Nat} {oi : Oper} {L : Array Bool → Act → World → Prop} (hi : ops[i]? = some oi) (hsel : ∀ (j : Nat) (o : Oper) cs b, ops[j]? = some o → o.op ≠ .select cs b)
    (hs : Region.sinkB md ops n = true) (hc : Region.chainB md ops n = true) (hn : n < ops.size) (hin : i < n)
    (hdone : ∀ listed a w, L listed a w → ∀ j ∈ Region.ready md ops listed, n ≤ j) :
    ∀ (fuel : Nat) (listed : Array Bool) (a : Act) (w : World), C w → HeadInv md ops n listed →
      (∀ j oj, ops[j]? = some oj → j ≠ i → listed.getD j true = false → (∀ e ∈ oj.after, Region.binds md e = true → e.on ≠ i) → oi.apart ops oj = true) →
      (i ∈ E → ∀ j, j ∈ E → j ≠ i → listed.getD j true = false → j ∈ waiters md ops i ops.size) →
      i ∈ Region.ready md ops listed → xOp P ops C E i (wpAnyT P md ops C E n L fuel (listed.setIfInBounds i true)) a w → wpAnyT P md ops C E n L (fuel + 1) listed a w := by
  intro fuel
  induction fuel with
  | zero =>
    intro listed a w _ inv _ _ hr H
    have hun := (mem_ready.1 hr).1
    refine ⟨fun h => (by rw [h] at hr; cases hr), fun j hj => ?_⟩
    have hjn : j < n := by
      rcases Nat.lt_or_ge j n with h | h
      · exact h
      · exact absurd hj (tail_waits hs hc hn inv _ i rfl hin hun j h)
    refine ⟨hjn, ?_⟩
    by_cases hji : j = i
    · subst hji; exact H
    · obtain ⟨a', w', h0⟩ := xOp_some H
      have := hdone _ _ _ h0 j (ready_mono hj hji)
      omega
  | succ fuel ih =>
    intro listed a w hC inv hfree heff hr H
    have hun := (mem_ready.1 hr).1
    refine ⟨fun h => (by rw [h] at hr; cases hr), fun j hj => ?_⟩
    have hjn : j < n := by
      rcases Nat.lt_or_ge j n with h | h
      · exact h
      · exact absurd hj (tail_waits hs hc hn inv _ i rfl hin hun j h)
    refine ⟨hjn, ?_⟩
    by_cases hji : j = i
    · subst hji; exact H
    · obtain ⟨hjun, oj, hoj, hall⟩ := mem_ready.1 hj
      have hif : listed.getD i false = false := getD_both hun
      have hnot : ∀ e ∈ oj.after, Region.binds md e = true → e.on ≠ i := fun e he hb heq => by
        have h1 := hall e he hb
        rw [heq, hif] at h1
        cases h1
      have hE : ¬ (i ∈ E ∧ j ∈ E) := fun ⟨h1, h2⟩ => by
        have := waiters_spec inv.closed _ j oj hoj (heff h1 j h2 hji hjun) hall
        rw [hif] at this
        cases this
      have h1 : xOp P ops C E i (fun a1 w1 => xOp P ops C E j (wpAnyT P md ops C E n L fuel ((listed.setIfInBounds i true).setIfInBounds j true)) a1 w1) a w :=
        xOp_mono hC (fun a1 w1 _ h => (h.2 j (ready_mono hj hji)).2) H
      have h2 := xOp_swap hi hoj (hfree j oj hoj hji hjun hnot) (fun cs b => hsel i oi cs b hi) (fun cs b => hsel j oj cs b hoj) hE hC h1
      refine xOp_mono hC (fun a1 w1 hC1 h3 => ih (listed.setIfInBounds j true) a1 w1 hC1 (inv.set hj hjn) ?_ ?_ (ready_mono hr (Ne.symm hji)) ?_) h2
      · intro k ok hk hki hun' hno
        refine hfree k ok hk hki ?_ hno
        by_cases hjk : j = k
        · subst hjk; exact hjun
        · rw [getD_set_ne true hjk] at hun'; exact hun'
      · intro h1 k hk hki hun'
        refine heff h1 k hk hki ?_
        by_cases hjk : j = k
        · subst hjk; exact hjun
        · rw [getD_set_ne true hjk] at hun'; exact hun'
      · rw [Array.setIfInBounds_comm _ _ hji]
        exact h3

theorem wpAnyT_lex {n g : Nat} {R : Act → World → Prop} (hsel : Region.noSelect ops = true) (hE : effOk md ops E = true) (hs : Region.sinkB md ops n = true) (hc : Region.chainB md ops n = true) (hn : n < ops.size) :
    ∀ (l : List Oper) (k : Nat) (listed : Array Bool) (a : Act) (w : World), C w → (∀ j, j < k → listed.getD j true = true) → (∀ j, j < l.length → l[j]? = ops[k + j]?) → k + l.length = n → HeadInv md ops n listed →
    Region.lexHead md ops g l.length k listed = true → wpLex P ops C E R k l a w →
    wpAnyT P md ops C E n (fun listed' a' w' => Region.seqB md ops g n listed' = true ∧ R a' w') l.length listed a w
  | [], k, listed, a, w, _, _, _, hk, _, hB, h => by
    have : k = n := by simpa using hk
    subst this
    exact ⟨by simpa [Region.lexHead] using hB, h⟩
  | o :: l, k, listed, a, w, hC, hlt, hl, hk, inv, hB, h => by
    have h0 : ops[k]? = some o := by simpa using (hl 0 (by simp)).symm
    simp only [List.length_cons, Region.lexHead, Bool.and_eq_true] at hB
    obtain ⟨⟨hr, hf⟩, hB'⟩ := hB
    have hkn : k < n := by simp only [List.length_cons] at hk; omega
    have hr' : k ∈ Region.ready md ops listed := by simpa using hr
    refine T_first h0 (Region.noSelect_spec hsel) hs hc hn hkn (fun listed' a' w' hL => seqB_ready hL.1) l.length listed a w hC inv (Region.free_spec h0 hf) ?_ hr' ?_
    · intro hk j hj hjk hun
      have h1 := List.all_eq_true.1 (List.all_eq_true.1 hE k hk) j hj
      simp only [Bool.or_eq_true, decide_eq_true_eq, List.contains_iff_mem] at h1
      rcases h1 with h1 | h1
      · rw [hlt j (by omega)] at hun; cases hun
      · exact h1
    · have hx : xOp P ops C E k (wpLex P ops C E R (k + 1) l) a w := by unfold xOp; simp only [h0]; exact h
      refine xOp_mono hC (fun a1 w1 hC1 h1 => wpAnyT_lex hsel hE hs hc hn l (k + 1) _ a1 w1 hC1 ?_ (fun j hj => by have := hl (j + 1) (by simp; omega); simpa [Nat.add_assoc, Nat.add_comm 1 j] using this) (by simp only [List.length_cons] at hk; omega) (inv.set hr' hkn) hB' h1) hx
      intro j hj
      by_cases hjk : k = j
      · subst hjk
        rcases Nat.lt_or_ge k listed.size with h' | h'
        · simp [h']
        · simp
      · rw [getD_set_ne true hjk]; exact hlt j (by omega)

theorem wpAny_of_T {n g : Nat} {L : Array Bool → Act → World → Prop} {Q : Exit → Act → World → Prop} (hL : ∀ listed a w, L listed a w → wpAny P md ops Q g listed a w) :
    ∀ (f : Nat) (listed : Array Bool) (a : Act) (w : World), C w → wpAnyT P md ops C E n L f listed a w → wpAny P md ops Q (f + g) listed a w
  | 0, listed, a, w, _, h => by rw [Nat.zero_add]; exact hL _ _ _ h
  | f + 1, listed, a, w, hC, h => by
    rw [show f + 1 + g = (f + g) + 1 by omega]
    refine ⟨fun h0 => absurd h0 h.1, fun i hi => ?_⟩
    have hx := (h.2 i hi).2
    unfold xOp at hx
    unfold wpOp
    split
    · rename_i ho; simp only [ho] at hx; exact wpAny_of_T hL f _ _ _ hC hx
    · rename_i o ho
      simp only [ho] at hx
      split
      · rename_i hw
        simp only [hw, if_true] at hx
        left
        split at hx
        · exact wp_exits (Oper.wp_mono (fun a' w' ⟨h1, h2⟩ => wpAny_of_T hL f _ a' w' h1 h2) hx)
        · obtain ⟨v, hv, hx⟩ := hx
          have hv := hv _ hC
          unfold pureAt at hv
          unfold Oper.wp
          generalize (execOp _ o).run P _ = r at hv ⊢
          cases r with
          | ok n w' =>
            cases n <;> simp only [pureUpon] at hv <;> simp only [Oper.upon]
            case value u => obtain ⟨rfl, rfl⟩ := hv; exact wpAny_of_T hL f _ _ _ hC hx
            case skip => obtain ⟨rfl, rfl⟩ := hv; exact wpAny_of_T hL f _ _ _ hC hx
          | halt _ _ => simp only [pureUpon] at hv
      · rename_i hw
        simp only [hw] at hx
        exact wpAny_of_T hL f _ _ _ hC hx

theorem wp_region_tail {id : Nat} {Q : Exit → Act → World → Prop} {a : Act} {w : World} {l : List Oper} (n : Nat) (E : List Nat) (Φ : World → Prop) (h0 : Φ w.drew) (hm : P.follows .mixedOrders = true) (hB : Region.lexTailB .any l.toArray n = true) (hE : effOk .any l.toArray E = true)
    (h : wpLex P l.toArray (fun w' => ∃ x : Lat Φ, w' = x.w') E (fun a' w' => wpList P l.toArray Q (l.drop n) a' w') 0 (l.take n) a w.drew) : (Code.region id l.toArray true).wp P Q a w := by
  have hC : (fun w' => ∃ x : Lat Φ, w' = x.w') w.drew := ⟨⟨w.drew, h0⟩, rfl⟩
  simp only [Region.lexTailB, Bool.and_eq_true, decide_eq_true_eq] at hB
  obtain ⟨⟨⟨⟨hsel, hn⟩, hs⟩, hc⟩, hlex⟩ := hB
  have hn' : n < l.length := by simpa using hn
  have htl : (l.take n).length = n := by simp; omega
  have hdl : (l.drop n).length = l.toArray.size - n := by simp
  have inv0 : HeadInv .any l.toArray n (Array.replicate l.toArray.size false) :=
    ⟨by simp, fun j oj _ hl => (by rw [getD_replicate_false] at hl; cases hl), fun t _ ht => getD_in (by simpa using ht) (getD_replicate_false _ _)⟩
  have H := wpAnyT_lex (P := P) (md := .any) (g := l.toArray.size - n) hsel hE hs hc hn (l.take n) 0 _ a w.drew hC (fun j hj => absurd hj (Nat.not_lt_zero _)) (fun j hj => by
    have hj' : j < n := by rw [htl] at hj; exact hj
    simp [hj']) (by simpa using htl) inv0 (by rw [htl]; exact hlex) h
  refine wp_region_any hm ?_
  have := wpAny_of_T (Q := Q) (g := l.toArray.size - n) (fun listed a' w' hL => by
    have := wpAny_of_seq (md := .any) (Q' := Q) (l.drop n) n listed a' w' (fun j => by simp [List.getElem?_drop]) (by rw [hdl]; exact hL.1) hL.2
    rwa [hdl] at this) _ _ _ _ hC H
  rw [htl, show n + (l.toArray.size - n) = l.toArray.size by omega] at this
  exact this
end

end Go.Proofs.YtkeaoejgboefbaaGreatDoor

/- engine.formula: a pick. -/
namespace Go.Proofs.YtkeaoejgboefbaaGreatDoor
open Go.RowKit Go.Maps

def pickY (s : ByteArray) : E.V → E.Pr
  | none => .ret none
  | some t => .ret (some (E.pickB s t))
def pickK (b : ByteArray) : E.V → E.Pr
  | none => .ret none
  | some s => .ask b (pickY s)
theorem pickB_le {s t : ByteArray} (h : s.size ≤ 65536) : (E.pickB s t).size ≤ 140737488355328 := by
  rw [pickB_is]
  rw [ByteArray.size, List.size_toArray]
  exact kept_bound h
set_option maxRecDepth 100000 in
set_option maxHeartbeats 4000000 in
theorem formula_pick {X SA : Nat → Prop} {Q : World → Qs → Nat → Option Nat → (Nat → Prop) → Prop} {f : Nat} {lb : Array Value} {get : E.St → E.Nm → Except Int (E.V × E.St)} (ha : Asks f lb get X Q) {u : Option Nat} {F : Nat → Prop} {w : World} {A : Option Addr} {k : Nat} {nm tx x1 x2 : ByteArray} {q : Qs}
    (hq : Q w q 0 u F) (hs : SliceAt strR w SA A k [x1, x2]) (ho : ∀ k, SA k → k < w.heap.size ∧ ¬ X k ∧ u ≠ some k) :
    Calls Tryz.prog 62 #[.agg #[.string nm, .int .i64 4, .slice A 2 k, .string tx], .func (.func f) #[] lb] w (RetP X Q u F w (runQ get (.ask x1 (pickK x2)) q)) := by
  obtain ⟨c0, hc0⟩ : ∃ c0 : Array Value, c0 = #[.string nm, .int .i64 4, .slice A 2 k, .string tx] := ⟨_, rfl⟩
  obtain ⟨R, hR⟩ : ∃ R, R = runQ get (.ask x1 (pickK x2)) q := ⟨_, rfl⟩
  obtain ⟨W1, hW1⟩ : ∃ W1, W1 = ((w.alloc (.cells #[.string nm, .int .i64 4, .slice A 2 k, .string tx] 50)).alloc (.cells #[.string ⟨#[]⟩, .bool false] 86)) := ⟨_, rfl⟩
  have HF : Hid (Fl X SA Q u F w c0 A k [x1, x2] W1 q 0 u F) := Lib.hid (by rw [hW1, hc0]; exact Fl.start ha hq hs ho)
  rw [← hR]
  have HA := Lib.hid ha
  have eg := ha.enters
  have HC0 := Lib.hid hc0
  obtain ⟨b, off, hAe, hbb, d0, hz⟩ := str_get HF.out.args (k := 0) (Nat.zero_lt_succ _)
  subst hAe
  have hcall := Lib.hid (HF.out.ask HA.out (Nat.zero_le _) hz)
  replace d0 : W1.cell? ⟨b, off, none⟩ = some (.string x1) := d0
  have a1 : W1.cell? ⟨w.heap.size, 1, none⟩ = some (.int .i64 4) := by rw [new_off HF.out.b0, hc0]; rfl
  have a2 : W1.cell? ⟨w.heap.size, 2, none⟩ = some (.slice (some ⟨b, off, none⟩) 2 k) := by rw [new_off HF.out.b0, hc0]; rfl
  have HST : Hid (R = runQ get ((pickK x2) (askQ get q x1).1) (askQ get q x1).2) := Lib.hid hR
  replace hcall : Hid (Calls Tryz.prog f (#[.string x1] ++ lb) W1 fun ed w' => ed = .returned (foundV (askQ get q x1).1) ∧ ((askQ get q x1).1.getD ⟨#[]⟩).size ≤ 65536 ∧ ∃ u' F', (∀ (i : Nat) (o : Obj), W1.heap[i]? = some o → ¬ F i → w'.heap[i]? = some o ∧ ¬ F' i) ∧ Fl X SA Q u F w c0 (some ⟨b, off, none⟩) k [x1, x2] w' (askQ get q x1).2 1 u' F') := hcall
  clear hR ha hc0 hq hs ho HF
  generalize askQ get q x1 = qa at *
  obtain ⟨v, q'⟩ := qa
  go_enter Tryz.func62, Tryz.ntmps62
  go_upto_region 1 with (fail)
  rw [← hW1]
  clear hW1
  go_wp2_with fail
  go_at_fn f
  refine hcall.out.mono ?_
  rintro e w1 ⟨rfl, h2, u', F', h3, h4⟩
  have HST' : Hid (R = runQ get ((pickK x2) v) q') := HST
  have h2' : (v.getD ⟨#[]⟩).size ≤ 65536 := h2
  have h4' : Fl X SA Q u F w c0 (some ⟨b, off, none⟩) k [x1, x2] w1 q' 1 u' F' := h4
  have HF4 := Lib.hid h4'
  have HB3 := Lib.hid h2'
  clear HST h2 h4 h4' h3 h2' hcall a1 a2 d0
  cases v with
  | none =>
    have HE : Hid (R = (none, q')) := HST'
    clear HST'
    rw [foundV_none]
    obtain ⟨W2, hW2⟩ : ∃ W2, W2 = w1.alloc (.cells #[.string ⟨#[]⟩, .bool false] 86) := ⟨_, rfl⟩
    have X2 : Ext w1 W2 := by rw [hW2]; exact (Ext.refl w1).alloc _
    have K8 : Hid (W2.heap[w1.heap.size]? = some (.cells #[.string ⟨#[]⟩, .bool false] 86 (0, 0))) := Lib.hid (by rw [hW2]; exact heap_alloc_new w1 _)
    have HF2 := Lib.hid (HF4.out.ext HA.out X2)
    have e0 : W2.cell? ⟨w1.heap.size, 0, none⟩ = some (.string ⟨#[]⟩) := by rw [new_off K8.out]; rfl
    have e1 : W2.cell? ⟨w1.heap.size, 1, none⟩ = some (.bool false) := by rw [new_off K8.out]; rfl
    have HNX : Hid (¬ F' w1.heap.size) := Lib.hid fun e => by have := HA.out.lt HF4.out.q _ e; omega
    clear X2
    go_upto_region 13 with (fail)
    rw [← hW2]
    clear hW2
    have a1 : W2.cell? ⟨w.heap.size, 1, none⟩ = some (.int .i64 4) := by rw [new_off HF2.out.b0, HC0.out]; rfl
    have a2 : W2.cell? ⟨w.heap.size, 2, none⟩ = some (.slice (some ⟨b, off, none⟩) 2 k) := by rw [new_off HF2.out.b0, HC0.out]; rfl
    have r0 : W2.cell? ⟨w.heap.size + 1, 0, none⟩ = some (.string ⟨#[]⟩) := by rw [new_off HF2.out.b1]; rfl
    have r1 : W2.cell? ⟨w.heap.size + 1, 1, none⟩ = some (.bool false) := by rw [new_off HF2.out.b1]; rfl
    have f0 := Lib.frozen_of_heap HF2.out.b1 0
    have f1 := Lib.frozen_of_heap HF2.out.b1 1
    go_wp2_with fail
    exact ret_found Tryz.results62 rfl (found_set HF2.out.b1 _ _) rfl (by rw [HE.out]; exact HF2.out.ends HA.out (v := none) (by omega) (Nat.zero_le _) _ _)
  | some s =>
    have HE : Hid (R = runQ get (pickY s (askQ get q' x2).1) (askQ get q' x2).2) := HST'
    clear HST'
    rw [foundV_some]
    obtain ⟨W2, hW2⟩ : ∃ W2, W2 = w1.alloc (.cells #[.string s, .bool true] 86) := ⟨_, rfl⟩
    have X2 : Ext w1 W2 := by rw [hW2]; exact (Ext.refl w1).alloc _
    have K8 : Hid (W2.heap[w1.heap.size]? = some (.cells #[.string s, .bool true] 86 (0, 0))) := Lib.hid (by rw [hW2]; exact heap_alloc_new w1 _)
    have HF2 := Lib.hid (HF4.out.ext HA.out X2)
    have e0 : W2.cell? ⟨w1.heap.size, 0, none⟩ = some (.string s) := by rw [new_off K8.out]; rfl
    have e1 : W2.cell? ⟨w1.heap.size, 1, none⟩ = some (.bool true) := by rw [new_off K8.out]; rfl
    have HNX : Hid (¬ F' w1.heap.size) := Lib.hid fun e => by have := HA.out.lt HF4.out.q _ e; omega
    clear X2
    go_upto_region 13 with (fail)
    rw [← hW2]
    clear hW2
    have a1 : W2.cell? ⟨w.heap.size, 1, none⟩ = some (.int .i64 4) := by rw [new_off HF2.out.b0, HC0.out]; rfl
    have a2 : W2.cell? ⟨w.heap.size, 2, none⟩ = some (.slice (some ⟨b, off, none⟩) 2 k) := by rw [new_off HF2.out.b0, HC0.out]; rfl
    obtain ⟨b', off', hAe, _, d1, hz1⟩ := str_get HF2.out.args (k := 1) (by simp)
    obtain ⟨rfl, rfl⟩ : b' = b ∧ off' = off := by
      injection hAe with e
      injection e with e1 e2
      exact ⟨e1.symm, e2.symm⟩
    replace d1 : W2.cell? ⟨b', off' + 1, none⟩ = some (.string x2) := d1
    clear hAe
    obtain ⟨xb, hxb⟩ : ∃ xb, xb = w1.heap.size := ⟨_, rfl⟩
    rw [← hxb] at e0 e1 K8 HNX ⊢
    clear hxb
    obtain ⟨Φ, hΦ⟩ : ∃ Φ : World → Prop, ∀ w', Φ w' ↔ (w'.cell? ⟨xb, 0, none⟩ = some (.string s) ∧ w'.cell? ⟨xb, 1, none⟩ = some (.bool true) ∧ w'.cell? ⟨w.heap.size, 2, none⟩ = some (.slice (some ⟨b', off', none⟩) 2 k) ∧ w'.cell? ⟨b', off' + 1, none⟩ = some (.string x2)) := ⟨_, fun _ => Iff.rfl⟩
    have h0 : Φ W2.drew := (hΦ _).2 ⟨e0, e1, a2, d1⟩
    have HFD := Lib.hid (HF2.out.ext HA.out (Ext.refl W2).drew)
    have fx0 : ∀ x : Lat Φ, x.w'.cell? ⟨xb, 0, none⟩ = some (.string s) := fun x => ((hΦ _).1 x.h).1
    have fx1 : ∀ x : Lat Φ, x.w'.cell? ⟨xb, 1, none⟩ = some (.bool true) := fun x => ((hΦ _).1 x.h).2.1
    have fx2 : ∀ x : Lat Φ, x.w'.cell? ⟨w.heap.size, 2, none⟩ = some (.slice (some ⟨b', off', none⟩) 2 k) := fun x => ((hΦ _).1 x.h).2.2.1
    have fx3 : ∀ x : Lat Φ, x.w'.cell? ⟨b', off' + 1, none⟩ = some (.string x2) := fun x => ((hΦ _).1 x.h).2.2.2
    have HΦ := Lib.hid hΦ
    have hne1 := Lat.some h0
    clear hΦ
    have hcall := Lib.hid (HFD.out.ask HA.out (by decide) hz1)
    replace hcall : Hid (Calls Tryz.prog f (#[.string x2] ++ lb) W2.drew fun ed w' => ed = .returned (foundV (askQ get q' x2).1) ∧ ((askQ get q' x2).1.getD ⟨#[]⟩).size ≤ 65536 ∧ ∃ u'' F'', (∀ (i : Nat) (o : Obj), W2.drew.heap[i]? = some o → ¬ F' i → w'.heap[i]? = some o ∧ ¬ F'' i) ∧ Fl X SA Q u F w c0 (some ⟨b', off', none⟩) k [x1, x2] w' (askQ get q' x2).2 2 u'' F'') := hcall
    generalize askQ get q' x2 = qb at *
    obtain ⟨y, q''⟩ := qb
    replace HE : Hid (R = runQ get (pickY s y) q'') := HE
    have KD : Hid (W2.drew.heap[xb]? = some (.cells #[.string s, .bool true] 86 (0, 0))) := K8
    go_upto_region 24 with (fail)
    refine wp_region_tail 8 [6, 7] Φ h0 (by kernel_rfl) (by kernel_rfl) (by kernel_rfl) ?_
    simp only [List.take_succ_cons, List.take_zero, List.drop_succ_cons, List.drop_zero]
    iterate 6 (refine lex_pure rfl rfl rfl ?_; intro K hK; go_big_quiet_op; go_big_quiet_on)
    refine lex_eff rfl ?_
    go_wp2_with fail
    refine hcall.out.mono ?_
    rintro e w3 ⟨rfl, g2, u'', F'', g3, g4⟩
    have g2' : (y.getD ⟨#[]⟩).size ≤ 65536 := g2
    have g4' : Fl X SA Q u F w c0 (some ⟨b', off', none⟩) k [x1, x2] w3 q'' 2 u'' F'' := g4
    have HF3 := Lib.hid g4'
    have HG2 := Lib.hid g2'
    have K3 := Lib.hid (g3 xb _ KD.out HNX.out).1
    obtain ⟨b3, off3, hAe, _, d3, _⟩ := str_get HF3.out.args (k := 1) (by simp)
    obtain ⟨rfl, rfl⟩ : b3 = b' ∧ off3 = off' := by
      injection hAe with e
      injection e with e1 e2
      exact ⟨e1.symm, e2.symm⟩
    have hΦ3 : Φ w3 := (HΦ.out _).2 ⟨by rw [new_off K3.out]; rfl, by rw [new_off K3.out]; rfl, by rw [new_off HF3.out.b0, HC0.out]; rfl, d3⟩
    have HP3 := Lib.hid hΦ3
    clear hΦ3 hAe d3 g2 g2' g3 g4 g4' hcall e0 e1 a1 a2 d1
    cases y with
    | none =>
      replace HE : Hid (R = (none, q'')) := HE
      rw [foundV_none]
      go_wp2_with fail
      refine ⟨⟨⟨w3, HP3.out⟩, rfl⟩, ?_⟩
      refine lex_eff rfl ?_
      go_wp2_with fail
      refine (pick_none s w3).mono ?_
      rintro e w4 ⟨rfl, d4⟩
      have HF5 := Lib.hid (HF3.out.ext HA.out d4)
      have K4 := Lib.hid ((d4.block _ (Array.getElem?_eq_some_iff.1 K3.out).1).trans K3.out)
      have hΦ4 : Φ w4 := (HΦ.out _).2 ⟨d4.keepc ((HΦ.out _).1 HP3.out).1, d4.keepc ((HΦ.out _).1 HP3.out).2.1, d4.keepc ((HΦ.out _).1 HP3.out).2.2.1, d4.keepc ((HΦ.out _).1 HP3.out).2.2.2⟩
      have HP4 := Lib.hid hΦ4
      clear hΦ4 d4
      have r0 : w4.cell? ⟨w.heap.size + 1, 0, none⟩ = some (.string ⟨#[]⟩) := by rw [new_off HF5.out.b1]; rfl
      have r1 : w4.cell? ⟨w.heap.size + 1, 1, none⟩ = some (.bool false) := by rw [new_off HF5.out.b1]; rfl
      have f0 := Lib.frozen_of_heap HF5.out.b1 0
      have f1 := Lib.frozen_of_heap HF5.out.b1 1
      rw [foundV_none]
      go_wp2_with fail
      refine ⟨⟨⟨w4, HP4.out⟩, rfl⟩, ?_⟩
      refine lex_nil ?_
      clear fx0 fx1 fx2 fx3 hne1
      go_wp2_with fail
      exact ret_found Tryz.results62 rfl (found_set HF5.out.b1 _ _) rfl (by rw [HE.out]; exact HF5.out.ends HA.out (v := none) (by decide) (Nat.zero_le _) _ _)
    | some t =>
      replace HE : Hid (R = (some (E.pickB s t), q'')) := HE
      have HPL := Lib.hid (pickB_le (s := s) (t := t) HB3.out)
      have HPK := Lib.hid (pick_some s t w3 HB3.out (HA.out.gl HF3.out.q))
      generalize E.pickB s t = pb at *
      rw [foundV_some]
      go_wp2_with fail
      refine ⟨⟨⟨w3, HP3.out⟩, rfl⟩, ?_⟩
      refine lex_eff rfl ?_
      go_wp2_with fail
      refine HPK.out.mono ?_
      rintro e w4 ⟨rfl, d4⟩
      have HF5 := Lib.hid (HF3.out.ext HA.out d4)
      have K4 := Lib.hid ((d4.block _ (Array.getElem?_eq_some_iff.1 K3.out).1).trans K3.out)
      have hΦ4 : Φ w4 := (HΦ.out _).2 ⟨d4.keepc ((HΦ.out _).1 HP3.out).1, d4.keepc ((HΦ.out _).1 HP3.out).2.1, d4.keepc ((HΦ.out _).1 HP3.out).2.2.1, d4.keepc ((HΦ.out _).1 HP3.out).2.2.2⟩
      have HP4 := Lib.hid hΦ4
      clear hΦ4 d4
      have r0 : w4.cell? ⟨w.heap.size + 1, 0, none⟩ = some (.string ⟨#[]⟩) := by rw [new_off HF5.out.b1]; rfl
      have r1 : w4.cell? ⟨w.heap.size + 1, 1, none⟩ = some (.bool false) := by rw [new_off HF5.out.b1]; rfl
      have f0 := Lib.frozen_of_heap HF5.out.b1 0
      have f1 := Lib.frozen_of_heap HF5.out.b1 1
      rw [foundV_some]
      go_wp2_with fail
      refine ⟨⟨⟨w4, HP4.out⟩, rfl⟩, ?_⟩
      refine lex_nil ?_
      clear fx0 fx1 fx2 fx3 hne1
      go_wp2_with fail
      exact ret_found Tryz.results62 rfl (found_set HF5.out.b1 _ _) rfl (by rw [HE.out]; exact HF5.out.ends HA.out (v := some pb) (by decide) HPL.out _ _)
end Go.Proofs.YtkeaoejgboefbaaGreatDoor

/- engine.formula. -/
namespace Go.Proofs.YtkeaoejgboefbaaGreatDoor
open Go.RowKit Go.Maps

theorem length_two {l : List ByteArray} (h : l.length = 2) : ∃ a b, l = [a, b] := by
  match l, h with
  | [a, b], _ => exact ⟨a, b, rfl⟩
theorem length_three {l : List ByteArray} (h : l.length = 3) : ∃ a b c, l = [a, b, c] := by
  match l, h with
  | [a, b, c], _ => exact ⟨a, b, c, rfl⟩
theorem formed_ways {nm tx : ByteArray} {op : Int} {args : List ByteArray} (h : E.formedB (nm, op, args, tx) = true) (h2 : E.isIn (nm, op, args, tx) = false) :
    (op = 2 ∧ args.length ≤ 8 ∧ tx.size ≤ 64) ∨ (op = 3 ∧ ∃ a, args = [a]) ∨ (op = 4 ∧ ∃ a b, args = [a, b]) ∨ (op = 5 ∧ ∃ a b c, args = [a, b, c]) ∨ (op = 6 ∧ ∃ a, args = [a]) ∨ (op = 7 ∧ ∃ a b, args = [a, b]) := by
  unfold E.formedB at h
  unfold E.isIn at h2
  simp only [Bool.and_eq_true] at h
  obtain ⟨_, h⟩ := h
  have h1 : op ≠ 1 := by simpa using h2
  by_cases e : op = 2
  · rw [if_pos e] at h
    simp at h
    exact .inl ⟨e, h⟩
  · rw [if_neg e] at h
    simp at h
    obtain ⟨h, _⟩ := h
    rcases h with ((((⟨e1, _⟩ | ⟨e1, hl⟩) | ⟨e1, hl⟩) | ⟨e1, hl⟩) | ⟨e1, hl⟩) | ⟨e1, hl⟩
    · exact absurd e1 h1
    · exact .inr (.inl ⟨e1, List.length_eq_one_iff.1 hl⟩)
    · exact .inr (.inr (.inl ⟨e1, length_two hl⟩))
    · exact .inr (.inr (.inr (.inl ⟨e1, length_three hl⟩)))
    · exact .inr (.inr (.inr (.inr (.inl ⟨e1, List.length_eq_one_iff.1 hl⟩))))
    · exact .inr (.inr (.inr (.inr (.inr ⟨e1, length_two hl⟩))))
theorem ask_congr {n : E.Nm} {k k' : E.V → E.Pr} (h : ∀ v, k v = k' v) : E.Pr.ask n k = .ask n k' := by rw [funext h]
theorem pickY_is (s : ByteArray) : (fun y : E.V => match y with
        | none => E.Pr.ret none
        | some t => .ret (some (E.pickB s t))) = pickY s := by
  funext y; cases y <;> rfl
theorem formula_any {X SA : Nat → Prop} {Q : World → Qs → Nat → Option Nat → (Nat → Prop) → Prop} {f : Nat} {lb : Array Value} {get : E.St → E.Nm → Except Int (E.V × E.St)} (ha : Asks f lb get X Q) {u : Option Nat} {F : Nat → Prop} {w : World} {A : Option Addr} {k : Nat} {c : E.Cell} {q : Qs}
    (hf : E.formedB c = true) (hi : E.isIn c = false) (hq : Q w q 0 u F) (hs : SliceAt strR w SA A k c.2.2.1) (ho : ∀ k, SA k → k < w.heap.size ∧ ¬ X k ∧ u ≠ some k) :
    Calls Tryz.prog 62 #[cellV c A k, .func (.func f) #[] lb] w (RetP X Q u F w (runQ get (E.form c) q)) := by
  obtain ⟨nm, op, args, tx⟩ := c
  rcases formed_ways hf hi with ⟨rfl, h1, h2⟩ | ⟨rfl, a, rfl⟩ | ⟨rfl, a, b, rfl⟩ | ⟨rfl, a, b, c, rfl⟩ | ⟨rfl, a, rfl⟩ | ⟨rfl, a, b, rfl⟩
  · exact formula_join ha hq hs ho rfl h1 h2
  · have e : E.form (nm, 3, [a], tx) = .ask a countK := ask_congr fun v => by cases v <;> rfl
    rw [e]
    exact formula_count ha hq hs ho
  · have e : E.form (nm, 4, [a, b], tx) = .ask a (pickK b) := ask_congr fun v => by
      cases v with
      | none => rfl
      | some s => exact congrArg (E.Pr.ask b) (pickY_is s)
    rw [e]
    exact formula_pick ha hq hs ho
  · have e : E.form (nm, 5, [a, b, c], tx) = .ask a (chooseK b c) := ask_congr fun v => by cases v <;> rfl
    rw [e]
    exact formula_choose ha hq hs ho
  · have e : E.form (nm, 6, [a], tx) = .ask a followK := ask_congr fun v => by cases v <;> rfl
    rw [e]
    exact formula_follow ha hq hs ho
  · have e : E.form (nm, 7, [a, b], tx) = .ask a (orK b) := ask_congr fun v => by cases v <;> rfl
    rw [e]
    exact formula_or ha hq hs ho
end Go.Proofs.YtkeaoejgboefbaaGreatDoor

/- The closure of compute, as formula sees it. -/
namespace Go.Proofs.YtkeaoejgboefbaaGreatDoor
open Go.RowKit Go.Maps

theorem Live.tch {w w' : World} {S Y : Nat → Prop} {g bc bi br rb ob C : Nat} {e : E.En} {opn : List ByteArray} (h : Live w S g bc bi br rb ob C e opn) (ht : Tch Y w w') (hY : ∀ k, Y k → ¬ Mv g br rb ob k ∧ k ≠ bc ∧ k ≠ bi ∧ ¬ S k ∧ ¬ Lib0 k) : Live w' S g bc bi br rb ob C e opn where
  eng := h.eng.tch ht fun k hk => by
    obtain ⟨h1, h2, h3, h4, _⟩ := hY k hk
    exact ⟨fun e => h1 (.inl e), h2, h3, fun e => h1 (.inr (.inl e)), h4⟩
  run := h.run.tch ht fun hk => (hY _ hk).1 (.inr (.inr (.inl rfl)))
  opens := h.opens.tch ht fun hk => (hY _ hk).1 (.inr (.inr (.inr rfl)))
  apart := h.apart
  gl := h.gl.tch ht fun k hk => (hY k hk).2.2.2.2
  off := h.off
  inv := h.inv
theorem Dead.tch {w w' : World} {Y : Nat → Prop} {g bc bi br rb ob : Nat} {rev x : Int} (h : Dead w g bc bi br rb ob rev x) (ht : Tch Y w w') (hY : ∀ k, Y k → ¬ Mv g br rb ob k) : Dead w' g bc bi br rb ob rev x := by
  obtain ⟨⟨cnt, h1⟩, h2, f, h3⟩ := h
  exact ⟨⟨cnt, h1.tch ht fun hk => hY _ hk (.inl rfl)⟩, h2.tch ht fun hk => hY _ hk (.inr (.inr (.inl rfl))), f, h3.tch ht fun hk => hY _ hk (.inr (.inr (.inr rfl)))⟩
/-- What compute's closure stands on. -/
def foot (g bc bi br rb ob b2 b5 : Nat) (S : Nat → Prop) (u : Option Nat) : Nat → Prop := fun k => Mv g br rb ob k ∨ k = bc ∨ k = bi ∨ Lib0 k ∨ S k ∨ k = b2 ∨ k = b5 ∨ u = some k
/-- compute on its way: what is there behind m reads. -/
structure QCore (w0 : World) (S0 : Nat → Prop) (g bc bi br rb ob C : Nat) (e : E.En) (opn : List ByteArray) (wr : World) (q : Qs) (m : Nat) (u : Option Nat) (S : Nat → Prop) (v : Value) (rs : List (E.Nm × E.V)) : Prop where
  p2 : wr.heap[w0.heap.size]? = some (.cells #[.pointer (some ⟨rb, 0, none⟩)] 90 (0, 0))
  rds : Rds wr (w0.heap.size + 3) v rs
  len : rs.length = m
  own : v.ownBlock = u
  hi : ∀ t, u = some t → w0.heap.size + 4 ≤ t ∧ ¬ S t
  sub : ∀ k, S0 k → S k
  sup : ∀ k, S k → S0 k ∨ w0.heap.size + 4 ≤ k
  lt : ∀ k, S k → k < wr.heap.size
  sz : ∀ r ∈ rs, r.1.size ≤ 9223372036854775807 ∧ (r.2.getD ⟨#[]⟩).size ≤ 9223372036854775807
  gl : Gl wr
  st : match q with
    | .ok (st, rs') => rs' = rs ∧ Live wr S g bc bi br rb ob C { e with st := st } opn
    | .error x => x ≠ 0 ∧ Dead wr g bc bi br rb ob e.rev x ∧ ∃ f, MapF Tryz.prog wr bc f ∧ CellsVal (E.findC e.cells) f
def QC (w0 : World) (S0 : Nat → Prop) (g bc bi br rb ob C : Nat) (e : E.En) (opn : List ByteArray) (wr : World) (q : Qs) (m : Nat) (u : Option Nat) (F : Nat → Prop) : Prop :=
  ∃ S v rs, F = foot g bc bi br rb ob w0.heap.size (w0.heap.size + 3) S u ∧ QCore w0 S0 g bc bi br rb ob C e opn wr q m u S v rs
section
variable {w0 : World} {S0 : Nat → Prop} {g bc bi br rb ob C : Nat} {e : E.En} {opn : List ByteArray}
/-- Where the blocks of a run lie. -/
theorem Live.low (h : Live w0 S0 g bc bi br rb ob C e opn) : (∀ k, Mv g br rb ob k → k < w0.heap.size) ∧ bc < w0.heap.size ∧ bi < w0.heap.size ∧ (∀ k, Lib0 k → k < w0.heap.size) ∧ ∀ k, S0 k → k < w0.heap.size := by
  obtain ⟨f, h1, _⟩ := h.eng.results
  obtain ⟨f2, h2, _⟩ := h.eng.cells
  have l1 := h.eng.row.lt
  have l2 := h1.lt
  have l3 := h.run.lt
  have l4 := h.opens.lt
  refine ⟨?_, h2.lt, h.eng.inputs.lt, fun k hk => h.gl.lt hk, h.eng.lt⟩
  rintro k (e | e | e | e) <;> omega
theorem QCore.keep {wr w' : World} {q : Qs} {m : Nat} {u : Option Nat} {S Y : Nat → Prop} {v : Value} {rs : List (E.Nm × E.V)} (h : QCore w0 S0 g bc bi br rb ob C e opn wr q m u S v rs) (ht : Tch Y wr w') (hY : ∀ k, Y k → ¬ foot g bc bi br rb ob w0.heap.size (w0.heap.size + 3) S u k) : QCore w0 S0 g bc bi br rb ob C e opn w' q m u S v rs where
  p2 := (ht.block _ (Array.getElem?_eq_some_iff.1 h.p2).1 fun hy => hY _ hy (by simp [foot])).trans h.p2
  rds := by
    refine ⟨(ht.block _ (Array.getElem?_eq_some_iff.1 h.rds.heap).1 fun hy => hY _ hy (by simp [foot])).trans h.rds.heap, h.rds.own.keep fun k hk hl => ht.block k hl fun hy => hY _ hy ?_, h.rds.ne⟩
    rw [h.own] at hk
    simp [foot, hk]
  len := h.len
  own := h.own
  hi := h.hi
  sub := h.sub
  sup := h.sup
  lt := fun k hk => Nat.lt_of_lt_of_le (h.lt k hk) ht.size
  sz := h.sz
  gl := h.gl.tch ht fun k hy hk => hY _ hy (by simp [foot, hk])
  st := by
    have := h.st
    cases q with
    | ok p =>
      obtain ⟨st, rs'⟩ := p
      obtain ⟨h1, h2⟩ := this
      refine ⟨h1, h2.tch ht fun k hk => ?_⟩
      have := hY k hk
      simp only [foot, not_or] at this
      exact ⟨this.1, this.2.1, this.2.2.1, this.2.2.2.2.1, this.2.2.2.1⟩
    | error x =>
      obtain ⟨h1, h2, f, h3, h4⟩ := this
      refine ⟨h1, h2.tch ht fun k hk hm => hY k hk (by simp [foot, hm]), f, h3.tch ht fun hk => hY _ hk (by simp [foot]), h4⟩
/-- What a read leads to, alive. -/
def GetQ (g bc bi br rb ob C : Nat) (e : E.En) (opn : List ByteArray) (S : Nat → Prop) (wb : Nat) (r : Except Int (E.V × E.St)) (x : E.V) (w : World) : Prop := match r with
  | .ok (v, st) => x = v ∧ (v.getD ⟨#[]⟩).size ≤ 65536 ∧ ∃ S', Live w S' g bc bi br rb ob C { e with st := st } opn ∧ (∀ k, S k → S' k) ∧ ∀ k, S' k → S k ∨ wb < k
  | .error y => x = none ∧ y ≠ 0 ∧ Dead w g bc bi br rb ob e.rev y
/-- A read is noted. -/
theorem ask_done {st0 : E.St} (h0 : Live w0 S0 g bc bi br rb ob C { e with st := st0 } opn) {wr : World} {q : Qs} {m : Nat} {u : Option Nat} {S : Nat → Prop} {v : Value} {rs : List (E.Nm × E.V)} (h : QCore w0 S0 g bc bi br rb ob C e opn wr q m u S v rs)
    {n : ByteArray} {x : E.V} {w1 w2 : World} {v' : Value} (t1 : Tch (Mv g br rb ob) wr w1) (t2 : Tch (fun k => k = w0.heap.size + 3 ∨ v.ownBlock = some k ∨ k = wr.heap.size) w1 w2) (hr : Rds w2 (w0.heap.size + 3) v' (rs ++ [(n, x)])) (ho : v'.ownBlock = v.ownBlock ∨ ∃ u, v'.ownBlock = some u ∧ w1.heap.size ≤ u)
    {q' : Qs} {S' : Nat → Prop} (hzn : n.size ≤ 9223372036854775807) (hzx : (x.getD ⟨#[]⟩).size ≤ 9223372036854775807) (hs1 : ∀ k, S k → S' k) (hs2 : ∀ k, S' k → S k ∨ wr.heap.size < k) (hs3 : ∀ k, S' k → k < w1.heap.size) (hg : Gl w1)
    (hst : match q' with
      | .ok (st, rs') => rs' = rs ++ [(n, x)] ∧ Live w1 S' g bc bi br rb ob C { e with st := st } opn
      | .error x => x ≠ 0 ∧ Dead w1 g bc bi br rb ob e.rev x ∧ ∃ f, MapF Tryz.prog w1 bc f ∧ CellsVal (E.findC e.cells) f) :
    ∃ u' F', Turned (fun k => Mv g br rb ob k ∨ k = w0.heap.size + 3) u u' (foot g bc bi br rb ob w0.heap.size (w0.heap.size + 3) S u) F' wr w2 ∧ QC w0 S0 g bc bi br rb ob C e opn w2 q' (m + 1) u' F' := by
  obtain ⟨l1, l2, l3, l4, l5⟩ := h0.low
  have hsz : w0.heap.size + 4 ≤ wr.heap.size := (Array.getElem?_eq_some_iff.1 h.rds.heap).1
  have hs4 : ¬ S' (w0.heap.size + 3) := fun e => by
    rcases hs2 _ e with e | e
    · rcases h.sup _ e with e | e
      · have := l5 _ e; omega
      · omega
    · omega
  have hs5 : ¬ S' wr.heap.size := fun e => by
    rcases hs2 _ e with e | e
    · have := h.lt _ e; omega
    · omega
  have hv : ∀ t, v.ownBlock = some t → w0.heap.size + 4 ≤ t ∧ ¬ S' t := fun t ht => by
    have h1 := h.hi t (h.own ▸ ht)
    have h2 := own_at_lt h.rds.own ht
    refine ⟨h1.1, fun e => ?_⟩
    rcases hs2 _ e with e | e
    · exact h1.2 e
    · omega
  have hY : ∀ k, (k = w0.heap.size + 3 ∨ v.ownBlock = some k ∨ k = wr.heap.size) → w0.heap.size + 3 ≤ k ∧ ¬ S' k := by
    rintro k (rfl | hk | rfl)
    · exact ⟨Nat.le_refl _, hs4⟩
    · have := hv k hk; exact ⟨by omega, this.2⟩
    · exact ⟨by omega, hs5⟩
  have hY2 : ∀ k, (k = w0.heap.size + 3 ∨ v.ownBlock = some k ∨ k = wr.heap.size) → ¬ Mv g br rb ob k ∧ k ≠ bc ∧ k ≠ bi ∧ ¬ S' k ∧ ¬ Lib0 k := fun k hk => by
    obtain ⟨h1, h2⟩ := hY k hk
    exact ⟨fun e => by have := l1 _ e; omega, by omega, by omega, h2, fun e => by have := l4 _ e; omega⟩
  refine ⟨v'.ownBlock, foot g bc bi br rb ob w0.heap.size (w0.heap.size + 3) S' v'.ownBlock, ⟨?_, ?_, ?_⟩, S', v', rs ++ [(n, x)], rfl, ?_⟩
  · refine (t1.mono fun k _ hk => .inl (.inl hk)).trans' t2 ?_
    rintro k hk (rfl | hv | rfl)
    · exact .inl (.inr rfl)
    · exact .inr (h.own ▸ hv)
    · omega
  · rcases ho with e | ⟨t, e, ht⟩
    · exact .inl (e.trans h.own)
    · exact .inr ⟨t, e, Nat.le_trans t1.size ht⟩
  · rintro k (hk | hk | hk | hk | hk | hk | hk | hk)
    · exact .inl (.inl hk)
    · exact .inl (.inr (.inl hk))
    · exact .inl (.inr (.inr (.inl hk)))
    · exact .inl (.inr (.inr (.inr (.inl hk))))
    · rcases hs2 k hk with e | e
      · exact .inl (.inr (.inr (.inr (.inr (.inl e)))))
      · exact .inr (Nat.le_of_lt e)
    · exact .inl (.inr (.inr (.inr (.inr (.inr (.inl hk))))))
    · exact .inl (.inr (.inr (.inr (.inr (.inr (.inr (.inl hk)))))))
    · rcases ho with e | ⟨t, e, ht⟩
      · exact .inl (.inr (.inr (.inr (.inr (.inr (.inr (.inr ((h.own.symm.trans (e.symm.trans hk))))))))))
      · rw [e] at hk; cases hk; exact .inr (Nat.le_trans t1.size ht)
  · have k1 := (t1.block _ (Array.getElem?_eq_some_iff.1 h.p2).1 fun e => by have := l1 _ e; omega).trans h.p2
    refine ⟨(t2.block _ (Array.getElem?_eq_some_iff.1 k1).1 fun hk => by have := (hY _ hk).1; omega).trans k1, hr, by rw [List.length_append, h.len]; rfl, rfl, fun t ht => ?_, fun k hk => hs1 k (h.sub k hk), fun k hk => ?_, fun k hk => Nat.lt_of_lt_of_le (hs3 k hk) t2.size, fun r hr => ?_, hg.tch t2 fun k hk => (hY2 k hk).2.2.2.2, ?_⟩
    · rcases ho with e | ⟨t', e, ht'⟩
      · exact hv t (e ▸ ht)
      · rw [e] at ht; cases ht
        refine ⟨by have := t1.size; omega, fun e => by have := hs3 _ e; omega⟩
    · rcases hs2 k hk with e | e
      · exact h.sup k e
      · exact .inr (by omega)
    · rcases List.mem_append.1 hr with hr | hr
      · exact h.sz r hr
      · rw [List.mem_singleton.1 hr]; exact ⟨hzn, hzx⟩
    · cases q' with
      | ok p =>
        obtain ⟨st, rs'⟩ := p
        exact ⟨hst.1, hst.2.tch t2 hY2⟩
      | error y =>
        obtain ⟨h1, h2, f, h3, h4⟩ := hst
        exact ⟨h1, h2.tch t2 fun k hk => (hY2 k hk).1, f, h3.tch t2 fun hk => (hY2 _ hk).2.1 rfl, h4⟩
theorem egc77 : ∀ (args : Array Value) (w : World), (callFunc 63 args).run Tryz.prog w = .ok (.enter 63 args) w := enters_of Tryz.func63 (by kernel_rfl) rfl
theorem asks_compute {get : E.St → E.Nm → Except Int (E.V × E.St)} {st0 : E.St} (hget : GetIs g bc bi br rb ob C e opn get) (h0 : Live w0 S0 g bc bi br rb ob C { e with st := st0 } opn) :
    Asks 63 #[.pointer (some ⟨w0.heap.size, 0, none⟩), .pointer (some ⟨w0.heap.size + 3, 0, none⟩)] get (fun k => Mv g br rb ob k ∨ k = w0.heap.size + 3) (QC w0 S0 g bc bi br rb ob C e opn) where
  enters := egc77
  keep := by
    rintro w w' q m u F Y ⟨S, v, rs, rfl, h⟩ ht hY
    exact ⟨S, v, rs, rfl, h.keep ht hY⟩
  lt := by
    rintro w q m u F ⟨S, v, rs, rfl, h⟩ k hk
    obtain ⟨l1, l2, l3, l4, l5⟩ := h0.low
    have hs := (Array.getElem?_eq_some_iff.1 h.rds.heap).1
    rcases hk with hk | rfl | rfl | hk | hk | rfl | rfl | hk
    · have := l1 k hk; omega
    · omega
    · omega
    · have := l4 k hk; omega
    · exact h.lt k hk
    · omega
    · exact hs
    · exact own_at_lt h.rds.own (h.own.trans hk)
  inX := by
    rintro w q m u F ⟨S, v, rs, rfl, h⟩ k hk
    rcases hk with hk | rfl
    · exact .inl hk
    · simp [foot]
  inU := by
    rintro w q m F t ⟨S, v, rs, rfl, h⟩
    simp [foot]
  gl := by
    rintro w q m u F ⟨S, v, rs, rfl, h⟩
    exact h.gl
  ask := by
    rintro w q m u F n ⟨S, v, rs, rfl, h⟩ hm hn
    obtain ⟨l1, l2, l3, l4, l5⟩ := h0.low
    have hlen : rs.length ≤ 100 := by rw [h.len]; omega
    have hb5 : ¬ Mv g br rb ob (w0.heap.size + 3) := fun e => by have := l1 _ e; omega
    have hown : ∀ t, v.ownBlock = some t → ¬ Mv g br rb ob t := fun t ht e => by
      have h1 := l1 _ e
      have h2 := (h.hi t (h.own ▸ ht)).1
      omega
    have hsz : w0.heap.size + 4 ≤ w.heap.size := (Array.getElem?_eq_some_iff.1 h.rds.heap).1
    have hX : ∀ k, Mv g br rb ob k → k < w.heap.size := fun k hk => by have := l1 k hk; omega
    have hp : w.cell? ⟨w0.heap.size, 0, none⟩ = some (.pointer (some ⟨rb, 0, none⟩)) := by rw [new_off h.p2]; rfl
    cases q with
    | ok p =>
      obtain ⟨st, rs'⟩ := p
      obtain ⟨rfl, hL⟩ := h.st
      refine (read_any (X := Mv g br rb ob) (Φ := GetQ g bc bi br rb ob C e opn S w.heap.size (get st n)) hp h.rds hlen hX hb5 hown fun W hW hW2 => (hget W S st (hL.ext hW) n hn).mono ?_).mono ?_
      · rintro ed w' ⟨t1, hr⟩
        cases hg : get st n with
        | error y => rw [hg] at hr; exact ⟨none, hr.1, t1, rfl, hr.2⟩
        | ok r =>
          obtain ⟨v1, st'⟩ := r
          rw [hg] at hr
          obtain ⟨h1, h2, S', h3, h4, h5⟩ := hr
          refine ⟨v1, h1, t1, rfl, h2, S', h3, h4, fun k hk => ?_⟩
          rcases h5 k hk with e | e
          · exact .inl e
          · exact .inr (by omega)
      · rintro ed w2 ⟨x, w1, v', rfl, t1, hΦ, t2, hr, ho⟩
        cases hg : get st n with
        | error y =>
          rw [hg] at hΦ
          obtain ⟨rfl, h1, h2⟩ := hΦ
          rw [askQ_err hg]
          obtain ⟨f, hf1, hf2⟩ := hL.eng.cells
          refine ⟨rfl, Nat.zero_le _, ask_done h0 h t1 t2 hr ho hn (by decide) (fun k hk => hk) (fun k hk => .inl hk) (fun k hk => Nat.lt_of_lt_of_le (h.lt k hk) t1.size) (hL.gl.tch t1 hL.off) ⟨h1, h2, f, hf1.tch t1 ?_, hf2.val⟩⟩
          obtain ⟨a1, a2, a3, a4, a5, a6⟩ := hL.eng.ne
          obtain ⟨c1, c2, c3, c4, c5, c6, c7, _⟩ := hL.apart
          rintro (e | e | e | e)
          · exact a1 e.symm
          · exact a5 e
          · exact c2 e.symm
          · exact c7 e.symm
        | ok r =>
          obtain ⟨v1, st'⟩ := r
          rw [hg] at hΦ
          obtain ⟨rfl, h1, S', h2, h3, h4⟩ := hΦ
          rw [askQ_ok hg]
          exact ⟨rfl, h1, ask_done h0 h t1 t2 hr ho hn (Nat.le_trans h1 (by decide)) h3 h4 h2.eng.lt h2.gl ⟨rfl, h2⟩⟩
    | error y =>
      obtain ⟨h1, h2, f, h3, h4⟩ := h.st
      refine (read_any (X := Mv g br rb ob) (Φ := fun x w' => x = none ∧ Gl w' ∧ Dead w' g bc bi br rb ob e.rev y ∧ MapF Tryz.prog w' bc f) hp h.rds hlen hX hb5 hown fun W hW hW2 => (get_dead (h2.ext hW) h1 (h3.ext hW) h4 hn).mono ?_).mono ?_
      · rintro ed w' ⟨rfl, he⟩
        exact ⟨none, rfl, he.tch _, rfl, h.gl.ext (hW.trans he), h2.ext (hW.trans he), h3.ext (hW.trans he)⟩
      · rintro ed w2 ⟨x, w1, v', rfl, t1, ⟨rfl, g1, g2, g3⟩, t2, hr, ho⟩
        exact ⟨rfl, Nat.zero_le _, ask_done h0 h t1 t2 hr ho hn (by decide) (fun k hk => hk) (fun k hk => .inl hk) (fun k hk => Nat.lt_of_lt_of_le (h.lt k hk) t1.size) g1 ⟨h1, g2, f, g3, h4⟩⟩
end
end Go.Proofs.YtkeaoejgboefbaaGreatDoor

/- run.compute: what it needs. -/
namespace Go.Proofs.YtkeaoejgboefbaaGreatDoor
open Go.RowKit Go.Maps

theorem flat_reads {w : World} {S : Nat → Prop} : ∀ {rs : List (E.Nm × E.V)}, (∀ r ∈ rs, r.1.size ≤ 9223372036854775807 ∧ (r.2.getD ⟨#[]⟩).size ≤ 9223372036854775807) → Flat readR w S rs (flatR rs)
  | [], _ => rfl
  | r :: rs, h => by
    obtain ⟨h1, h2⟩ := h r List.mem_cons_self
    exact ⟨.string r.1 :: foundL r.2, flatR rs, rfl, ⟨[.string r.1], foundL r.2, rfl, ⟨rfl, h1⟩, rfl, h2⟩, flat_reads fun x hx => h x (List.mem_cons_of_mem _ hx)⟩
theorem reads_slice {w : World} {base n : Nat} {v : Value} {rs : List (E.Nm × E.V)} (ho : OwnAt w base 98 3 v n (flatR rs)) (hn : n = rs.length) (hz : ∀ r ∈ rs, r.1.size ≤ 9223372036854775807 ∧ (r.2.getD ⟨#[]⟩).size ≤ 9223372036854775807) :
    ∃ A k, v = .slice A rs.length k ∧ SliceAt readR w (fun b => v.ownBlock = some b) A k rs := by
  obtain ⟨h1, ⟨rfl, h2⟩ | ⟨g, off, cap, cur, rfl, hb, hh, hc1, hc2, hc3, hx⟩⟩ := ho
  · have : rs = [] := List.eq_nil_of_length_eq_zero (by omega)
    subst this
    exact ⟨none, 0, rfl, SliceAt.nil _ _ _ _ _ (by decide)⟩
  · refine ⟨some ⟨g, off, none⟩, cap, by rw [hn], by omega, hc2, fun _ => ⟨g, off, rfl, by simp [Value.ownBlock], (flat_reads hz).row fun j u hj => ?_⟩⟩
    have hj' : j < n * 3 := by
      rcases Nat.lt_or_ge j (flatR rs).length with h | h
      · omega
      · rw [List.getElem?_eq_none h] at hj; cases hj
    rw [cell_of_row w g _ cur 98 (0, 0) hh, hx j hj', hj]
/-- A run that is alive, while formulas are open: the plain invariant aside. -/
structure LiveO (w : World) (S : Nat → Prop) (g bc bi br rb ob : Nat) (e : E.En) (opn : List ByteArray) : Prop where
  eng : EngAt w S g bc bi br e
  run : RunRow w rb g ob 0
  opens : MapF Tryz.prog w ob (openF opn)
  apart : rb ≠ g ∧ rb ≠ bc ∧ rb ≠ bi ∧ rb ≠ br ∧ ¬ S rb ∧ ob ≠ g ∧ ob ≠ bc ∧ ob ≠ bi ∧ ob ≠ br ∧ ¬ S ob ∧ rb ≠ ob
  gl : Gl w
  off : Off (Mv g br rb ob)
theorem Live.toO {w : World} {S : Nat → Prop} {g bc bi br rb ob C : Nat} {e : E.En} {opn : List ByteArray} (h : Live w S g bc bi br rb ob C e opn) : LiveO w S g bc bi br rb ob e opn := ⟨h.eng, h.run, h.opens, h.apart, h.gl, h.off⟩
theorem LiveO.tch {w w' : World} {S Y : Nat → Prop} {g bc bi br rb ob : Nat} {e : E.En} {opn : List ByteArray} (h : LiveO w S g bc bi br rb ob e opn) (ht : Tch Y w w') (hY : ∀ k, Y k → ¬ Mv g br rb ob k ∧ k ≠ bc ∧ k ≠ bi ∧ ¬ S k ∧ ¬ Lib0 k) : LiveO w' S g bc bi br rb ob e opn where
  eng := h.eng.tch ht fun k hk => by
    obtain ⟨h1, h2, h3, h4, _⟩ := hY k hk
    exact ⟨fun e => h1 (.inl e), h2, h3, fun e => h1 (.inr (.inl e)), h4⟩
  run := h.run.tch ht fun hk => (hY _ hk).1 (.inr (.inr (.inl rfl)))
  opens := h.opens.tch ht fun hk => (hY _ hk).1 (.inr (.inr (.inr rfl)))
  apart := h.apart
  gl := h.gl.tch ht fun k hk => (hY k hk).2.2.2.2
  off := h.off
/-- What compute answers: as get, while the formula itself is open still. -/
def RetO (w : World) (S : Nat → Prop) (g bc bi br rb ob : Nat) (e : E.En) (opn : List ByteArray) (r : Except Int (E.V × E.St)) (ed : Ending) (w' : World) : Prop := Tch (Mv g br rb ob) w w' ∧ match r with
  | .ok (v, st) => ed = .returned (foundV v) ∧ (v.getD ⟨#[]⟩).size ≤ 65536 ∧ ∃ S', LiveO w' S' g bc bi br rb ob { e with st := st } opn ∧ (∀ k, S k → S' k) ∧ ∀ k, S' k → S k ∨ w.heap.size ≤ k
  | .error x => ed = .returned (foundV none) ∧ x ≠ 0 ∧ Dead w' g bc bi br rb ob e.rev x
/-- A memo has been put. -/
theorem EngAt.memoed {w w3 : World} {S S2 : Nat → Prop} {g bc bi br : Nat} {e : E.En} (h : EngAt w S g bc bi br e) {f : FnV} (hms : MemosIn w S e.st.ms f) {n : ByteArray} {m : E.Memo} {A : Option Addr} {k cnt : Nat} (ht : Tch (fun k => k = g ∨ k = br) w w3) (hrow : Row w3 g bc bi br e.rev cnt)
    (hm : MapF Tryz.prog w3 br (putF f n (some (memoV m A k)))) (hs : SliceAt readR w3 S2 A k m.reads) (h1 : ∀ k, S k → S2 k) (h2 : ∀ k, S2 k → k < w3.heap.size) (h3 : ¬ S2 g ∧ ¬ S2 bc ∧ ¬ S2 bi ∧ ¬ S2 br) (z1 : (m.res.getD ⟨#[]⟩).size ≤ 65536) (z2 : m.reads.length ≤ 100) (z3 : m.at' < 4000000000000000000) :
    EngAt w3 S2 g bc bi br { e with st := ⟨E.put e.st.ms n m, cnt⟩ } := by
  obtain ⟨n1, n2, n3, n4, n5, n6⟩ := h.ne
  obtain ⟨o1, o2, o3, o4⟩ := h.out
  have hS : ∀ k, S k → k < w.heap.size ∧ ¬ (k = g ∨ k = br) := fun k hk => ⟨h.lt k hk, by rintro (rfl | rfl) <;> contradiction⟩
  refine ⟨hrow, h.ne, h3, h2, ?_, ?_, ?_⟩
  · obtain ⟨f, g1, g2⟩ := h.cells
    exact ⟨f, g1.tch ht (by rintro (e | e); exact n1 e.symm; exact n5 e), (g2.tch ht hS).sub h1⟩
  · exact h.inputs.tch ht (by rintro (e | e); exact n2 e.symm; exact n6 e)
  · refine ⟨_, hm, fun s => ?_⟩
    show match E.put e.st.ms n m s with | none => _ | some m => _
    unfold E.put putF
    by_cases hs' : s = n
    · rw [if_pos hs', if_pos hs']
      exact ⟨z1, z2, z3, A, k, rfl, hs⟩
    · rw [if_neg hs', if_neg hs']
      exact ((hms.tch ht hS).sub h1) s
/-- What came up to date are formulas, each once. -/
theorem inv_few {cs : List E.Cell} {vals : E.Nm → E.V} {rev : Nat} {prog : E.Cell → E.Pr} {S : E.St} {opn U : List E.Nm} (hI : E.Inv (E.findC cs) vals rev prog S opn U) : U.length ≤ cs.length := by
  have key : ∀ (l m : List ByteArray), l.Nodup → (∀ x ∈ l, x ∈ m) → l.length ≤ m.length := by
    intro l
    induction l with
    | nil => intro m _ _; exact Nat.zero_le _
    | cons x l ih =>
      intro m hn hm
      obtain ⟨h1, h2⟩ := List.nodup_cons.1 hn
      obtain ⟨s, t, rfl⟩ := List.append_of_mem (hm x List.mem_cons_self)
      have := ih (s ++ t) h2 fun y hy => by
        have := hm y (List.mem_cons_of_mem _ hy)
        rcases List.mem_append.1 this with h | h
        · exact List.mem_append_left _ h
        · rcases List.mem_cons.1 h with e | h
          · exact absurd (e ▸ hy) h1
          · exact List.mem_append_right _ h
      simp only [List.length_append, List.length_cons] at this ⊢
      omega
  have h1 := key U (cs.map (·.1)) hI.nodup fun n hn => by
    obtain ⟨m, h1, _⟩ := (hI.mem n).1 hn
    obtain ⟨c, hc, _⟩ := hI.form n m h1
    obtain ⟨h2, h3⟩ := E.findC_some hc
    exact List.mem_map.2 ⟨c, h2, h3⟩
  rwa [List.length_map] at h1
/-- What memos there are. -/
theorem memo_dom {w : World} {S : Nat → Prop} {ms : E.Ms} {f : FnV} {cs : List E.Cell} {vals : E.Nm → E.V} {rev cnt : Nat} {prog : E.Cell → E.Pr} {opn U : List E.Nm} (h : MemosIn w S ms f) (hI : E.Inv (E.findC cs) vals rev prog ⟨ms, cnt⟩ opn U) : ∀ x, f x ≠ none → x ∈ cs.map (·.1) := by
  intro x hx
  have := h x
  cases hm : ms x with
  | none => rw [hm] at this; exact absurd this hx
  | some m =>
    obtain ⟨c, hc, _⟩ := hI.form x m hm
    obtain ⟨h2, h3⟩ := E.findC_some hc
    exact List.mem_map.2 ⟨c, h2, h3⟩
end Go.Proofs.YtkeaoejgboefbaaGreatDoor
