/- The texts Lex TkP Shelf TkA TkB TkC TkD TkE of the seat, joined. -/
import Derived.Test.YtfbhchpbflaphaaGreatDoorS1
import Derived.IntWalk
import Derived.Laws.RangeAny
import Derived.Laws.RangeString
import Derived.Shelf.GgClosure.StringsIndexFunc
import Derived.Shelf.Small.Bits
import Derived.Shelf.Small.Strs
import Derived.Shelf.Utf8.RuneCount
import Derived.Shelf.Strconv.Itoa0
import Derived.Shelf.Strings.Search1
import Derived.Shelf.Strings.Search2
import Derived.Shelf.Strings.Search3
import Derived.Shelf.Strings.Count
import Derived.Shelf.LaysM
import Derived.Shelf.Strings.Shaped
import Derived.Shelf.Sort.Plain
import Derived.Ground.GgwProg
import Derived.Shelf.GgClosure.StringsIndexFuncTop
import Derived.Shelf.GgClosure.StringsRunes
import Derived.Shelf.Strings.Split
import Derived.Shelf.Strings.SplitShaped
import Derived.Shelf.Unicode.Decode
import Derived.Shelf.Strings.RuneCount
import Derived.Shelf.Strings.Explode
import Derived.Shelf.Unicode.DecodeSlow
import Derived.Shelf.Unicode.DecodeAny
import Derived.Shelf.Strings.FuncGrows
import Derived.Shelf.Slices.Turned
import Derived.Shelf.Slices.Equal
import Derived.Shelf.Slices.CompactS
import Derived.Shelf.Slices.Cells
import Derived.Shelf.Slices.In.SortNone
import Derived.Shelf.Slices.Empties2
import Derived.Test.YtfbhchpbflaphaaGreatDoorChecked
import Derived.WalkMore
import Derived.Deep.LoopGhost
namespace Go.Proofs.YtfbhchpbflaphaaGreatDoor
open Go.RowKit
def NoQ : Exit -> Act -> World -> Prop := fun _ _ _ => False
theorem noQ_out : ¬ LetsOut NoQ := fun ⟨_, _, h⟩ => h
def pureUpon (w : World) (v : Value) : Result Next -> Prop
 | .ok (.value u) w' => w' = w /\ u = v
 | .ok .skip w' => w' = w /\ v = undef
 | _ => False
def pureAt (P : Program) (o : Oper) (a : Act) (w : World) (v : Value) : Prop := pureUpon w v ((execOp a.eval o).run P w)
theorem pureAt_det {P : Program} {o : Oper} {a : Act} {w : World} {v u : Value} (h : pureAt P o a w v) (k : pureAt P o a w u) : v = u := by
 unfold pureAt at h k
 generalize (execOp a.eval o).run P w = r at h k
 cases r with
 | ok n w' => cases n <;> simp only [pureUpon] at h k <;> first | exact h.2.symm.trans k.2 | exact h.2.trans k.2.symm
 | halt _ _ => simp only [pureUpon] at h
theorem pureAt_same {P : Program} {o : Oper} {a a' : Act} {w : World} {v : Value} (he : execOp a'.eval o = execOp a.eval o) (h : pureAt P o a w v) : pureAt P o a' w v := by
 unfold pureAt at *; rw [he]; exact h
def plainOp (o : Oper) : Bool :=
 match o.op with
 | .call c => match c.callee with
  | .builtin .len | .builtin .cap | .builtin .min | .builtin .max => true
  | _ => false
 | .move _ | .assign _ | .pick _ _ _ | .build _ _ | .load _ _ | .waits _ | .binOp _ _ _ _ _ | .unOp _ _ _ | .convert _ _ _ | .makeInterface _ _ | .makeFunc _ _ _ | .slice _ _ _ _ _ | .fieldAddr _ _ _ | .field _ _ _
 | .indexAddr _ _ _ | .index _ _ _ | .lookup _ _ _ _ | .extract _ _ | .nilCheck _ | .ready _ => true
 | _ => false
theorem run_v {P : Program} {w : World} (s : Sem Value) (f : FuncId) (args : Array Value) (w' : World) : (do pure (Next.value (<- s)) : Sem Next).run P w ≠ .ok (.enter f args) w' := by
 simp only [Sem.run_bind]
 cases s.run P w <;> simp [Result.andThen]
theorem andThen_v {r : Result Value} (f : FuncId) (args : Array Value) (w' : World) : (r.andThen fun a w' => Result.ok (Next.value a) w') ≠ .ok (.enter f args) w' := by
 cases r <;> simp [Result.andThen]
theorem run_u {P : Program} {w : World} (s : Sem Unit) (f : FuncId) (args : Array Value) (w' : World) : (do s; pure Next.skip : Sem Next).run P w ≠ .ok (.enter f args) w' := by
 simp only [Sem.run_bind]
 cases s.run P w <;> simp [Result.andThen]
section
variable {P : Program} {ops : Array Oper} {md : Region.Mode} {C : World -> Prop} {E : List Nat}
def xOp (P : Program) (ops : Array Oper) (C : World -> Prop) (E : List Nat) (i : Nat) (K : Act -> World -> Prop) (a : Act) (w : World) : Prop :=
 match ops[i]? with
 | none => K a w
 | some o =>
  if Region.wanted o (yielded ops a.tmps) = true then
   (if i ∈ E then o.wp P a w (fun a' w' => C w' /\ K a' w') NoQ else ∃ v, (∀ w', C w' -> pureAt P o a w' v) /\ K (a.put o.dst v) w)
  else K (a.put o.dst undef) w
def wpAnyX (P : Program) (md : Region.Mode) (ops : Array Oper) (C : World -> Prop) (E : List Nat) (R : Act -> World -> Prop) : Nat -> Array Bool -> Act -> World -> Prop
 | 0, listed, a, w => Region.ready md ops listed = [] /\ R a w
 | fuel + 1, listed, a, w =>
  (Region.ready md ops listed = [] -> R a w) /\ ∀ i ∈ Region.ready md ops listed, xOp P ops C E i (wpAnyX P md ops C E R fuel (listed.setIfInBounds i true)) a w
theorem xOp_mono {i : Nat} {K K' : Act -> World -> Prop} {a : Act} {w : World} (hC : C w) (h : ∀ a w, C w -> K a w -> K' a w) (hh : xOp P ops C E i K a w) : xOp P ops C E i K' a w := by
 unfold xOp at *
 split
 ·rename_i ho; simp only [ho] at hh; exact h _ _ hC hh
 ·rename_i o ho
  simp only [ho] at hh
  split
  ·rename_i hw
   simp only [hw, if_true] at hh
   split
   ·rename_i hE
    simp only [hE, if_true] at hh
    exact Oper.wp_mono (fun a w ⟨h1, h2⟩ => ⟨h1, h _ _ h1 h2⟩) hh
   ·rename_i hE
    simp only [hE, if_false] at hh
    obtain ⟨v, h1, h2⟩ := hh
    exact ⟨v, h1, h _ _ hC h2⟩
  ·rename_i hw
   simp only [hw] at hh
   exact h _ _ hC hh
theorem wp_exits {o : Oper} {a : Act} {w : World} {K : Act -> World -> Prop} {Q : Exit -> Act -> World -> Prop} (h : o.wp P a w K NoQ) : o.wp P a w K Q := by
 unfold Oper.wp at *
 generalize (execOp a.eval o).run P w = r at *
 cases r with
 | ok n w' =>
  cases n <;> simp only [Oper.upon] at h ⊢ <;>
   first
    | exact h
    | exact Calls.mono h (fun e w'' he => by cases e <;> first | exact he | exact (he : False).elim | exact absurd he noQ_out)
 | halt x w' => cases x <;> simp only [Oper.upon] at h ⊢ <;> exact (h : False).elim
theorem wp_put {o : Oper} {a : Act} {w : World} {K : Act -> World -> Prop} {d : Option Tmp} {v : Value} (he : execOp (a.put d v).eval o = execOp a.eval o) (hne : ∀ x, d = some x -> o.dst ≠ some x) :
 o.wp P (a.put d v) w K NoQ ↔ o.wp P a w (fun a1 w1 => K (a1.put d v) w1) NoQ := by
 have hc : ∀ (b : Act) (u : Value), (b.put d v).put o.dst u = (b.put o.dst u).put d v := fun b u => Act.put_comm b v u hne
 have hd : ∀ x : Deferred, ({ (a.put d v) with defers := x :: (a.put d v).defers } : Act) = ({ a with defers := x :: a.defers } : Act).put d v := fun x => by cases d <;> rfl
 unfold Oper.wp
 rw [he]
 generalize (execOp a.eval o).run P w = r
 cases r with
 | ok n w' =>
  cases n <;> simp only [Oper.upon, hc, hd]
  ·constructor <;> intro h <;> exact Calls.mono h (fun e w'' he => by cases e <;> first | exact he | exact (he : False).elim)
 | halt x w' => cases x <;> simp only [Oper.upon] <;> exact Iff.rfl
theorem wp_some {o : Oper} {a : Act} {w : World} {K : Act -> World -> Prop} (h : o.wp P a w K NoQ) : ∃ a1 w1 u, K a1 w1 /\ a1.tmps = (a.put o.dst u).tmps := by
 unfold Oper.wp at h
 generalize (execOp a.eval o).run P w = r at h
 cases r with
 | ok n w' =>
  cases n <;> simp only [Oper.upon] at h
  case value v => exact ⟨_, _, v, h, rfl⟩
  case skip => exact ⟨_, _, undef, h, rfl⟩
  case enter f args =>
   obtain ⟨e, w1, fr, hR, _⟩ := h []
   cases e with
   | returned v => exact ⟨_, _, v, hR, rfl⟩
   | panicked c => exact (hR : False).elim
   | outgrown => exact absurd hR noQ_out
  case row row args =>
   obtain ⟨v, w1, hR, _⟩ := h default []
   exact ⟨_, _, v, hR, rfl⟩
  case defer x =>
   refine ⟨_, _, undef, h, ?_⟩
   cases o.dst <;> rfl
 | halt x w' => cases x <;> simp only [Oper.upon] at h <;> exact (h : False).elim
theorem eval_tmps {a b : Act} (h : a.tmps = b.tmps) : a.eval = b.eval := by
 funext x
 cases x <;> simp [Act.eval, h]
theorem xOp_some {i : Nat} {K : Act -> World -> Prop} {a : Act} {w : World} (h : xOp P ops C E i K a w) : ∃ a' w', K a' w' := by
 unfold xOp at h
 split at h
 ·exact ⟨_, _, h⟩
 ·split at h
  ·split at h
   ·obtain ⟨a1, w1, _, h1, _⟩ := wp_some h
    exact ⟨_, _, h1.2⟩
   ·obtain ⟨v, _, h1⟩ := h
    exact ⟨_, _, h1⟩
  ·exact ⟨_, _, h⟩
theorem xOp_swap {i j : Nat} {oi oj : Oper} {K : Act -> World -> Prop} {a : Act} {w : World} (hi : ops[i]? = some oi) (hj : ops[j]? = some oj) (hap : oi.apart ops oj = true)
 (hsi : ∀ cs b, oi.op ≠ .select cs b) (hsj : ∀ cs b, oj.op ≠ .select cs b) (hE : ¬ (i ∈ E /\ j ∈ E)) (hC : C w)
 (h : xOp P ops C E i (fun a1 w1 => xOp P ops C E j K a1 w1) a w) : xOp P ops C E j (fun a1 w1 => xOp P ops C E i K a1 w1) a w := by
 obtain ⟨h1, h2, h3⟩ := Oper.apart_spec hap
 have h2' : ∀ d, oj.dst = some d -> oi.dst ≠ some d := fun d hd hd' => h2 d hd' hd
 have ej : ∀ (b : Act) v, execOp (b.put oi.dst v).eval oj = execOp b.eval oj := fun b v => execOp_put oj hsj b oi.dst v h1
 have wj : ∀ (b : Act) v, Region.wanted oj (yielded ops (b.put oi.dst v).tmps) = Region.wanted oj (yielded ops b.tmps) := fun b v => wanted_put oj b oi.dst v h1
 have ei : ∀ (b : Act) v, execOp (b.put oj.dst v).eval oi = execOp b.eval oi := fun b v => execOp_put oi hsi b oj.dst v h3
 have wi : ∀ (b : Act) v, Region.wanted oi (yielded ops (b.put oj.dst v).tmps) = Region.wanted oi (yielded ops b.tmps) := fun b v => wanted_put oi b oj.dst v h3
 have pc : ∀ (b : Act) v u, (b.put oi.dst v).put oj.dst u = (b.put oj.dst u).put oi.dst v := fun b v u => Act.put_comm b v u h2
 unfold xOp at h ⊢
 simp only [hi, hj] at h ⊢
 by_cases hwi : Region.wanted oi (yielded ops a.tmps) = true
 ·simp only [hwi, if_true] at h
  by_cases hiE : i ∈ E
  ·simp only [hiE, if_true] at h
   have hjE : j ∉ E := fun hj => hE ⟨hiE, hj⟩
   simp only [hjE, if_false] at h ⊢
   obtain ⟨a1, w1, u, ⟨_, k1⟩, ht⟩ := wp_some h
   have wj1 : Region.wanted oj (yielded ops a1.tmps) = Region.wanted oj (yielded ops a.tmps) := by rw [ht]; exact wj a u
   have ej1 : execOp a1.eval oj = execOp a.eval oj := by rw [eval_tmps ht]; exact ej a u
   by_cases hwj : Region.wanted oj (yielded ops a.tmps) = true
   ·simp only [hwj, if_true]
    rw [wj1, if_pos hwj] at k1
    obtain ⟨v, hv, _⟩ := k1
    have hv' : ∀ w', C w' -> pureAt P oj a w' v := fun w' hw' => pureAt_same ej1.symm (hv w' hw')
    refine ⟨v, hv', ?_⟩
    simp only [wi, hwi, hiE, if_true]
    refine (wp_put (ei a v) h2').2 ?_
    have h' := h
    unfold Oper.wp at h' ⊢
    generalize (execOp a.eval oi).run P w = r at h' ⊢
    have fin : ∀ (a2 : Act) (w2 : World) (u2 : Value), a2.tmps = (a.put oi.dst u2).tmps ->
     (C w2 /\ (if Region.wanted oj (yielded ops a2.tmps) = true then ∃ v, (∀ w', C w' -> pureAt P oj a2 w' v) /\ K (a2.put oj.dst v) w2 else K (a2.put oj.dst undef) w2)) -> C w2 /\ K (a2.put oj.dst v) w2 := by
     rintro a2 w2 u2 ht2 ⟨g1, g2⟩
     rw [show Region.wanted oj (yielded ops a2.tmps) = true by rw [ht2, wj a u2]; exact hwj] at g2
     simp only [if_true] at g2
     obtain ⟨v2, hv2, g3⟩ := g2
     have e2 : execOp a2.eval oj = execOp a.eval oj := by rw [eval_tmps ht2]; exact ej a u2
     have : v2 = v := pureAt_det (pureAt_same e2.symm (hv2 w hC)) (hv' w hC)
     subst this
     exact ⟨g1, g3⟩
    cases r with
    | ok n w' =>
     cases n <;> simp only [Oper.upon] at h' ⊢
     case value x => exact fin _ _ x rfl h'
     case skip => exact fin _ _ undef rfl h'
     case enter f args => exact Calls.mono h' (fun e w'' he => by
      cases e with
      | returned x => exact fin _ _ x rfl he
      | panicked c => exact (he : False).elim
      | outgrown => exact absurd he noQ_out)
     case row row args => exact Rows.mono h' (fun x w'' he => fin _ _ x rfl he)
     case defer x =>
      refine fin _ _ undef ?_ h'
      cases oi.dst <;> rfl
    | halt x w' => cases x <;> simp only [Oper.upon] at h' ⊢ <;> exact (h' : False).elim
   ·simp only [hwj]
    simp only [wi, hwi, hiE, if_true]
    refine (wp_put (ei a undef) h2').2 ?_
    have h' := h
    unfold Oper.wp at h' ⊢
    generalize (execOp a.eval oi).run P w = r at h' ⊢
    have fin : ∀ (a2 : Act) (w2 : World) (u2 : Value), a2.tmps = (a.put oi.dst u2).tmps ->
     (C w2 /\ (if Region.wanted oj (yielded ops a2.tmps) = true then ∃ v, (∀ w', C w' -> pureAt P oj a2 w' v) /\ K (a2.put oj.dst v) w2 else K (a2.put oj.dst undef) w2)) -> C w2 /\ K (a2.put oj.dst undef) w2 := by
     rintro a2 w2 u2 ht2 ⟨g1, g2⟩
     rw [if_neg (by rw [ht2, wj a u2]; exact hwj)] at g2
     exact ⟨g1, g2⟩
    cases r with
    | ok n w' =>
     cases n <;> simp only [Oper.upon] at h' ⊢
     case value x => exact fin _ _ x rfl h'
     case skip => exact fin _ _ undef rfl h'
     case enter f args => exact Calls.mono h' (fun e w'' he => by
      cases e with
      | returned x => exact fin _ _ x rfl he
      | panicked c => exact (he : False).elim
      | outgrown => exact absurd he noQ_out)
     case row row args => exact Rows.mono h' (fun x w'' he => fin _ _ x rfl he)
     case defer x =>
      refine fin _ _ undef ?_ h'
      cases oi.dst <;> rfl
    | halt x w' => cases x <;> simp only [Oper.upon] at h' ⊢ <;> exact (h' : False).elim
  ·simp only [hiE, if_false] at h
   obtain ⟨v, hv, h⟩ := h
   rw [wj a v] at h
   have hi' : ∀ (b : Act) u w1, b.tmps = (a.put oj.dst u).tmps -> K (b.put oi.dst v) w1 ->
    (if Region.wanted oi (yielded ops b.tmps) = true then (if i ∈ E then oi.wp P b w1 (fun a' w' => C w' /\ K a' w') NoQ else ∃ v, (∀ w', C w' -> pureAt P oi b w' v) /\ K (b.put oi.dst v) w1) else K (b.put oi.dst undef) w1) := by
    intro b u w1 hb hk
    rw [if_pos (by rw [hb, wi a u]; exact hwi), if_neg hiE]
    exact ⟨v, fun w' hw' => pureAt_same (by rw [eval_tmps hb]; exact ei a u) (hv w' hw'), hk⟩
   by_cases hwj : Region.wanted oj (yielded ops a.tmps) = true
   ·simp only [hwj, if_true] at h ⊢
    by_cases hjE : j ∈ E
    ·simp only [hjE, if_true] at h ⊢
     have h' := (wp_put (ej a v) h2).1 h
     unfold Oper.wp at h' ⊢
     generalize (execOp a.eval oj).run P w = r at h' ⊢
     cases r with
     | ok n w' =>
      cases n <;> simp only [Oper.upon] at h' ⊢
      case value x => exact ⟨h'.1, hi' _ x _ rfl h'.2⟩
      case skip => exact ⟨h'.1, hi' _ undef _ rfl h'.2⟩
      case enter f args => exact Calls.mono h' (fun e w'' he => by
       cases e with
       | returned x => exact ⟨he.1, hi' _ x _ rfl he.2⟩
       | panicked c => exact (he : False).elim
       | outgrown => exact absurd he noQ_out)
      case row row args => exact Rows.mono h' (fun x w'' he => ⟨he.1, hi' _ x _ rfl he.2⟩)
      case defer x =>
       refine ⟨h'.1, hi' _ undef _ ?_ h'.2⟩
       cases oj.dst <;> rfl
     | halt x w' => cases x <;> simp only [Oper.upon] at h' ⊢ <;> exact (h' : False).elim
    ·simp only [hjE, if_false] at h ⊢
     obtain ⟨u, hu, h⟩ := h
     refine ⟨u, fun w' hw' => pureAt_same (ej a v).symm (hu w' hw'), hi' _ u _ rfl ?_⟩
     rw [<- pc]; exact h
   ·simp only [hwj] at h ⊢
    exact hi' _ undef _ rfl (by rw [<- pc]; exact h)
 ·simp only [hwi] at h
  rw [wj a undef] at h
  have hi' : ∀ (b : Act) u w1, b.tmps = (a.put oj.dst u).tmps -> K (b.put oi.dst undef) w1 ->
   (if Region.wanted oi (yielded ops b.tmps) = true then (if i ∈ E then oi.wp P b w1 (fun a' w' => C w' /\ K a' w') NoQ else ∃ v, (∀ w', C w' -> pureAt P oi b w' v) /\ K (b.put oi.dst v) w1) else K (b.put oi.dst undef) w1) := by
   intro b u w1 hb hk
   rw [if_neg (by rw [hb, wi a u]; exact hwi)]
   exact hk
  by_cases hwj : Region.wanted oj (yielded ops a.tmps) = true
  ·simp only [hwj, if_true] at h ⊢
   by_cases hjE : j ∈ E
   ·simp only [hjE, if_true] at h ⊢
    have h' := (wp_put (ej a undef) h2).1 h
    unfold Oper.wp at h' ⊢
    generalize (execOp a.eval oj).run P w = r at h' ⊢
    cases r with
    | ok n w' =>
     cases n <;> simp only [Oper.upon] at h' ⊢
     case value x => exact ⟨h'.1, hi' _ x _ rfl h'.2⟩
     case skip => exact ⟨h'.1, hi' _ undef _ rfl h'.2⟩
     case enter f args => exact Calls.mono h' (fun e w'' he => by
      cases e with
      | returned x => exact ⟨he.1, hi' _ x _ rfl he.2⟩
      | panicked c => exact (he : False).elim
      | outgrown => exact absurd he noQ_out)
     case row row args => exact Rows.mono h' (fun x w'' he => ⟨he.1, hi' _ x _ rfl he.2⟩)
     case defer x =>
      refine ⟨h'.1, hi' _ undef _ ?_ h'.2⟩
      cases oj.dst <;> rfl
    | halt x w' => cases x <;> simp only [Oper.upon] at h' ⊢ <;> exact (h' : False).elim
   ·simp only [hjE, if_false] at h ⊢
    obtain ⟨u, hu, h⟩ := h
    refine ⟨u, fun w' hw' => pureAt_same (ej a undef).symm (hu w' hw'), hi' _ u _ rfl ?_⟩
    rw [<- pc]; exact h
  ·simp only [hwj] at h ⊢
   exact hi' _ undef _ rfl (by rw [<- pc]; exact h)
def Closed (md : Region.Mode) (ops : Array Oper) (listed : Array Bool) : Prop :=
 ∀ j oj, ops[j]? = some oj -> listed.getD j false = true -> ∀ e ∈ oj.after, Region.binds md e = true -> listed.getD e.on false = true
theorem Closed.set {i : Nat} {listed : Array Bool} (h : Closed md ops listed) (hi : i ∈ Region.ready md ops listed) : Closed md ops (listed.setIfInBounds i true) := by
 obtain ⟨_, oi, hoi, hall⟩ := mem_ready.1 hi
 intro j oj hj hl e he hb
 by_cases hij : i = j
 ·subst hij
  have : oj = oi := Option.some.inj (hj.symm.trans hoi)
  subst this
  exact getD_set_true (hall e he hb)
 ·rw [getD_set_ne false hij] at hl
  exact getD_set_true (h j oj hj hl e he hb)
def waiters (md : Region.Mode) (ops : Array Oper) (k : Nat) : Nat -> List Nat
 | 0 => []
 | n + 1 => if (match ops[n]? with | some o => o.after.any (fun e => Region.binds md e && (e.on == k || (waiters md ops k n).contains e.on)) | none => false) = true then n :: waiters md ops k n else waiters md ops k n
theorem waiters_spec {k : Nat} {listed : Array Bool} (hc : Closed md ops listed) : ∀ (n j : Nat) (oj : Oper), ops[j]? = some oj -> j ∈ waiters md ops k n ->
 (∀ e ∈ oj.after, Region.binds md e = true -> listed.getD e.on false = true) -> listed.getD k false = true
 | 0, _, _, _, h, _ => by simp [waiters] at h
 | n + 1, j, oj, hj, h, hd => by
  rw [waiters] at h
  by_cases hn : (match ops[n]? with | some o => o.after.any (fun e => Region.binds md e && (e.on == k || (waiters md ops k n).contains e.on)) | none => false) = true
  ·rw [if_pos hn] at h
   rcases List.mem_cons.1 h with rfl | h
   ·rw [hj] at hn
    obtain ⟨e, he, hb⟩ := Array.any_eq_true'.1 hn
    simp only [Bool.and_eq_true, Bool.or_eq_true, beq_iff_eq, List.contains_iff_mem] at hb
    have hl := hd e he hb.1
    rcases hb.2 with h1 | h1
    ·rw [<- h1]; exact hl
    ·have hlt : ∃ oe, ops[e.on]? = some oe := by
      have : ∀ n, e.on ∈ waiters md ops k n -> ∃ oe, ops[e.on]? = some oe := by
       intro n
       induction n with
       | zero => intro h; simp [waiters] at h
       | succ n ih =>
        intro h
        rw [waiters] at h
        by_cases hm : (match ops[n]? with | some o => o.after.any (fun e => Region.binds md e && (e.on == k || (waiters md ops k n).contains e.on)) | none => false) = true
        ·rw [if_pos hm] at h
         rcases List.mem_cons.1 h with h2 | h2
         ·rw [h2]
          cases hq : ops[n]? with
          | some o => exact ⟨o, rfl⟩
          | none => rw [hq] at hm; simp at hm
         ·exact ih h2
        ·rw [if_neg hm] at h
         exact ih h
      exact this _ h1
     obtain ⟨oe, hoe⟩ := hlt
     exact waiters_spec hc _ e.on oe hoe h1 (hc e.on oe hoe hl)
   ·exact waiters_spec hc n j oj hj h hd
  ·rw [if_neg hn] at h
   exact waiters_spec hc n j oj hj h hd
theorem X_first {R : Act -> World -> Prop} {i : Nat} {oi : Oper} (hi : ops[i]? = some oi) (hsel : ∀ (j : Nat) (o : Oper) cs b, ops[j]? = some o -> o.op ≠ .select cs b) :
 ∀ (fuel : Nat) (listed : Array Bool) (a : Act) (w : World), C w -> Closed md ops listed ->
  (∀ j oj, ops[j]? = some oj -> j ≠ i -> listed.getD j true = false -> (∀ e ∈ oj.after, Region.binds md e = true -> e.on ≠ i) -> oi.apart ops oj = true) ->
  (i ∈ E -> ∀ j, j ∈ E -> j ≠ i -> listed.getD j true = false -> j ∈ waiters md ops i ops.size) ->
  i ∈ Region.ready md ops listed -> xOp P ops C E i (wpAnyX P md ops C E R fuel (listed.setIfInBounds i true)) a w -> wpAnyX P md ops C E R (fuel + 1) listed a w := by
 intro fuel
 induction fuel with
 | zero =>
  intro listed a w _ _ _ _ hr H
  refine ⟨fun h => (by rw [h] at hr; cases hr), fun j hj => ?_⟩
  by_cases hji : j = i
  ·subst hji; exact H
  ·obtain ⟨a', w', h0⟩ := xOp_some H
   have := ready_mono hj hji
   rw [h0.1] at this
   cases this
 | succ fuel ih =>
  intro listed a w hC hcl hfree heff hr H
  refine ⟨fun h => (by rw [h] at hr; cases hr), fun j hj => ?_⟩
  by_cases hji : j = i
  ·subst hji; exact H
  ·obtain ⟨hjun, oj, hoj, hall⟩ := mem_ready.1 hj
   have hiun := (mem_ready.1 hr).1
   have hif : listed.getD i false = false := by
    rcases Nat.lt_or_ge i listed.size with h' | h'
    ·simp [h'] at hiun ⊢; exact hiun
    ·simp [Array.getElem?_eq_none h'] at hiun
   have hnot : ∀ e ∈ oj.after, Region.binds md e = true -> e.on ≠ i := fun e he hb heq => by
    have h1 := hall e he hb
    rw [heq, hif] at h1
    cases h1
   have hE : ¬ (i ∈ E /\ j ∈ E) := fun ⟨h1, h2⟩ => by
    have := waiters_spec hcl _ j oj hoj (heff h1 j h2 hji hjun) hall
    rw [hif] at this
    cases this
   have h1 : xOp P ops C E i (fun a1 w1 => xOp P ops C E j (wpAnyX P md ops C E R fuel ((listed.setIfInBounds i true).setIfInBounds j true)) a1 w1) a w :=
    xOp_mono hC (fun a1 w1 _ h => h.2 j (ready_mono hj hji)) H
   have h2 := xOp_swap hi hoj (hfree j oj hoj hji hjun hnot) (fun cs b => hsel i oi cs b hi) (fun cs b => hsel j oj cs b hoj) hE hC h1
   refine xOp_mono hC (fun a1 w1 hC1 h3 => ih (listed.setIfInBounds j true) a1 w1 hC1 (hcl.set hj) ?_ ?_ (ready_mono hr (Ne.symm hji)) ?_) h2
   ·intro k ok hk hki hun hno
    refine hfree k ok hk hki ?_ hno
    by_cases hjk : j = k
    ·subst hjk; exact hjun
    ·rw [getD_set_ne true hjk] at hun; exact hun
   ·intro h1 k hk hki hun
    refine heff h1 k hk hki ?_
    by_cases hjk : j = k
    ·subst hjk; exact hjun
    ·rw [getD_set_ne true hjk] at hun; exact hun
   ·rw [Array.setIfInBounds_comm _ _ hji]
    exact h3
def wpLex (P : Program) (ops : Array Oper) (C : World -> Prop) (E : List Nat) (R : Act -> World -> Prop) : Nat -> List Oper -> Act -> World -> Prop
 | _, [], a, w => R a w
 | k, o :: rest, a, w =>
  if Region.wanted o (yielded ops a.tmps) = true then
   (if k ∈ E then o.wp P a w (fun a' w' => C w' /\ wpLex P ops C E R (k + 1) rest a' w') NoQ else ∃ v, (∀ w', C w' -> pureAt P o a w' v) /\ wpLex P ops C E R (k + 1) rest (a.put o.dst v) w)
  else wpLex P ops C E R (k + 1) rest (a.put o.dst undef) w
def effOk (md : Region.Mode) (ops : Array Oper) (E : List Nat) : Bool := E.all fun k => E.all fun j => decide (j <= k) || (waiters md ops k ops.size).contains j
theorem wpAnyX_lex {R : Act -> World -> Prop} (hs : Region.noSelect ops = true) (hE : effOk md ops E = true) : ∀ (l : List Oper) (k : Nat) (listed : Array Bool) (a : Act) (w : World), C w -> Closed md ops listed ->
 (∀ j, j < k -> listed.getD j true = true) -> (∀ j, l[j]? = ops[k + j]?) -> Region.lexFrom md ops l.length k listed = true -> wpLex P ops C E R k l a w -> wpAnyX P md ops C E R l.length listed a w
 | [], _, _, _, _, _, _, _, _, hB, h => ⟨by simpa [Region.lexFrom] using hB, h⟩
 | o :: l, k, listed, a, w, hC, hcl, hlt, hl, hB, h => by
  have h0 : ops[k]? = some o := by simpa using (hl 0).symm
  simp only [List.length_cons, Region.lexFrom, Bool.and_eq_true] at hB
  obtain ⟨⟨hr, hf⟩, hB'⟩ := hB
  have hr' : k ∈ Region.ready md ops listed := by simpa using hr
  refine X_first h0 (Region.noSelect_spec hs) l.length listed a w hC hcl (Region.free_spec h0 hf) ?_ hr' ?_
  ·intro hk j hj hjk hun
   have h1 := List.all_eq_true.1 (List.all_eq_true.1 hE k hk) j hj
   simp only [Bool.or_eq_true, decide_eq_true_eq, List.contains_iff_mem] at h1
   rcases h1 with h1 | h1
   ·rw [hlt j (by omega)] at hun; cases hun
   ·exact h1
  ·have hx : xOp P ops C E k (wpLex P ops C E R (k + 1) l) a w := by unfold xOp; simp only [h0]; exact h
   refine xOp_mono hC (fun a1 w1 hC1 h1 => wpAnyX_lex hs hE l (k + 1) _ a1 w1 hC1 (hcl.set hr') ?_ (fun j => by have := hl (j + 1); simpa [Nat.add_assoc, Nat.add_comm 1 j] using this) hB' h1) hx
   intro j hj
   by_cases hjk : k = j
   ·subst hjk
    rcases Nat.lt_or_ge k listed.size with h' | h'
    ·simp [h']
    ·simp
   ·rw [getD_set_ne true hjk]; exact hlt j (by omega)
theorem wpAny_of_X {R : Act -> World -> Prop} {Q : Exit -> Act -> World -> Prop} (hQ : ∀ a w, R a w -> Q .normal a w) : ∀ (fuel : Nat) (listed : Array Bool) (a : Act) (w : World), C w ->
 wpAnyX P md ops C E R fuel listed a w -> wpAny P md ops Q fuel listed a w
 | 0, _, _, _, _, h => ⟨h.1, hQ _ _ h.2⟩
 | fuel + 1, _, _, _, hC, h => ⟨fun h0 => hQ _ _ (h.1 h0), fun i hi => by
  have hx := h.2 i hi
  unfold xOp at hx
  unfold wpOp
  split
  ·rename_i ho; simp only [ho] at hx; exact wpAny_of_X hQ fuel _ _ _ hC hx
  ·rename_i o ho
   simp only [ho] at hx
   split
   ·rename_i hw
    simp only [hw, if_true] at hx
    left
    split at hx
    ·exact wp_exits (Oper.wp_mono (fun a' w' ⟨h1, h2⟩ => wpAny_of_X hQ fuel _ a' w' h1 h2) hx)
    ·obtain ⟨v, hv, hx⟩ := hx
     have hv := hv _ hC
     unfold pureAt at hv
     unfold Oper.wp
     generalize (execOp _ o).run P _ = r at hv ⊢
     cases r with
     | ok n w' =>
      cases n <;> simp only [pureUpon] at hv <;> simp only [Oper.upon]
      case value u => obtain ⟨rfl, rfl⟩ := hv; exact wpAny_of_X hQ fuel _ _ _ hC hx
      case skip => obtain ⟨rfl, rfl⟩ := hv; exact wpAny_of_X hQ fuel _ _ _ hC hx
     | halt _ _ => simp only [pureUpon] at hv
   ·rename_i hw
    simp only [hw] at hx
    exact wpAny_of_X hQ fuel _ _ _ hC hx⟩
theorem wp_region_lex {id : Nat} {Q : Exit -> Act -> World -> Prop} {a : Act} {w : World} {l : List Oper} (E : List Nat) (C : World -> Prop) (hC : C w.drew) (hm : P.follows .mixedOrders = true) (hB : Region.lexB .any l.toArray = true) (hE : effOk .any l.toArray E = true)
 (h : wpLex P l.toArray C E (fun a' w' => Q .normal a' w') 0 l a w.drew) : (Code.region id l.toArray true).wp P Q a w := by
 simp only [Region.lexB, Bool.and_eq_true] at hB
 refine wp_region_any hm (wpAny_of_X (C := C) (E := E) (R := fun a' w' => Q .normal a' w') (fun _ _ h => h) _ _ _ _ hC ?_)
 have := wpAnyX_lex (P := P) (C := C) (E := E) (md := .any) (R := fun a' w' => Q .normal a' w') hB.1 hE l 0 (Array.replicate l.toArray.size false) a w.drew hC
  (fun j oj _ hl => by
   rcases Nat.lt_or_ge j l.length with h | h
   ·simp [h] at hl
   ·simp [h] at hl) (fun j hj => absurd hj (Nat.not_lt_zero _)) (by simp) (by simpa using hB.2) h
 simpa using this
structure Lat (Φ : World -> Prop) where
 w' : World
 h : Φ w'
theorem Lat.some {Φ : World -> Prop} {w : World} (h : Φ w) : Nonempty (Lat Φ) := ⟨⟨w, h⟩⟩
theorem wp_region_lat {id : Nat} {Q : Exit -> Act -> World -> Prop} {a : Act} {w : World} {l : List Oper} (E : List Nat) (Φ : World -> Prop) (h0 : Φ w.drew) (hm : P.follows .mixedOrders = true) (hB : Region.lexB .any l.toArray = true) (hE : effOk .any l.toArray E = true)
 (h : wpLex P l.toArray (fun w' => ∃ x : Lat Φ, w' = x.w') E (fun a' w' => Q .normal a' w') 0 l a w.drew) : (Code.region id l.toArray true).wp P Q a w :=
 wp_region_lex E _ ⟨⟨w.drew, h0⟩, rfl⟩ hm hB hE h
def LexQ (C : World -> Prop) (R : Act -> World -> Prop) : Exit -> Act -> World -> Prop
 | .normal, a, w => C w /\ R a w
 | _, _, _ => False
theorem lexQ_out {R : Act -> World -> Prop} : ¬ LetsOut (LexQ C R) := fun ⟨_, _, h⟩ => h
theorem lex_nil {R : Act -> World -> Prop} {k : Nat} {a : Act} {w : World} (h : R a w) : wpLex P ops C E R k [] a w := h
theorem lex_skip {R : Act -> World -> Prop} {k : Nat} {o : Oper} {rest : List Oper} {a : Act} {w : World} (hw : Region.wanted o (yielded ops a.tmps) = false)
 (h : wpLex P ops C E R (k + 1) rest (a.put o.dst undef) w) : wpLex P ops C E R k (o :: rest) a w := by
 unfold wpLex
 rw [if_neg (by rw [hw]; exact Bool.false_ne_true)]
 exact h
theorem lex_eff {R : Act -> World -> Prop} {k : Nat} {o : Oper} {rest : List Oper} {a : Act} {w : World} (hk : decide (k ∈ E) = true)
 (h : wpList P ops (LexQ C (wpLex P ops C E R (k + 1) rest)) [o] a w) : wpLex P ops C E R k (o :: rest) a w := by
 have hk' : k ∈ E := of_decide_eq_true hk
 unfold wpList at h
 unfold wpLex
 split
 ·rename_i hw
  rw [if_pos hw] at h
  rcases h with h | ⟨_, h⟩
  ·unfold Oper.wp at h ⊢
   generalize (execOp a.eval o).run P w = r at h ⊢
   cases r with
   | ok n w' =>
    cases n <;> simp only [Oper.upon] at h ⊢
    case enter f args => exact Calls.mono h (fun e w'' he => by
     cases e with
     | returned x => exact he
     | panicked c => exact (he : False).elim
     | outgrown => exact absurd he lexQ_out)
    all_goals first | exact h | exact Rows.mono h (fun _ _ he => he)
   | halt x w' => cases x <;> simp only [Oper.upon] at h ⊢ <;> exact (h : False).elim
  ·exact absurd h lexQ_out
 ·rename_i hw
  rw [if_neg hw] at h
  exact h.2
theorem enter_not {o : Oper} (ho : plainOp o = true) (ρ : Operand -> Value) (w : World) (f : FuncId) (args : Array Value) (w' : World) : (execOp ρ o).run P w ≠ .ok (.enter f args) w' := by
 obtain ⟨dst, op, type, pos, after, guard⟩ := o
 cases op with
 | call c =>
  obtain ⟨callee, as_, ts⟩ := c
  cases callee with
  | builtin b =>
   cases b <;> simp only [plainOp] at ho <;> first
    | (exfalso; revert ho; decide)
    | (simp only [execOp, resolve, invoke, builtin, Sem.run_bind, Sem.run_pure, Result.andThen_ok]; exact andThen_v _ _ _)
  | value x => simp [plainOp] at ho
  | invoke x n => simp [plainOp] at ho
 | pick c x y =>
  simp only [execOp, Sem.run_bind]
  cases (asBool (ρ c)).run P w <;> simp [Result.andThen]
 | move x => simp [execOp]
 | assign x => simp [execOp]
 | nilCheck x =>
  simp only [execOp]
  generalize ρ x = y
  have hp : ∀ (R : Result Next), (runtimePanic (α := Next) .nilDeref).run P w = R -> R ≠ .ok (.enter f args) w' := by
   rintro R rfl
   simp [runtimePanic, goPanic, go_sem]
  split
  ·exact hp _ rfl
  ·exact hp _ rfl
  ·exact hp _ rfl
  ·split
   ·exact hp _ rfl
   ·simp only [Sem.run_bind]
    generalize (program).run P w = r0
    cases r0 with
    | ok p w0 =>
     simp only [Result.andThen]
     generalize Sem.run P _ w0 = r1
     cases r1 with
     | ok q w1 =>
      simp only
      split
      ·simp [unsupported, go_sem]
      ·simp
     | halt _ _ => simp
    | halt _ _ => simp [Result.andThen]
   ·simp
  ·simp
 | _ => first
  | exact run_v _ _ _ _
  | exact run_u _ _ _ _
  | (exfalso; revert ho; simp only [plainOp]; decide)
theorem lex_pure {R : Act -> World -> Prop} {k : Nat} {o : Oper} {rest : List Oper} {a : Act} {w : World} (hk : decide (k ∈ E) = false) (hp : plainOp o = true) (hw : Region.wanted o (yielded ops a.tmps) = true)
 (h : ∀ K : Act -> Prop, (∀ a, wpLex P ops C E R (k + 1) rest a w -> K a) -> o.quiet P a C K) : wpLex P ops C E R k (o :: rest) a w := by
 obtain ⟨v, h1, h2⟩ := h _ (fun _ h => h)
 unfold wpLex
 rw [if_pos hw, if_neg (of_decide_eq_false hk)]
 refine ⟨v, fun w' hw' => ?_, h2⟩
 have := h1 w' hw'
 unfold Oper.quietAt at this
 unfold pureAt
 have hne := enter_not (P := P) hp a.eval w'
 generalize (execOp a.eval o).run P w' = r at this hne ⊢
 cases r with
 | ok n w2 =>
  cases n <;> simp only [Oper.quietUpon] at this <;> simp only [pureUpon]
  case value u => exact this
  case skip => exact this
  case enter f args => exact absurd rfl (hne f args w2)
 | halt _ _ => simp only [Oper.quietUpon] at this
end
end Go.Proofs.YtfbhchpbflaphaaGreatDoor

namespace Go.Proofs.YtfbhchpbflaphaaGreatDoor.K
def letterN (n : Int) : Bool := decide (97 <= n /\ n <= 122) || decide (n = 95)
def digitN (n : Int) : Bool := decide (48 <= n /\ n <= 57)
def letter (c : UInt8) : Bool := letterN c.toNat
def digit (c : UInt8) : Bool := digitN c.toNat
def wordN (names : Bool) (n : Int) : Bool := digitN n || (names && letterN n)
def word (names : Bool) (c : UInt8) : Bool := wordN names c.toNat
theorem wordN_high (names : Bool) (n : Int) (h : 128 <= n) : wordN names n = false := by
 have h1 : digitN n = false := by simp [digitN]; omega
 have h2 : letterN n = false := by simp [letterN]; omega
 simp [wordN, h1, h2]
def run (names : Bool) (l : List UInt8) : Nat := (l.takeWhile (word names)).length
theorem run_le (names : Bool) (l : List UInt8) : run names l <= l.length := by
 unfold run
 have := List.takeWhile_append_dropWhile (p := word names) (l := l)
 conv => rhs; rw [<- this]
 rw [List.length_append]
 omega
theorem run_cons (names : Bool) (c : UInt8) (l : List UInt8) : run names (c :: l) = if word names c then run names l + 1 else 0 := by
 unfold run
 rw [List.takeWhile_cons]
 split <;> simp
theorem run_nil (names : Bool) : run names [] = 0 := rfl
theorem run_at (names : Bool) : ∀ (l : List UInt8) (h : run names l < l.length), word names l[run names l] = false
 | [], h => by simp [run] at h
 | c :: l, h => by
  by_cases hc : word names c = true
  ·have e : run names (c :: l) = run names l + 1 := by rw [run_cons, if_pos hc]
   have h' : run names l < l.length := by rw [e] at h; simpa using h
   have := run_at names l h'
   simp only [e, List.getElem_cons_succ]
   exact this
  ·have e : run names (c :: l) = 0 := by rw [run_cons, if_neg hc]
   simp only [e, List.getElem_cons_zero]
   simpa using hc
theorem runWithin (names : Bool) : ∀ (l : List UInt8) (k : Nat) (_ : k < run names l) (h' : k < l.length), word names l[k] = true
 | [], k, _, h' => by simp at h'
 | c :: l, k, h, h' => by
  rw [run_cons] at h
  split at h
  ·rename_i hc
   cases k with
   | zero => exact hc
   | succ k => exact runWithin names l k (by omega) (by simpa using h')
  ·omega
theorem run_eq (names : Bool) (l : List UInt8) (k : Nat) (hk : k <= l.length) (h1 : ∀ j (h : j < l.length), j < k -> word names l[j] = true) (h2 : ∀ h : k < l.length, word names l[k] = false) : run names l = k := by
 rcases Nat.lt_trichotomy (run names l) k with h | h | h
 ·have := run_at names l (by omega)
  rw [h1 _ (by omega) h] at this
  cases this
 ·exact h
 ·have hle := run_le names l
  have := runWithin names l k h (by omega)
  rw [h2 (by omega)] at this
  cases this
theorem idxFrom (names : Bool) (p : Nat -> Bool) (hp : ∀ r, p r = !wordN names r) (s : ByteArray) : ∀ (f pos : Nat), s.size - pos <= f -> pos <= s.size ->
 Lib.idxFuncFrom p true s f pos = if run names (s.data.toList.drop pos) = s.size - pos then -1 else (pos : Int) + run names (s.data.toList.drop pos)
 | 0, pos, h, h2 => by
  have e : s.data.toList.drop pos = [] := List.drop_eq_nil_of_le (by simp [ByteArray.size_data] at *; omega)
  rw [e, run_nil, if_pos (by omega)]
  rfl
 | f + 1, pos, h, h2 => by
  unfold Lib.idxFuncFrom
  by_cases hlt : pos < s.size
  ·rw [if_pos hlt]
   have hl : s.data.toList.length = s.size := by simp
   have e : s.data.toList.drop pos = s[pos] :: s.data.toList.drop (pos + 1) := by
    rw [List.drop_eq_getElem_cons (by omega)]
    congr 1
   rw [e, run_cons]
   by_cases hc : word names s[pos] = true
   ·rw [if_pos hc]
    have hlo : s[pos].toNat < 128 := by
     rcases Nat.lt_or_ge s[pos].toNat 128 with h5 | h5
     ·exact h5
     ·rw [word, wordN_high _ _ (by omega)] at hc; cases hc
    have hlen := List.length_drop (i := pos + 1) (l := s.data.toList)
    rw [decode_ascii s pos hlt hlo, if_neg (by rw [hp]; unfold word at hc; rw [hc]; simp), idxFrom names p hp s f (pos + 1) (by omega) (by omega)]
    have hle := run_le names (s.data.toList.drop (pos + 1))
    simp only [List.length_drop, hl] at hle
    by_cases h6 : run names (s.data.toList.drop (pos + 1)) = s.size - (pos + 1)
    ·rw [if_pos h6, if_pos (by omega)]
    ·rw [if_neg h6, if_neg (by omega)]
     omega
   ·rw [if_neg hc]
    have : p (Utf8.decode s pos).1 = true := by
     rw [hp]
     rcases Nat.lt_or_ge s[pos].toNat 128 with h5 | h5
     ·rw [decode_ascii s pos hlt h5]
      unfold word at hc
      simpa using hc
     ·rw [wordN_high _ _ (by have := (decode_high s pos hlt h5).1; omega)]
      rfl
    rw [if_pos this, if_neg (by omega)]
    simp
  ·have e : s.data.toList.drop pos = [] := List.drop_eq_nil_of_le (by simp [ByteArray.size_data] at *; omega)
   rw [if_neg hlt, e, run_nil, if_pos (by omega)]
theorem idxFunc_run (names : Bool) (p : Nat -> Bool) (hp : ∀ r, p r = !wordN names r) (s : ByteArray) :
 Lib.idxFunc p true s = if run names s.data.toList = s.size then -1 else (run names s.data.toList : Int) := by
 unfold Lib.idxFunc
 rw [idxFrom names p hp s _ 0 (by omega) (by omega)]
 simp
def val (l : List UInt8) : Nat := l.foldl (fun n c => 10 * n + (c.toNat - 48)) 0
theorem val_snoc (l : List UInt8) (c : UInt8) : val (l ++ [c]) = 10 * val l + (c.toNat - 48) := by simp [val, List.foldl_append]
theorem val_from (l : List UInt8) : ∀ n, n <= l.foldl (fun n c => 10 * n + (c.toNat - 48)) n := by
 induction l with
 | nil => intro n; exact Nat.le_refl _
 | cons c l ih =>
  intro n
  refine Nat.le_trans ?_ (ih _)
  show n <= 10 * n + (c.toNat - 48)
  omega
theorem val_take (l : List UInt8) (k : Nat) : val (l.take k) <= val l := by
 conv => rhs; rw [<- List.take_append_drop k l]
 unfold val
 rw [List.foldl_append]
 exact val_from _ _
def numOk (l : List UInt8) : Bool := decide (l ≠ []) && decide (run false l = l.length) && !(decide (1 < l.length) && decide (l[0]? = some 48))
def number (l : List UInt8) : Nat × Int := if numOk l = true then (if 4294967295 < val l then (0, 3) else (val l, 0)) else (0, 4)
def syms2 : List (List UInt8) := [[124, 124], [38, 38], [61, 61], [33, 61], [60, 61], [62, 61], [60, 60], [62, 62]]
def chars : List UInt8 := [124, 94, 38, 60, 62, 43, 45, 42, 47, 37, 126, 33, 40, 41, 44, 61]
def isSym2 (l : List UInt8) : Bool := syms2.contains (l.take 2)
def isChar (c : UInt8) : Bool := chars.contains c
def sym : List UInt8 -> Nat
 | [] => 0
 | c :: l => if isSym2 (c :: l) then 2 else if isChar c then 1 else 0
def nxt : List UInt8 -> Int × Nat × Int
 | [] => (0, 0, 4)
 | c :: l =>
  if letter c then (if 32 < run true (c :: l) then (0, 0, 2) else (1, run true (c :: l), 0))
  else if digit c then
   (if (number ((c :: l).take (run false (c :: l)))).2 ≠ 0 then (0, 0, (number ((c :: l).take (run false (c :: l)))).2)
    else if (((c :: l).drop (run false (c :: l))).head?.map letter).getD false then (0, 0, 4) else (2, run false (c :: l), 0))
  else if sym (c :: l) = 0 then (0, 0, 4) else (3, sym (c :: l), 0)
end Go.Proofs.YtfbhchpbflaphaaGreatDoor.K

namespace Go.Proofs
open Go.Shelf
def Tryz.lays137_ren : Go.Shelf.Ren := ⟨fun | 137 => 146 | 217 => 151 | 266 => 156 | n => n, fun | 9 => 9 | 5 => 5 | 3 => 3 | n => n, fun | n => n⟩
theorem Tryz.lays137 : Go.Proofs.Lays.n137 Tryz.prog Tryz.lays137_ren := {
 mixed := by kernel_rfl
 f137 := Tryz.func146.trans (congrArg some (by kernel_rfl))
 f217 := Tryz.func151.trans (congrArg some (by kernel_rfl))
 f266 := Tryz.func156.trans (congrArg some (by kernel_rfl))
 t3 := Tryz.underlying3
 a3 := Tryz.isAgg3
 z3 := Tryz.sizeOf3
 v3 := Tryz.zeroValue3
 t5 := Tryz.underlying5
 a5 := Tryz.isAgg5
 z5 := Tryz.sizeOf5
 v5 := Tryz.zeroValue5
 t9 := Tryz.underlying9
 a9 := Tryz.isAgg9
 z9 := Tryz.sizeOf9
 v9 := Tryz.zeroValue9 }
open Go.RowKit in
theorem Tryz.strings_IndexByte (s : ByteArray) (c : Int) (w : World) :
 Calls Tryz.prog 146 #[.string s, .int .u8 c] w fun e w' => e = .returned (.int .i64 (Lib.indexByte s.data.toList c.toNat.toUInt8)) /\ w' = w := Any.strings_IndexByte Tryz.lays137 s c w
def Tryz.laysM219_ren : Go.Shelf.Ren := ⟨fun | 219 => 155 | 217 => 151 | 225 => 158 | 224 => 159 | 267 => 160 | 266 => 156 | 314 => 161 | n => n, fun | 9 => 9 | 3 => 3 | 4 => 4 | 5 => 5 | 46 => 143 | 146 => 236 | 51 => 51 | n => n, fun | 1 => 0 | n => n⟩
theorem Tryz.laysM219 : Go.Proofs.LaysM.n219 Tryz.prog Tryz.laysM219_ren := {
 mixed := by kernel_rfl
 f217 := Tryz.func151.trans (congrArg some (by kernel_rfl))
 f219 := Tryz.func155.trans (congrArg some (by kernel_rfl))
 f224 := Tryz.func159.trans (congrArg some (by kernel_rfl))
 f225 := Tryz.func158.trans (congrArg some (by kernel_rfl))
 f266 := Tryz.func156.trans (congrArg some (by kernel_rfl))
 f267 := Tryz.func160.trans (congrArg some (by kernel_rfl))
 f314 := Tryz.func161.trans (congrArg some (by kernel_rfl))
 t3 := Tryz.underlying3
 a3 := Tryz.isAgg3
 z3 := Tryz.sizeOf3
 v3 := Tryz.zeroValue3
 t4 := Tryz.underlying4
 a4 := Tryz.isAgg4
 z4 := Tryz.sizeOf4
 v4 := Tryz.zeroValue4
 t5 := Tryz.underlying5
 a5 := Tryz.isAgg5
 z5 := Tryz.sizeOf5
 v5 := Tryz.zeroValue5
 t9 := Tryz.underlying9
 a9 := Tryz.isAgg9
 z9 := Tryz.sizeOf9
 v9 := Tryz.zeroValue9
 t46 := Tryz.underlying143
 a46 := Tryz.isAgg143
 z46 := Tryz.sizeOf143
 v46 := Tryz.zeroValue143
 t51 := Tryz.underlying51
 a51 := Tryz.isAgg51
 z51 := Tryz.sizeOf51
 v51 := Tryz.zeroValue51
 t146 := Tryz.underlying236
 a146 := Tryz.isAgg236
 z146 := Tryz.sizeOf236
 v146 := Tryz.zeroValue236
 g1 := by kernel_rfl
 i3 := by kernel_rfl
 i4 := by kernel_rfl
 i5 := by kernel_rfl
 i9 := by kernel_rfl
 i46 := by kernel_rfl
 i51 := by kernel_rfl
 i146 := by kernel_rfl
 m1 := by kernel_rfl
 s1_3 := fun w h => Go.Proofs.cell_of_shapedOpen_int (zero := #[.int .i64 0]) (t := 3) h (of_decide_eq_true (by kernel_rfl)) (by kernel_rfl) rfl (by kernel_rfl) (by kernel_rfl) Tryz.underlying3 }
def Tryz.lays190_ren : Go.Shelf.Ren := ⟨fun | 190 => 26 | 125 => 71 | 258 => 70 | 128 => 107 | 129 => 108 | 302 => 98 | 303 => 99 | 304 => 100 | 305 => 101 | 306 => 102 | 307 => 103 | 308 => 104 | 309 => 105 | 310 => 106 | 333 => 121 | 329 => 122 | 330 => 123 | 334 => 124 | 335 => 125 | 336 => 126 | 344 => 139 | n => n, fun | 31 => 36 | 9 => 9 | 3 => 3 | 46 => 143 | 0 => 0 | 51 => 51 | 53 => 185 | 4 => 4 | 183 => 178 | 182 => 177 | 131 => 163 | 5 => 5 | 218 => 200 | 222 => 204 | 228 => 218 | 229 => 219 | n => n, fun | n => n⟩
theorem Tryz.lays190 : Go.Proofs.Lays.n190 Tryz.prog Tryz.lays190_ren := {
 mixed := by kernel_rfl
 f125 := Tryz.func71.trans (congrArg some (by kernel_rfl))
 f128 := Tryz.func107.trans (congrArg some (by kernel_rfl))
 f129 := Tryz.func108.trans (congrArg some (by kernel_rfl))
 f190 := Tryz.func26.trans (congrArg some (by kernel_rfl))
 f258 := Tryz.func70.trans (congrArg some (by kernel_rfl))
 f302 := Tryz.func98.trans (congrArg some (by kernel_rfl))
 f303 := Tryz.func99.trans (congrArg some (by kernel_rfl))
 f304 := Tryz.func100.trans (congrArg some (by kernel_rfl))
 f305 := Tryz.func101.trans (congrArg some (by kernel_rfl))
 f306 := Tryz.func102.trans (congrArg some (by kernel_rfl))
 f307 := Tryz.func103.trans (congrArg some (by kernel_rfl))
 f308 := Tryz.func104.trans (congrArg some (by kernel_rfl))
 f309 := Tryz.func105.trans (congrArg some (by kernel_rfl))
 f310 := Tryz.func106.trans (congrArg some (by kernel_rfl))
 f329 := Tryz.func122.trans (congrArg some (by kernel_rfl))
 f330 := Tryz.func123.trans (congrArg some (by kernel_rfl))
 f333 := Tryz.func121.trans (congrArg some (by kernel_rfl))
 f334 := Tryz.func124.trans (congrArg some (by kernel_rfl))
 f335 := Tryz.func125.trans (congrArg some (by kernel_rfl))
 f336 := Tryz.func126.trans (congrArg some (by kernel_rfl))
 f344 := Tryz.func139.trans (congrArg some (by kernel_rfl))
 t0 := Tryz.underlying0
 a0 := Tryz.isAgg0
 z0 := Tryz.sizeOf0
 v0 := Tryz.zeroValue0
 t3 := Tryz.underlying3
 a3 := Tryz.isAgg3
 z3 := Tryz.sizeOf3
 v3 := Tryz.zeroValue3
 t4 := Tryz.underlying4
 a4 := Tryz.isAgg4
 z4 := Tryz.sizeOf4
 v4 := Tryz.zeroValue4
 t5 := Tryz.underlying5
 a5 := Tryz.isAgg5
 z5 := Tryz.sizeOf5
 v5 := Tryz.zeroValue5
 t9 := Tryz.underlying9
 a9 := Tryz.isAgg9
 z9 := Tryz.sizeOf9
 v9 := Tryz.zeroValue9
 t31 := Tryz.underlying36
 a31 := Tryz.isAgg36
 z31 := Tryz.sizeOf36
 v31 := Tryz.zeroValue36
 t46 := Tryz.underlying143
 a46 := Tryz.isAgg143
 z46 := Tryz.sizeOf143
 v46 := Tryz.zeroValue143
 t51 := Tryz.underlying51
 a51 := Tryz.isAgg51
 z51 := Tryz.sizeOf51
 v51 := Tryz.zeroValue51
 t53 := Tryz.underlying185
 a53 := Tryz.isAgg185
 z53 := Tryz.sizeOf185
 v53 := Tryz.zeroValue185
 t131 := Tryz.underlying163
 a131 := Tryz.isAgg163
 z131 := Tryz.sizeOf163
 v131 := Tryz.zeroValue163
 t182 := Tryz.underlying177
 a182 := Tryz.isAgg177
 z182 := Tryz.sizeOf177
 v182 := Tryz.zeroValue177
 t183 := Tryz.underlying178
 a183 := Tryz.isAgg178
 z183 := Tryz.sizeOf178
 v183 := Tryz.zeroValue178
 t218 := Tryz.underlying200
 a218 := Tryz.isAgg200
 z218 := Tryz.sizeOf200
 v218 := Tryz.zeroValue200
 t222 := Tryz.underlying204
 a222 := Tryz.isAgg204
 z222 := Tryz.sizeOf204
 v222 := Tryz.zeroValue204
 t228 := Tryz.underlying218
 a228 := Tryz.isAgg218
 z228 := Tryz.sizeOf218
 v228 := Tryz.zeroValue218
 t229 := Tryz.underlying219
 a229 := Tryz.isAgg219
 z229 := Tryz.sizeOf219
 v229 := Tryz.zeroValue219 }
open Go.Sort Go.RowKit in
theorem Tryz.slices_Sort_string (blk off cap : Nat) (ss : List (List UInt8)) (w : World) (hH : Holds encStr w blk off ss.toArray) (hblk : blk < w.heap.size) (hsz : ss.length < 4611686018427387904) :
 Calls Tryz.prog 26 #[.slice (some ⟨blk, off, none⟩) ss.length cap] w fun e w' =>
  e = .returned (.tuple #[]) /\ ∃ n os, w' = grow (putRow encStr (Sort.ahead w n) blk off (ss.mergeSort fun x y => decide (x <= y)).toArray) os := Any.slices_Sort_string Tryz.lays190 blk off cap ss w hH hblk hsz
def Tryz.laysGw15_ren : Go.Shelf.Ren := ⟨fun | 15 => 144 | 20 => 150 | n => n, fun | 9 => 9 | 23 => 212 | 3 => 3 | 4 => 4 | 0 => 0 | 21 => 21 | n => n, fun | n => n⟩
theorem Tryz.laysGw15 : Go.Proofs.LaysGw.n15 Tryz.prog Tryz.laysGw15_ren := {
 mixed := by kernel_rfl
 f15 := Tryz.func144.trans (congrArg some (by kernel_rfl))
 f20 := Tryz.func150.trans (congrArg some (by kernel_rfl))
 t0 := Tryz.underlying0
 a0 := Tryz.isAgg0
 z0 := Tryz.sizeOf0
 v0 := Tryz.zeroValue0
 i0 := by kernel_rfl
 t3 := Tryz.underlying3
 a3 := Tryz.isAgg3
 z3 := Tryz.sizeOf3
 v3 := Tryz.zeroValue3
 i3 := by kernel_rfl
 t4 := Tryz.underlying4
 a4 := Tryz.isAgg4
 z4 := Tryz.sizeOf4
 v4 := Tryz.zeroValue4
 i4 := by kernel_rfl
 t9 := Tryz.underlying9
 a9 := Tryz.isAgg9
 z9 := Tryz.sizeOf9
 v9 := Tryz.zeroValue9
 i9 := by kernel_rfl
 t21 := Tryz.underlying21
 a21 := Tryz.isAgg21
 z21 := Tryz.sizeOf21
 v21 := Tryz.zeroValue21
 i21 := by kernel_rfl
 t23 := Tryz.underlying212
 a23 := Tryz.isAgg212
 z23 := Tryz.sizeOf212
 v23 := Tryz.zeroValue212
 i23 := by kernel_rfl }
open Go.RowKit Go.Lib in
theorem Tryz.strings_IndexFunc (g : Nat) (lb : Array Value) (eg : ∀ args w, (callFunc g args).run Tryz.prog w = .ok (.enter g args) w) (p : Nat -> Bool) (s : ByteArray) (w : World) (hp : PredAt Tryz.prog g lb encR p w) :
 Calls Tryz.prog 144 #[.string s, .func (.func g) #[] lb] w fun e w' => e = .returned (.int .i64 (Lib.idxFunc p true s)) /\ Below w.heap.size w w' := Any.strings_IndexFunc Tryz.laysGw15 g lb eg p s w hp
def Tryz.laysGw17_ren : Go.Shelf.Ren := ⟨fun | 17 => 142 | 15 => 144 | 20 => 150 | n => n, fun | 9 => 9 | 23 => 212 | 4 => 4 | 3 => 3 | 0 => 0 | 21 => 21 | n => n, fun | n => n⟩
theorem Tryz.laysGw17 : Go.Proofs.LaysGw.n17 Tryz.prog Tryz.laysGw17_ren := {
 mixed := by kernel_rfl
 f15 := Tryz.func144.trans (congrArg some (by kernel_rfl))
 f17 := Tryz.func142.trans (congrArg some (by kernel_rfl))
 f20 := Tryz.func150.trans (congrArg some (by kernel_rfl))
 t0 := Tryz.underlying0
 a0 := Tryz.isAgg0
 z0 := Tryz.sizeOf0
 v0 := Tryz.zeroValue0
 i0 := by kernel_rfl
 t3 := Tryz.underlying3
 a3 := Tryz.isAgg3
 z3 := Tryz.sizeOf3
 v3 := Tryz.zeroValue3
 i3 := by kernel_rfl
 t4 := Tryz.underlying4
 a4 := Tryz.isAgg4
 z4 := Tryz.sizeOf4
 v4 := Tryz.zeroValue4
 i4 := by kernel_rfl
 t9 := Tryz.underlying9
 a9 := Tryz.isAgg9
 z9 := Tryz.sizeOf9
 v9 := Tryz.zeroValue9
 i9 := by kernel_rfl
 t21 := Tryz.underlying21
 a21 := Tryz.isAgg21
 z21 := Tryz.sizeOf21
 v21 := Tryz.zeroValue21
 i21 := by kernel_rfl
 t23 := Tryz.underlying212
 a23 := Tryz.isAgg212
 z23 := Tryz.sizeOf212
 v23 := Tryz.zeroValue212
 i23 := by kernel_rfl }
open Go.RowKit Go.Lib in
theorem Tryz.strings_ContainsFunc (g : Nat) (lb : Array Value) (eg : ∀ args w, (callFunc g args).run Tryz.prog w = .ok (.enter g args) w) (p : Nat -> Bool) (s : ByteArray) (w : World) (hp : PredAt Tryz.prog g lb encR p w) :
 Calls Tryz.prog 142 #[.string s, .func (.func g) #[] lb] w fun e w' => e = .returned (.bool (decide (0 <= Lib.idxFunc p true s))) /\ Below w.heap.size w w' := Any.strings_ContainsFunc Tryz.laysGw17 g lb eg p s w hp
def Tryz.lays146_ren : Go.Shelf.Ren := ⟨fun | 146 => 129 | 221 => 140 | 268 => 147 | 138 => 148 | 143 => 149 | 195 => 152 | 197 => 153 | 218 => 154 | 219 => 155 | 260 => 157 | 217 => 151 | 225 => 158 | 224 => 159 | 267 => 160 | 266 => 156 | 314 => 161 | n => n, fun | 9 => 9 | 31 => 36 | 3 => 3 | 4 => 4 | 0 => 0 | 105 => 230 | 21 => 21 | 5 => 5 | 46 => 143 | 119 => 232 | 139 => 235 | 138 => 234 | 146 => 236 | 51 => 51 | n => n, fun | 1 => 0 | 3 => 1 | 4 => 2 | n => n⟩
theorem Tryz.lays146 : Go.Proofs.Lays.n146 Tryz.prog Tryz.lays146_ren := {
 mixed := by kernel_rfl
 f138 := Tryz.func148.trans (congrArg some (by kernel_rfl))
 f143 := Tryz.func149.trans (congrArg some (by kernel_rfl))
 f146 := Tryz.func129.trans (congrArg some (by kernel_rfl))
 f195 := Tryz.func152.trans (congrArg some (by kernel_rfl))
 f197 := Tryz.func153.trans (congrArg some (by kernel_rfl))
 f217 := Tryz.func151.trans (congrArg some (by kernel_rfl))
 f218 := Tryz.func154.trans (congrArg some (by kernel_rfl))
 f219 := Tryz.func155.trans (congrArg some (by kernel_rfl))
 f221 := Tryz.func140.trans (congrArg some (by kernel_rfl))
 f224 := Tryz.func159.trans (congrArg some (by kernel_rfl))
 f225 := Tryz.func158.trans (congrArg some (by kernel_rfl))
 f260 := Tryz.func157.trans (congrArg some (by kernel_rfl))
 f266 := Tryz.func156.trans (congrArg some (by kernel_rfl))
 f267 := Tryz.func160.trans (congrArg some (by kernel_rfl))
 f268 := Tryz.func147.trans (congrArg some (by kernel_rfl))
 f314 := Tryz.func161.trans (congrArg some (by kernel_rfl))
 t0 := Tryz.underlying0
 a0 := Tryz.isAgg0
 z0 := Tryz.sizeOf0
 v0 := Tryz.zeroValue0
 t3 := Tryz.underlying3
 a3 := Tryz.isAgg3
 z3 := Tryz.sizeOf3
 v3 := Tryz.zeroValue3
 t4 := Tryz.underlying4
 a4 := Tryz.isAgg4
 z4 := Tryz.sizeOf4
 v4 := Tryz.zeroValue4
 t5 := Tryz.underlying5
 a5 := Tryz.isAgg5
 z5 := Tryz.sizeOf5
 v5 := Tryz.zeroValue5
 t9 := Tryz.underlying9
 a9 := Tryz.isAgg9
 z9 := Tryz.sizeOf9
 v9 := Tryz.zeroValue9
 t21 := Tryz.underlying21
 a21 := Tryz.isAgg21
 z21 := Tryz.sizeOf21
 v21 := Tryz.zeroValue21
 t31 := Tryz.underlying36
 a31 := Tryz.isAgg36
 z31 := Tryz.sizeOf36
 v31 := Tryz.zeroValue36
 t46 := Tryz.underlying143
 a46 := Tryz.isAgg143
 z46 := Tryz.sizeOf143
 v46 := Tryz.zeroValue143
 t51 := Tryz.underlying51
 a51 := Tryz.isAgg51
 z51 := Tryz.sizeOf51
 v51 := Tryz.zeroValue51
 t105 := Tryz.underlying230
 a105 := Tryz.isAgg230
 z105 := Tryz.sizeOf230
 v105 := Tryz.zeroValue230
 t119 := Tryz.underlying232
 a119 := Tryz.isAgg232
 z119 := Tryz.sizeOf232
 t138 := Tryz.underlying234
 a138 := Tryz.isAgg234
 z138 := Tryz.sizeOf234
 v138 := Tryz.zeroValue234
 t139 := Tryz.underlying235
 a139 := Tryz.isAgg235
 z139 := Tryz.sizeOf235
 v139 := Tryz.zeroValue235
 t146 := Tryz.underlying236
 a146 := Tryz.isAgg236
 z146 := Tryz.sizeOf236
 v146 := Tryz.zeroValue236
 g1 := by kernel_rfl
 g3 := by kernel_rfl
 g4 := by kernel_rfl }
open Go.RowKit Go.Lib in
theorem Tryz.strings_Split (s sep : ByteArray) (m : Int) (w : World) (hs : s.size < 4294967281) (hm : w.cell? ⟨0, 0, none⟩ = some (.int .i64 m)) (h1 : 1 <= sep.size) :
 Calls Tryz.prog 129 #[.string s, .string sep] w fun e w' =>
  e = .returned (.slice (some ⟨w.heap.size, 0, none⟩) (Lib.countB s sep + 1) (Lib.countB s sep + 1)) /\ w' = w.alloc (.cells ((Lib.splitB sep 0 (Lib.countB s sep) s).map Value.string).toArray 9) := Any.strings_Split Tryz.lays146 (by kernel_rfl) s sep m w hs hm h1
def Tryz.lays111_ren : Go.Shelf.Ren := ⟨fun | 111 => 39 | n => n, fun | 28 => 30 | 3 => 3 | 4 => 4 | 0 => 0 | n => n, fun | n => n⟩
theorem Tryz.lays111 : Go.Proofs.Lays.n111 Tryz.prog Tryz.lays111_ren := {
 mixed := by kernel_rfl
 f111 := Tryz.func39.trans (congrArg some (by kernel_rfl))
 t0 := Tryz.underlying0
 a0 := Tryz.isAgg0
 z0 := Tryz.sizeOf0
 v0 := Tryz.zeroValue0
 t3 := Tryz.underlying3
 a3 := Tryz.isAgg3
 z3 := Tryz.sizeOf3
 v3 := Tryz.zeroValue3
 t4 := Tryz.underlying4
 a4 := Tryz.isAgg4
 z4 := Tryz.sizeOf4
 v4 := Tryz.zeroValue4
 t28 := Tryz.underlying30
 a28 := Tryz.isAgg30
 z28 := Tryz.sizeOf30
 v28 := Tryz.zeroValue30 }
open Go.RowKit Go.Lib in
theorem Tryz.slices_Equal_int (b1 o1 n c b2 o2 m d : Nat) (xs ys : List Int) (w : World) (hx : n <= xs.length) (hy : m <= ys.length) (hbig : n <= 9223372036854775807) (hbig2 : m <= 9223372036854775807) (hc1 : ∀ j, j < xs.length -> w.cell? ⟨b1, o1 + j, none⟩ = some (.int .i64 (xs.getD j 0))) (hc2 : ∀ j, j < ys.length -> w.cell? ⟨b2, o2 + j, none⟩ = some (.int .i64 (ys.getD j 0))) :
 Calls Tryz.prog 39 #[.slice (some ⟨b1, o1, none⟩) n c, .slice (some ⟨b2, o2, none⟩) m d] w fun e w' => e = .returned (.bool (xs.take n == ys.take m)) /\ ∃ q, w' = w.drewN q := Any.slices_Equal_int Tryz.lays111 b1 o1 n c b2 o2 m d xs ys w hx hy hbig hbig2 hc1 hc2
def Tryz.lays193_ren : Go.Shelf.Ren := ⟨fun | 193 => 40 | n => n, fun | 31 => 36 | 9 => 9 | 4 => 4 | 3 => 3 | 0 => 0 | n => n, fun | n => n⟩
theorem Tryz.lays193 : Go.Proofs.Lays.n193 Tryz.prog Tryz.lays193_ren := {
 mixed := by kernel_rfl
 f193 := Tryz.func40.trans (congrArg some (by kernel_rfl))
 t0 := Tryz.underlying0
 a0 := Tryz.isAgg0
 z0 := Tryz.sizeOf0
 v0 := Tryz.zeroValue0
 t3 := Tryz.underlying3
 a3 := Tryz.isAgg3
 z3 := Tryz.sizeOf3
 v3 := Tryz.zeroValue3
 t4 := Tryz.underlying4
 a4 := Tryz.isAgg4
 z4 := Tryz.sizeOf4
 v4 := Tryz.zeroValue4
 t9 := Tryz.underlying9
 a9 := Tryz.isAgg9
 z9 := Tryz.sizeOf9
 v9 := Tryz.zeroValue9
 t31 := Tryz.underlying36
 a31 := Tryz.isAgg36
 z31 := Tryz.sizeOf36
 v31 := Tryz.zeroValue36 }
open Go.RowKit Go.Lib in
theorem Tryz.slices_Equal_string (b1 o1 n c b2 o2 m d : Nat) (xs ys : List ByteArray) (w : World) (hx : n <= xs.length) (hy : m <= ys.length) (hbig : n <= 9223372036854775807) (hbig2 : m <= 9223372036854775807) (hc1 : ∀ j, j < xs.length -> w.cell? ⟨b1, o1 + j, none⟩ = some (.string (xs.getD j ByteArray.empty))) (hc2 : ∀ j, j < ys.length -> w.cell? ⟨b2, o2 + j, none⟩ = some (.string (ys.getD j ByteArray.empty))) :
 Calls Tryz.prog 40 #[.slice (some ⟨b1, o1, none⟩) n c, .slice (some ⟨b2, o2, none⟩) m d] w fun e w' => e = .returned (.bool (decide (xs.take n = ys.take m))) /\ ∃ q, w' = w.drewN q := Any.slices_Equal_string Tryz.lays193 b1 o1 n c b2 o2 m d xs ys w hx hy hbig hbig2 hc1 hc2
def Tryz.lays194_ren : Go.Shelf.Ren := ⟨fun | 194 => 27 | n => n, fun | 31 => 36 | 9 => 9 | 3 => 3 | 4 => 4 | 0 => 0 | n => n, fun | n => n⟩
theorem Tryz.lays194 : Go.Proofs.Lays.n194 Tryz.prog Tryz.lays194_ren := {
 mixed := by kernel_rfl
 f194 := Tryz.func27.trans (congrArg some (by kernel_rfl))
 t0 := Tryz.underlying0
 a0 := Tryz.isAgg0
 z0 := Tryz.sizeOf0
 v0 := Tryz.zeroValue0
 t3 := Tryz.underlying3
 a3 := Tryz.isAgg3
 z3 := Tryz.sizeOf3
 v3 := Tryz.zeroValue3
 t4 := Tryz.underlying4
 a4 := Tryz.isAgg4
 z4 := Tryz.sizeOf4
 v4 := Tryz.zeroValue4
 t9 := Tryz.underlying9
 a9 := Tryz.isAgg9
 z9 := Tryz.sizeOf9
 v9 := Tryz.zeroValue9
 t31 := Tryz.underlying36
 a31 := Tryz.isAgg36
 z31 := Tryz.sizeOf36
 v31 := Tryz.zeroValue36 }
open Go.RowKit Go.Lib Go.Sort in
theorem Tryz.slices_Compact_string (blk off cap : Nat) (zs : List (List UInt8)) (w : World) (hH : Holds encStr w blk off zs.toArray) (hsz : zs.length <= 9223372036854775807) (hcap : zs.length <= cap) :
 Calls Tryz.prog 27 #[.slice (some ⟨blk, off, none⟩) zs.length cap] w fun e w' => e = .returned (.slice (some ⟨blk, off, none⟩) (Lib.compact zs).length cap) /\ ∃ q, w' = putRow encStr (Sort.ahead w q) blk off (Lib.compact zs ++ List.replicate (zs.length - (Lib.compact zs).length) []).toArray := Any.slices_Compact_string Tryz.lays194 blk off cap zs w hH hsz hcap
open Go.RowKit Go.Lib Go.Sort in
theorem Tryz.slices_Compact_string_empty (a : Option Addr) (cap : Nat) (w : World) :
 Calls Tryz.prog 27 #[.slice a 0 cap] w fun e w' => e = .returned (.slice a 0 cap) /\ w' = w := Any.slices_Compact_string_empty Tryz.lays194 a cap w
open Go.RowKit Go.Sort in
theorem Tryz.slices_Sort_string_none (p : Option Addr) (cap : Nat) (w : World) :
 Calls Tryz.prog 26 #[.slice p 0 cap] w fun e w' => e = .returned (.tuple #[]) /\ w' = w := Any.slices_Sort_string_none Tryz.lays190 p cap w
end Go.Proofs

namespace Go.Proofs.YtfbhchpbflaphaaGreatDoor
open Go.RowKit Go.Lib
theorem letter_any (n : Int) (w : World) : Calls Tryz.prog 133 #[.int .i32 n] w fun e w' => e = .returned (.bool (K.letterN n)) /\ w = w' := by
 have hv : Hid (K.letterN n = (decide (97 <= n /\ n <= 122) || decide (n = 95))) := rfl
 go_enter Tryz.func133, Tryz.ntmps133
 go_wp2
 all_goals
  go_ret
  exact ⟨ret_bool (by rw [hv.out, Bool.eq_iff_iff]; simp; try omega), rfl⟩
theorem digit_any (n : Int) (w : World) : Calls Tryz.prog 135 #[.int .i32 n] w fun e w' => e = .returned (.bool (K.digitN n)) /\ w = w' := by
 have hv : Hid (K.digitN n = decide (48 <= n /\ n <= 57)) := rfl
 go_enter Tryz.func135, Tryz.ntmps135
 go_wp2
 all_goals
  go_ret
  exact ⟨ret_bool (by rw [hv.out, Bool.eq_iff_iff]; simp; try omega), rfl⟩
theorem indexByte_pos (l : List UInt8) (c : UInt8) : 0 <= Lib.indexByte l c ↔ l.contains c = true := by
 induction l with
 | nil => simp [Lib.indexByte]
 | cons b l ih =>
  have hge := Lib.indexByte_ge l c
  unfold Lib.indexByte
  rw [List.contains_cons]
  by_cases hbc : b = c
  ·subst hbc; simp
  ·have h1 : (b == c) = false := by simpa using hbc
   have h2 : (c == b) = false := by simpa using fun h => hbc h.symm
   rw [h1, h2, if_neg (by simp), Bool.false_or, <- ih]
   by_cases h3 : Lib.indexByte l c = -1
   ·simp [h3]
   ·have h4 : (Lib.indexByte l c == -1) = false := by simpa using h3
    rw [h4, if_neg (by simp)]
    constructor <;> intro h <;> omega
theorem index_yes (c : UInt8) (w : World) (h : K.isChar c = true) : Calls Tryz.prog 146 #[.string ⟨#[124, 94, 38, 60, 62, 43, 45, 42, 47, 37, 126, 33, 40, 41, 44, 61]⟩, .int .u8 (c.toNat : Int)] w fun e w' => (∃ z : Int, e = .returned (.int .i64 z) /\ 0 <= z) /\ w = w' :=
 (Tryz.strings_IndexByte ⟨#[124, 94, 38, 60, 62, 43, 45, 42, 47, 37, 126, 33, 40, 41, 44, 61]⟩ (c.toNat : Int) w).mono fun e w' ⟨he, hw⟩ => ⟨⟨_, he, by
  rw [indexByte_pos, Int.toNat_natCast, Nat.toUInt8_eq, UInt8.ofNat_toNat]
  exact h⟩, hw.symm⟩
theorem index_no (c : UInt8) (w : World) (h : K.isChar c = false) : Calls Tryz.prog 146 #[.string ⟨#[124, 94, 38, 60, 62, 43, 45, 42, 47, 37, 126, 33, 40, 41, 44, 61]⟩, .int .u8 (c.toNat : Int)] w fun e w' => (∃ z : Int, e = .returned (.int .i64 z) /\ z < 0) /\ w = w' :=
 (Tryz.strings_IndexByte ⟨#[124, 94, 38, 60, 62, 43, 45, 42, 47, 37, 126, 33, 40, 41, 44, 61]⟩ (c.toNat : Int) w).mono fun e w' ⟨he, hw⟩ => ⟨⟨_, he, by
  rcases Int.lt_or_le (Lib.indexByte [124, 94, 38, 60, 62, 43, 45, 42, 47, 37, 126, 33, 40, 41, 44, 61] c) 0 with h1 | h1
  ·simpa using h1
  ·rw [indexByte_pos] at h1
   have : K.isChar c = true := h1
   rw [h] at this
   cases this⟩, hw.symm⟩
theorem str_pos (s : ByteArray) (h : 0 < s.size) : ¬ s.toList = [] /\ s.toList.isEmpty = false /\ s.data.toList = s[0] :: s.data.toList.drop 1 := by
 have hl : s.data.toList.length = s.size := by simp
 refine ⟨fun e => ?_, ?_, ?_⟩
 ·rw [ByteArray.toList_eq] at e; rw [e] at hl; simp at hl; omega
 ·rw [ByteArray.toList_eq]
  cases he : s.data.toList with
  | nil => rw [he] at hl; simp at hl; omega
  | cons a l => rfl
 ·have := List.drop_eq_getElem_cons (l := s.data.toList) (i := 0) (by omega)
  rw [List.drop_zero] at this
  exact this
set_option maxHeartbeats 1000000 in
theorem symbol_any (s : ByteArray) (w : World) (h0 : 0 < s.size) : Calls Tryz.prog 137 #[.string s] w fun e w' => e = .returned (.string (s.extract 0 (K.sym s.data.toList))) /\ w = w' := by
 obtain ⟨p1, p2, p3⟩ := str_pos s h0
 have hl : s.data.toList.length = s.size := by simp
 have hx : (s.extract 0 2).toList = s.data.toList.take 2 := by rw [ByteArray.toList_eq, Lib.extract_data]; rfl
 have hs : K.sym s.data.toList = if K.syms2.contains (s.data.toList.take 2) then 2 else if K.isChar s[0] then 1 else 0 := by
  rw [p3]; rfl
 by_cases h2 : K.syms2.contains (s.data.toList.take 2) = true
 ·rw [if_pos h2] at hs
  have hm : s.data.toList.take 2 ∈ K.syms2 := by simpa using h2
  have hlen : 1 < s.size := by
   have : (s.data.toList.take 2).length = 2 := by
    simp only [K.syms2, List.mem_cons, List.not_mem_nil, or_false] at hm
    rcases hm with h | h | h | h | h | h | h | h <;> rw [h] <;> rfl
   rw [List.length_take] at this
   omega
  rw [hs]
  clear hs h2 hl p3
  simp only [K.syms2, List.mem_cons, List.not_mem_nil, or_false] at hm
  rcases hm with h | h | h | h | h | h | h | h
  all_goals
   rw [h] at hx
   clear h
   go_enter Tryz.func137, Tryz.ntmps137
   go_wp2
   go_ret
   exact ⟨rfl, rfl⟩
 ·have h2' : K.syms2.contains (s.data.toList.take 2) = false := by simpa using h2
  rw [if_neg h2] at hs
  have hne : ∀ c ∈ K.syms2, ((s.extract 0 2).toList == c) = false := fun c hc => by
   rw [hx, beq_eq_false_iff_ne]
   rintro rfl
   rw [List.contains_eq_mem, decide_eq_false_iff_not] at h2'
   exact h2' hc
  have n1 := hne [124, 124] (by decide)
  have n2 := hne [38, 38] (by decide)
  have n3 := hne [61, 61] (by decide)
  have n4 := hne [33, 61] (by decide)
  have n5 := hne [60, 61] (by decide)
  have n6 := hne [62, 61] (by decide)
  have n7 := hne [60, 60] (by decide)
  have n8 := hne [62, 62] (by decide)
  have HS := Lib.hid hs
  clear hne hx hl h2 h2' p3 hs
  by_cases hc : K.isChar s[0] = true
  ·have hs2 : Hid (K.sym s.data.toList = 1) := by rw [if_pos hc] at HS; exact HS
   have HC := Lib.hid hc
   clear hc HS
   by_cases h1 : 1 < s.size
   all_goals
    go_enter Tryz.func137, Tryz.ntmps137
    go_wp2_with (go_at_call 146; refine (index_yes _ _ HC.out).mono ?_; rintro e w' ⟨⟨z, rfl, hz⟩, rfl⟩)
    go_ret
    exact ⟨by rw [hs2.out]; rfl, rfl⟩
  ·have hs2 : Hid (K.sym s.data.toList = 0) := by rw [if_neg hc] at HS; exact HS
   have HC := Lib.hid (show K.isChar s[0] = false by simpa using hc)
   clear hc HS
   by_cases h1 : 1 < s.size
   all_goals
    go_enter Tryz.func137, Tryz.ntmps137
    go_wp2_with (go_at_call 146; refine (index_no _ _ HC.out).mono ?_; rintro e w' ⟨⟨z, rfl, hz⟩, rfl⟩)
    go_ret
    exact ⟨by rw [hs2.out, ByteArray.extract_same]; rfl, rfl⟩
theorem run1_pred (b : Bool) (B : Nat) (w : World) (hB : B < w.heap.size) (hc : w.cell? ⟨B, 0, none⟩ = some (.bool b)) :
 PredAt Tryz.prog 145 #[.pointer (some ⟨B, 0, none⟩)] encR (fun r => !K.wordN b (r : Int)) w := by
 intro W x hb
 have hc' := (hb.cell (p := ⟨B, 0, none⟩) hB).trans hc
 have hv : Hid (K.wordN b (x : Int) = (K.digitN x || (b && K.letterN x))) := rfl
 unfold FnGives
 obtain ⟨d, hd⟩ : ∃ d, K.digitN x = d := ⟨_, rfl⟩
 obtain ⟨l, hl⟩ : ∃ l, K.letterN x = l := ⟨_, rfl⟩
 cases d <;> cases b
 all_goals
  go_enter Tryz.func145, Tryz.ntmps145
  go_wp2_with (first | (go_at_call 135; refine (digit_any _ _).mono ?_; rw [hd]; rintro e w' ⟨rfl, rfl⟩) | (go_at_call 133; refine (letter_any _ _).mono ?_; rw [hl]; rintro e w' ⟨rfl, rfl⟩))
  go_ret
  exact ⟨ret_bool (by rw [hv.out, hd]; try (rw [hl]); try simp), 0, rfl⟩
theorem run_any (s : ByteArray) (b : Bool) (w : World) : Calls Tryz.prog 134 #[.string s, .bool b] w (Al (.int .i64 (K.run b s.data.toList : Nat)) w) := by
 have hle := K.run_le b s.data.toList
 have hl : s.data.toList.length = s.size := by simp
 rw [hl] at hle
 have hi := K.idxFunc_run b (fun r => !K.wordN b (r : Int)) (fun _ => rfl) s
 have eg := enters_of Tryz.func145 (by kernel_rfl) rfl
 have hC := fun (W : World) (hB : w.heap.size < W.heap.size) (hc : W.cell? ⟨w.heap.size, 0, none⟩ = some (.bool b)) => Tryz.strings_IndexFunc 145 #[.pointer (some ⟨w.heap.size, 0, none⟩)] eg (fun r => !K.wordN b (r : Int)) s W (run1_pred b w.heap.size W hB hc)
 have HC := Lib.hid hC
 clear hC
 by_cases hr : K.run b s.data.toList = s.size
 ·rw [if_pos hr] at hi
  have HI := Lib.hid hi
  have HR := Lib.hid hr
  clear hi hr hl
  go_enter Tryz.func134, Tryz.ntmps134
  go_wp2_with (go_at_call 144; refine (HC.out _ (by simp) (cell_new _ _ _ 0)).mono ?_; rw [HI.out]; rintro e w' ⟨rfl, hb⟩)
  go_ret
  exact ⟨ret_int (by rw [HR.out]), ((Ext.refl w).alloc _).trans hb⟩
 ·rw [if_neg hr] at hi
  have HI := Lib.hid hi
  clear hi hl
  go_enter Tryz.func134, Tryz.ntmps134
  go_wp2_with (go_at_call 144; refine (HC.out _ (by simp) (cell_new _ _ _ 0)).mono ?_; rw [HI.out]; rintro e w' ⟨rfl, hb⟩)
  go_ret
  exact ⟨rfl, ((Ext.refl w).alloc _).trans hb⟩
end Go.Proofs.YtfbhchpbflaphaaGreatDoor

namespace Go.Proofs.YtfbhchpbflaphaaGreatDoor
open Go.RowKit Go.Lib
theorem numOk_iff (s : ByteArray) (h0 : 0 < s.size) : K.numOk s.data.toList = (decide (K.run false s.data.toList = s.size) && !(decide (1 < s.size) && decide ((s[0].toNat : Int) = 48))) := by
 obtain ⟨p1, p2, p3⟩ := str_pos s h0
 have hl : s.data.toList.length = s.size := by simp
 have h1 : s.data.toList ≠ [] := by rw [p3]; simp
 have h2 : (s.data.toList[0]? = some 48) ↔ ((s[0].toNat : Int) = 48) := by
  rw [p3]
  simp only [List.getElem?_cons_zero, Option.some.injEq]
  constructor
  ·intro h; rw [h]; rfl
  ·intro h
   apply UInt8.toNat.inj
   have : s[0].toNat = 48 := by omega
   rw [this]; rfl
 unfold K.numOk
 rw [hl]
 simp only [h1, ne_eq, not_false_eq_true, decide_true, Bool.true_and, h2]
set_option maxHeartbeats 1000000 in
theorem Number_any (s : ByteArray) (w : World) (hs : s.size <= 9223372036854775807) :
 Calls Tryz.prog 136 #[.string s] w (Al (.tuple #[.int .u32 ((K.number s.data.toList).1 : Nat), .int .i64 (K.number s.data.toList).2]) w) := by
 have hl : s.data.toList.length = s.size := by simp
 by_cases h0 : 0 < s.size
 ·obtain ⟨p1, p2, p3⟩ := str_pos s h0
  have hok := numOk_iff s h0
  by_cases hr : K.run false s.data.toList = s.size
  ·have e1 : ((K.run false s.data.toList : Int) != (s.size : Int)) = false := by rw [hr]; simp
   have HE1 := Lib.hid e1
   by_cases h1 : 1 < s.size /\ (s[0].toNat : Int) = 48
   ·have hn : Hid (K.number s.data.toList = (0, 4)) := by
     unfold Hid K.number
     rw [if_neg]
     rw [hok]
     simp [h1]
    have e2 : ((s[0].toNat : Int) == 48) = true := by simpa using h1.2
    have e3 : 1 < s.size := h1.1
    have HR := Lib.hid hr
    clear h1 hok hl p3 hr e1
    go_enter Tryz.func136, Tryz.ntmps136
    go_wp2_with (go_at_call 134; refine (run_any _ _ _).mono ?_; rw [HR.out]; rintro e w1 ⟨rfl, d1⟩)
    go_ret2
    exact ⟨by rw [hn.out]; rfl, d1⟩
   ·have hok' : K.numOk s.data.toList = true := by
     rw [hok]
     simp only [hr, decide_true, Bool.true_and]
     rcases Decidable.em (1 < s.size) with h3 | h3
     ·have : ¬ (s[0].toNat : Int) = 48 := fun h => h1 ⟨h3, h⟩
      simp [this]
     ·simp [h3]
    have hn : Hid (K.number s.data.toList = if 4294967295 < K.val s.data.toList then (0, 3) else (K.val s.data.toList, 0)) := by
     unfold Hid K.number
     rw [if_pos hok']
    have hdig : Hid (∀ k (h : k < s.size), 48 <= s[k].toNat /\ s[k].toNat <= 57) := by
     intro k h
     have := K.runWithin false s.data.toList k (by omega) (by omega)
     have e : s.data.toList[k]'(by omega) = s[k] := rfl
     rw [e] at this
     simp [K.word, K.wordN, K.digitN] at this
     omega
    have hts : Hid (∀ k (h : k < s.size), K.val (s.data.toList.take (k + 1)) = 10 * K.val (s.data.toList.take k) + (s[k].toNat - 48)) := by
     intro k h
     rw [List.take_succ_eq_append_getElem (by omega), K.val_snoc]
     rfl
    have hvt : Hid (∀ k, K.val (s.data.toList.take k) <= K.val s.data.toList) := fun k => K.val_take _ _
    have hv0 : Hid (K.val (s.data.toList.take 0) = 0) := rfl
    have hall : Hid (s.data.toList.take s.size = s.data.toList) := List.take_of_length_le (by omega)
    have HR := Lib.hid hr
    clear hok hok' hl p3 hr e1
    by_cases h3 : 1 < s.size
    all_goals
     first
      | have e2 : ((s[0].toNat : Int) == 48) = false := by simp; omega
      | skip
     go_enter Tryz.func136, Tryz.ntmps136
     go_wp2_with (go_at_call 134; refine (run_any _ _ _).mono ?_; rw [HR.out]; rintro e w1 ⟨rfl, d1⟩)
     go_loopw [4] (fun n wr => ∃ k : Nat, k <= s.size /\ K.val (s.data.toList.take k) <= 4294967295 /\ n = .int .u64 ((K.val (s.data.toList.take k) : Nat) : Int) /\ wr = w1.iter s k) (fun _ wr => s.size - wr.iterPos w1.heap.size)
     case atStart => exact ⟨0, Nat.zero_le _, by rw [hv0.out]; omega, by rw [hv0.out]; rfl, rfl⟩
     case round =>
      obtain ⟨k, hk, hvk, rfl, rfl⟩ := hrel
      by_cases hlt : k < s.size
      ·obtain ⟨g1, g2⟩ := hdig.out k hlt
       have hnx := fun ty => run_next_ascii (P := Tryz.prog) w1 s k ty hlt (by omega)
       have hst := hts.out k hlt
       generalize K.val (s.data.toList.take k) = v at *
       generalize s[k].toNat = c at *
       have HST := Lib.hid hst
       clear hst
       have HVT := hvt.out (k + 1)
       by_cases hbig : 4294967295 < 10 * v + (c - 48)
       ·go_wp2_with fail
        go_ret2
        exact ⟨by rw [hn.out, if_pos (by have := HST.out; omega)]; rfl, d1.alloc _⟩
       ·go_wp2_with fail
        go_roundw
        case rel => exact ⟨k + 1, by omega, by rw [HST.out]; omega, by rw [HST.out]; exact congrArg (Value.int .u64) (by omega), rfl⟩
        case measure => simp; omega
      ·obtain rfl : k = s.size := by omega
       have hnx := fun ty => run_next_end (P := Tryz.prog) w1 s s.size ty hlt
       rw [hall.out] at hvk ⊢
       go_wp2_with fail
       go_ret2
       exact ⟨by rw [hn.out, if_neg (by omega)]; rfl, d1.alloc _⟩
  ·have hn : Hid (K.number s.data.toList = (0, 4)) := by
    unfold Hid K.number
    rw [if_neg]
    rw [hok]
    simp [hr]
   have e1 : ((K.run false s.data.toList : Int) != (s.size : Int)) = true := by simp; omega
   clear hok hl p3 hr
   go_enter Tryz.func136, Tryz.ntmps136
   go_wp2_with (go_at_call 134; refine (run_any _ _ _).mono ?_; rintro e w1 ⟨rfl, d1⟩)
   go_ret2
   exact ⟨by rw [hn.out]; rfl, d1⟩
 ·have he : s.data.toList = [] := List.eq_nil_of_length_eq_zero (by omega)
  have hn : Hid (K.number s.data.toList = (0, 4)) := by rw [he]; rfl
  have e1 : s.toList.isEmpty = true := by rw [ByteArray.toList_eq, he]; rfl
  clear he hl
  go_enter Tryz.func136, Tryz.ntmps136
  go_wp2
  go_ret2
  exact ⟨by rw [hn.out]; rfl, Ext.refl _⟩
end Go.Proofs.YtfbhchpbflaphaaGreatDoor

namespace Go.Proofs.YtfbhchpbflaphaaGreatDoor
open Go.RowKit Go.Lib
def tokV (k : Int) (t : ByteArray) : Value := .agg #[.int .i64 k, .string t]
def nextV (s : ByteArray) : Value := .tuple #[tokV (K.nxt s.data.toList).1 (s.extract 0 (K.nxt s.data.toList).2.1), .int .i64 (K.nxt s.data.toList).2.2]
theorem nextV_of {s : ByteArray} {k : Int} {n : Nat} {e : Int} (h : K.nxt s.data.toList = (k, n, e)) : nextV s = .tuple #[.agg #[.int .i64 k, .string (s.extract 0 n)], .int .i64 e] := by
 unfold nextV tokV
 rw [h]
theorem extract_none (s : ByteArray) : s.extract 0 0 = ⟨#[]⟩ := by rw [ByteArray.extract_same]; rfl
theorem nextV_err {s : ByteArray} {e : Int} (h : K.nxt s.data.toList = (0, 0, e)) : nextV s = .tuple #[.agg #[.int .i64 0, .string ⟨#[]⟩], .int .i64 e] := by
 rw [nextV_of h, extract_none]
theorem Number_x (s : ByteArray) (n : Nat) (w : World) (hs : s.size <= 9223372036854775807) :
 Calls Tryz.prog 136 #[.string (s.extract 0 n)] w (Al (.tuple #[.int .u32 ((K.number (s.data.toList.take n)).1 : Nat), .int .i64 (K.number (s.data.toList.take n)).2]) w) := by
 have h := Number_any (s.extract 0 n) w (by have := ByteArray.size_extract (a := s) (b := 0) (e := n); omega)
 have e : (s.extract 0 n).data.toList = s.data.toList.take n := by rw [Lib.extract_data]; simp
 rwa [e] at h
theorem letter_is (n : Int) (b : Bool) (w : World) (h : K.letterN n = b) : Calls Tryz.prog 133 #[.int .i32 n] w fun e w' => e = .returned (.bool b) /\ w = w' := h ▸ letter_any n w
theorem digit_is (n : Int) (b : Bool) (w : World) (h : K.digitN n = b) : Calls Tryz.prog 135 #[.int .i32 n] w fun e w' => e = .returned (.bool b) /\ w = w' := h ▸ digit_any n w
theorem box2 {w w1 : World} {a b : Value} {T : TypeId} (h : Ext (w.alloc (.cells #[a, b] T)) w1) :
 w1.cell? ⟨w.heap.size, 0, none⟩ = some a /\ w1.cell? ⟨w.heap.size, 1, none⟩ = some b /\ w1.frozen? ⟨w.heap.size, 0, none⟩ = false /\ w1.frozen? ⟨w.heap.size, 1, none⟩ = false /\ w.heap.size < w1.heap.size := by
 have hs : w.heap.size < (w.alloc (.cells #[a, b] T)).heap.size := by simp
 refine ⟨?_, ?_, ?_, ?_, Nat.lt_of_lt_of_le hs h.size⟩
 ·rw [h.cell hs]; exact cell_new _ _ _ 0
 ·rw [h.cell hs]; exact cell_new _ _ _ 1
 ·rw [Below.frozen h hs]; simp
 ·rw [Below.frozen h hs]; simp
theorem box2_ext {w w1 : World} {a b : Value} {T : TypeId} (h : Ext (w.alloc (.cells #[a, b] T)) w1) : Ext w w1 := ((Ext.refl w).alloc _).trans h
theorem nxt_eq (s : ByteArray) (h0 : 0 < s.size) : K.nxt s.data.toList =
 if K.letterN s[0].toNat = true then (if 32 < K.run true s.data.toList then (0, 0, 2) else (1, K.run true s.data.toList, 0))
 else if K.digitN s[0].toNat = true then
  (if (K.number (s.data.toList.take (K.run false s.data.toList))).2 ≠ 0 then (0, 0, (K.number (s.data.toList.take (K.run false s.data.toList))).2)
   else if ((s.data.toList.drop (K.run false s.data.toList)).head?.map K.letter).getD false = true then (0, 0, 4) else (2, K.run false s.data.toList, 0))
 else if K.sym s.data.toList = 0 then (0, 0, 4) else (3, K.sym s.data.toList, 0) := by
 obtain ⟨p1, p2, p3⟩ := str_pos s h0
 generalize hl : s.data.toList = l at *
 rw [p3]
 rfl
set_option maxRecDepth 4000 in
set_option maxHeartbeats 1000000 in
theorem next_any (s : ByteArray) (w : World) (h0 : 0 < s.size) (hs : s.size <= 9223372036854775807) : Calls Tryz.prog 111 #[.string s] w (Al (nextV s) w) := by
 have hx := nxt_eq s h0
 have hl : s.data.toList.length = s.size := by simp
 have hb0 : s[0].toNat <= 255 := by have := s[0].toNat_lt; omega
 by_cases hlt : K.letterN s[0].toNat = true
 ·rw [if_pos hlt] at hx
  obtain ⟨n, hn⟩ : ∃ n, n = K.run true s.data.toList := ⟨_, rfl⟩
  have hns : n <= s.size := by have := K.run_le true s.data.toList; omega
  rw [<- hn] at hx
  have HL := Lib.hid hlt
  have HN := Lib.hid hn
  clear hlt hn hl
  by_cases h32 : 32 < n
  ·rw [if_pos h32] at hx
   have HV := Lib.hid (nextV_err hx)
   clear hx
   go_enter Tryz.func111, Tryz.ntmps111
   go_wp2_with (first | (go_at_call 133; refine (letter_is _ _ _ HL.out).mono ?_; rintro e w' ⟨rfl, rfl⟩) | (go_at_call 134; refine (run_any _ _ _).mono ?_; rw [<- HN.out]; rintro e w1 ⟨rfl, d1⟩; obtain ⟨c0, c1, f0, f1, hsz⟩ := box2 d1))
   exact bodyPost_ret (v := .tuple #[.agg #[.int .i64 0, .string ⟨#[]⟩], .int .i64 2]) (by simp [results, Tryz.results111, go_sem, c0, c1]) rfl ⟨by rw [HV.out], ((box2_ext d1).setCell (Nat.le_refl _) _).setCell (Nat.le_refl _) _⟩
  ·rw [if_neg h32] at hx
   have HV := Lib.hid (nextV_of hx)
   clear hx
   go_enter Tryz.func111, Tryz.ntmps111
   go_wp2_with (first | (go_at_call 133; refine (letter_is _ _ _ HL.out).mono ?_; rintro e w' ⟨rfl, rfl⟩) | (go_at_call 134; refine (run_any _ _ _).mono ?_; rw [<- HN.out]; rintro e w1 ⟨rfl, d1⟩; obtain ⟨c0, c1, f0, f1, hsz⟩ := box2 d1))
   exact bodyPost_ret (v := .tuple #[.agg #[.int .i64 1, .string (s.extract 0 n)], .int .i64 0]) (by simp [results, Tryz.results111, go_sem, c0, c1]) rfl ⟨by rw [HV.out], ((box2_ext d1).setCell (Nat.le_refl _) _).setCell (Nat.le_refl _) _⟩
 ·have hltf : K.letterN s[0].toNat = false := by simpa using hlt
  rw [if_neg hlt] at hx
  by_cases hdg : K.digitN s[0].toNat = true
  ·rw [if_pos hdg] at hx
   obtain ⟨n, hn⟩ : ∃ n, n = K.run false s.data.toList := ⟨_, rfl⟩
   have hns : n <= s.size := by have := K.run_le false s.data.toList; omega
   rw [<- hn] at hx
   obtain ⟨v, e0, hve⟩ : ∃ v e0, K.number (s.data.toList.take n) = (v, e0) := ⟨_, _, rfl⟩
   rw [hve] at hx
   have HL := Lib.hid hltf
   have HD := Lib.hid hdg
   have HN := Lib.hid hn
   have HVE := Lib.hid hve
   have hgd : Hid (((s.data.toList.drop n).head?.map K.letter).getD false = if h : n < s.size then K.letterN s[n].toNat else false) := by
    unfold Hid
    split
    ·rename_i h
     rw [List.drop_eq_getElem_cons (by omega)]
     rfl
    ·rw [List.drop_eq_nil_of_le (by omega)]
     rfl
   clear hlt hltf hdg hn hve
   by_cases he : e0 = 0
   ·subst he
    rw [if_neg (by simp)] at hx
    by_cases hlt : n < s.size
    ·have hbn : s[n].toNat <= 255 := by have := s[n].toNat_lt; omega
     rw [hgd.out, dif_pos hlt] at hx
     by_cases hl2 : K.letterN s[n].toNat = true
     ·rw [if_pos hl2] at hx
      have HV := Lib.hid (nextV_err hx)
      have HL2 := Lib.hid hl2
      clear hx hl2 hl
      go_enter Tryz.func111, Tryz.ntmps111
      go_wp2_with fail
      refine (letter_is _ _ _ HL.out).mono ?_
      rintro e w' ⟨rfl, rfl⟩
      go_wp2_with (first | (go_at_call 135; refine (digit_is _ _ _ HD.out).mono ?_; rintro e w' ⟨rfl, rfl⟩) | (go_at_call 134; refine (run_any _ _ _).mono ?_; rw [<- HN.out]; rintro e w1 ⟨rfl, d1⟩))
      refine (Number_x _ _ _ hs).mono ?_
      rw [HVE.out]
      rintro e w2 ⟨rfl, d2⟩
      have d3 := Ext.trans d1 d2
      obtain ⟨c0, c1, f0, f1, hsz⟩ := box2 d3
      go_wp2_with fail
      refine (letter_is _ _ _ HL2.out).mono ?_
      rintro e w' ⟨rfl, rfl⟩
      go_wp2_with fail
      exact bodyPost_ret (v := .tuple #[.agg #[.int .i64 0, .string ⟨#[]⟩], .int .i64 4]) (by simp [results, Tryz.results111, go_sem, c0, c1]) rfl ⟨by rw [HV.out], ((box2_ext d3).setCell (Nat.le_refl _) _).setCell (Nat.le_refl _) _⟩
     ·have hl2f : K.letterN s[n].toNat = false := by simpa using hl2
      rw [if_neg hl2] at hx
      have HV := Lib.hid (nextV_of hx)
      have HL2 := Lib.hid hl2f
      clear hx hl2 hl2f hl
      go_enter Tryz.func111, Tryz.ntmps111
      go_wp2_with fail
      refine (letter_is _ _ _ HL.out).mono ?_
      rintro e w' ⟨rfl, rfl⟩
      go_wp2_with (first | (go_at_call 135; refine (digit_is _ _ _ HD.out).mono ?_; rintro e w' ⟨rfl, rfl⟩) | (go_at_call 134; refine (run_any _ _ _).mono ?_; rw [<- HN.out]; rintro e w1 ⟨rfl, d1⟩))
      refine (Number_x _ _ _ hs).mono ?_
      rw [HVE.out]
      rintro e w2 ⟨rfl, d2⟩
      have d3 := Ext.trans d1 d2
      obtain ⟨c0, c1, f0, f1, hsz⟩ := box2 d3
      go_wp2_with fail
      refine (letter_is _ _ _ HL2.out).mono ?_
      rintro e w' ⟨rfl, rfl⟩
      go_wp2_with fail
      exact bodyPost_ret (v := .tuple #[.agg #[.int .i64 2, .string (s.extract 0 n)], .int .i64 0]) (by simp [results, Tryz.results111, go_sem, c0, c1]) rfl ⟨by rw [HV.out], ((box2_ext d3).setCell (Nat.le_refl _) _).setCell (Nat.le_refl _) _⟩
    ·rw [hgd.out, dif_neg hlt, if_neg (by simp)] at hx
     have HV := Lib.hid (nextV_of hx)
     clear hx hl
     go_enter Tryz.func111, Tryz.ntmps111
     go_wp2_with fail
     refine (letter_is _ _ _ HL.out).mono ?_
     rintro e w' ⟨rfl, rfl⟩
     go_wp2_with (first | (go_at_call 135; refine (digit_is _ _ _ HD.out).mono ?_; rintro e w' ⟨rfl, rfl⟩) | (go_at_call 134; refine (run_any _ _ _).mono ?_; rw [<- HN.out]; rintro e w1 ⟨rfl, d1⟩))
     refine (Number_x _ _ _ hs).mono ?_
     rw [HVE.out]
     rintro e w2 ⟨rfl, d2⟩
     have d3 := Ext.trans d1 d2
     obtain ⟨c0, c1, f0, f1, hsz⟩ := box2 d3
     go_wp2_with fail
     exact bodyPost_ret (v := .tuple #[.agg #[.int .i64 2, .string (s.extract 0 n)], .int .i64 0]) (by simp [results, Tryz.results111, go_sem, c0, c1]) rfl ⟨by rw [HV.out], ((box2_ext d3).setCell (Nat.le_refl _) _).setCell (Nat.le_refl _) _⟩
   ·rw [if_pos he] at hx
    have HV := Lib.hid (nextV_err hx)
    have t1 : (e0 != 0) = true := by simpa using he
    clear hx hl he
    go_enter Tryz.func111, Tryz.ntmps111
    go_wp2_with fail
    refine (letter_is _ _ _ HL.out).mono ?_
    rintro e w' ⟨rfl, rfl⟩
    go_wp2_with (first | (go_at_call 135; refine (digit_is _ _ _ HD.out).mono ?_; rintro e w' ⟨rfl, rfl⟩) | (go_at_call 134; refine (run_any _ _ _).mono ?_; rw [<- HN.out]; rintro e w1 ⟨rfl, d1⟩))
    refine (Number_x _ _ _ hs).mono ?_
    rw [HVE.out]
    rintro e w2 ⟨rfl, d2⟩
    have d3 := Ext.trans d1 d2
    obtain ⟨c0, c1, f0, f1, hsz⟩ := box2 d3
    go_wp2_with fail
    exact bodyPost_ret (v := .tuple #[.agg #[.int .i64 0, .string ⟨#[]⟩], .int .i64 e0]) (by simp [results, Tryz.results111, go_sem, c0, c1]) rfl ⟨by rw [HV.out], ((box2_ext d3).setCell (Nat.le_refl _) _).setCell (Nat.le_refl _) _⟩
  ·have hdgf : K.digitN s[0].toNat = false := by simpa using hdg
   rw [if_neg hdg] at hx
   obtain ⟨m, hm⟩ : ∃ m, m = K.sym s.data.toList := ⟨_, rfl⟩
   rw [<- hm] at hx
   have HL := Lib.hid hltf
   have HD := Lib.hid hdgf
   have HM := Lib.hid hm
   have hll : (s.extract 0 m).toList = s.data.toList.take m := by rw [ByteArray.toList_eq, Lib.extract_data]; simp
   clear hlt hltf hdg hdgf hm
   by_cases h0m : m = 0
   ·rw [if_pos h0m] at hx
    have HV := Lib.hid (nextV_err hx)
    have t1 : (s.extract 0 m).toList.isEmpty = true := by rw [hll, h0m]; simp
    have t2 : (s.extract 0 m).toList = [] := by rw [hll, h0m]; simp
    clear hx hl hll h0m
    go_enter Tryz.func111, Tryz.ntmps111
    go_wp2_with (first | (go_at_call 133; refine (letter_is _ _ _ HL.out).mono ?_; rintro e w' ⟨rfl, rfl⟩) | (go_at_call 135; refine (digit_is _ _ _ HD.out).mono ?_; rintro e w' ⟨rfl, rfl⟩) | (go_at_call 137; refine (symbol_any _ _ h0).mono ?_; rw [<- HM.out]; rintro e w' ⟨rfl, rfl⟩))
    exact bodyPost_ret (v := .tuple #[.agg #[.int .i64 0, .string ⟨#[]⟩], .int .i64 4]) (by simp [results, Tryz.results111, go_sem]) rfl ⟨by rw [HV.out], (Ext.refl _).alloc _⟩
   ·rw [if_neg h0m] at hx
    have HV := Lib.hid (nextV_of hx)
    have t1 : (s.extract 0 m).toList.isEmpty = false := by
     rw [hll]
     cases hc : s.data.toList with
     | nil => rw [hc] at hl; simp at hl; omega
     | cons a l =>
      cases m with
      | zero => exact absurd rfl h0m
      | succ m => rfl
    have t2 : ¬ (s.extract 0 m).toList = [] := by intro h; rw [h] at t1; cases t1
    clear hx hl hll h0m
    go_enter Tryz.func111, Tryz.ntmps111
    go_wp2_with (first | (go_at_call 133; refine (letter_is _ _ _ HL.out).mono ?_; rintro e w' ⟨rfl, rfl⟩) | (go_at_call 135; refine (digit_is _ _ _ HD.out).mono ?_; rintro e w' ⟨rfl, rfl⟩) | (go_at_call 137; refine (symbol_any _ _ h0).mono ?_; rw [<- HM.out]; rintro e w' ⟨rfl, rfl⟩))
    exact bodyPost_ret (v := .tuple #[.agg #[.int .i64 3, .string (s.extract 0 m)], .int .i64 0]) (by simp [results, Tryz.results111, go_sem]) rfl ⟨by rw [HV.out], (Ext.refl _).alloc _⟩
end Go.Proofs.YtfbhchpbflaphaaGreatDoor

namespace Go.Proofs.YtfbhchpbflaphaaGreatDoor
open Go.RowKit Go.Lib
def str (l : List UInt8) : ByteArray := ⟨l.toArray⟩
theorem size_list (s : ByteArray) : s.data.toList.length = s.size := by simp
namespace K
theorem sym_pos (l : List UInt8) : sym l <= 2 /\ (sym l <= l.length) := by
 cases l with
 | nil => simp [sym]
 | cons c l =>
  rw [sym]
  split
  ·rename_i h
   unfold isSym2 at h
   have hm : (c :: l).take 2 ∈ syms2 := by simpa using h
   have hlen : ((c :: l).take 2).length = 2 := by
    simp only [syms2, List.mem_cons, List.not_mem_nil, or_false] at hm
    rcases hm with h | h | h | h | h | h | h | h <;> rw [h] <;> rfl
   rw [List.length_take] at hlen
   omega
  ·split <;> simp
theorem nxt_len (l : List UInt8) (h : (nxt l).2.2 = 0) : 0 < (nxt l).2.1 /\ (nxt l).2.1 <= l.length := by
 cases l with
 | nil => simp [nxt] at h
 | cons c l =>
  have hr := fun b => run_le b (c :: l)
  revert h
  rw [nxt]
  split
  ·rename_i hc
   split
   ·intro h; simp at h
   ·intro _
    refine ⟨?_, hr true⟩
    show 0 < run true (c :: l)
    rw [run_cons, if_pos (by unfold letter at hc; simp [word, wordN, hc])]
    omega
  ·split
   ·rename_i hc
    split
    ·rename_i he
     intro h; exact absurd h he
    ·split
     ·intro h; simp at h
     ·intro _
      refine ⟨?_, hr false⟩
      show 0 < run false (c :: l)
      rw [run_cons, if_pos (by unfold digit at hc; simp [word, wordN, hc])]
      omega
   ·split
    ·intro h; simp at h
    ·rename_i h0
     intro _
     exact ⟨Nat.pos_of_ne_zero h0, (sym_pos (c :: l)).2⟩
end K
end Go.Proofs.YtfbhchpbflaphaaGreatDoor

namespace Go.Proofs.YtfbhchpbflaphaaGreatDoor
open Go.RowKit Go.Lib
def K.valid (k : Int) (l : List UInt8) : Bool := decide (K.nxt l = (k, l.length, 0))
theorem K.valid_nil (k : Int) : K.valid k [] = false := by simp [K.valid, K.nxt]
set_option maxHeartbeats 1000000 in
theorem valid_any (k : Int) (s : ByteArray) (w : World) (hs : s.size <= 9223372036854775807) : Calls Tryz.prog 78 #[.agg #[.int .i64 k, .string s]] w (Al (.bool (K.valid k s.data.toList)) w) := by
 by_cases h0 : 0 < s.size
 ·obtain ⟨p1, p2, p3⟩ := str_pos s h0
  obtain ⟨k2, m, er, hnx⟩ : ∃ k m er, K.nxt s.data.toList = (k, m, er) := ⟨_, _, _, rfl⟩
  have HV := Lib.hid (nextV_of hnx)
  have hvd : Hid (K.valid k s.data.toList = decide ((k2, m, er) = (k, s.size, (0 : Int)))) := by unfold Hid K.valid; rw [hnx, size_list]
  have hml : er = 0 -> m <= s.size := fun h => by have := (K.nxt_len s.data.toList (by rw [hnx]; exact h)).2; rw [hnx, size_list] at this; exact this
  clear p3 hnx
  by_cases he : er = 0
  ·subst he
   have hm := hml rfl
   have key : ∀ (h1 : k2 = k) (b2 : Bool), (decide (m = s.size)) = b2 -> Calls Tryz.prog 78 #[.agg #[.int .i64 k, .string s]] w (Al (.bool (K.valid k s.data.toList)) w) := by
    intro h1 b2 hb2
    subst h1
    cases b2
    ·have hne : ¬ (s.extract 0 m).toList = s.toList := by
      intro h
      rw [ByteArray.toList_eq, ByteArray.toList_eq, Lib.extract_data] at h
      have := congrArg List.length h
      rw [decide_eq_false_iff_not] at hb2
      simp at this
      omega
     have hv : Hid (K.valid k2 s.data.toList = false) := by
      unfold Hid
      rw [hvd.out]
      simp at hb2 ⊢
      exact hb2
     have HM := Lib.hid hb2
     clear hb2
     go_enter Tryz.func78, Tryz.ntmps78
     go_wp2_with fail
     refine (next_any _ _ h0 hs).mono ?_
     rw [HV.out]
     rintro e w1 ⟨rfl, d1⟩
     have c0 : w1.cell? ⟨w.heap.size, 0, none⟩ = some (.int .i64 k2) := d1.keepc (cell_new w #[.int .i64 k2, .string s] 156 0)
     have c1 : w1.cell? ⟨w.heap.size, 1, none⟩ = some (.string s) := d1.keepc (cell_new w #[.int .i64 k2, .string s] 156 1)
     have hsz : w.heap.size < w1.heap.size := by have := d1.size; simp at this; omega
     go_wp2_with fail
     go_ret
     exact ⟨by rw [hv.out]; rfl, (((Ext.refl w).alloc _).trans d1).alloc _⟩
    ·have hne : (s.extract 0 m).toList = s.toList := by
      rw [ByteArray.toList_eq, ByteArray.toList_eq, Lib.extract_data]
      rw [decide_eq_true_eq] at hb2
      rw [hb2, List.drop_zero, Nat.sub_zero]
      exact List.take_of_length_le (by simp)
     have hv : Hid (K.valid k2 s.data.toList = true) := by
      unfold Hid
      rw [hvd.out]
      simp at hb2 ⊢
      exact hb2
     have HM := Lib.hid hb2
     clear hb2
     go_enter Tryz.func78, Tryz.ntmps78
     go_wp2_with fail
     refine (next_any _ _ h0 hs).mono ?_
     rw [HV.out]
     rintro e w1 ⟨rfl, d1⟩
     have c0 : w1.cell? ⟨w.heap.size, 0, none⟩ = some (.int .i64 k2) := d1.keepc (cell_new w #[.int .i64 k2, .string s] 156 0)
     have c1 : w1.cell? ⟨w.heap.size, 1, none⟩ = some (.string s) := d1.keepc (cell_new w #[.int .i64 k2, .string s] 156 1)
     have hsz : w.heap.size < w1.heap.size := by have := d1.size; simp at this; omega
     go_wp2_with fail
     go_ret
     exact ⟨by rw [hv.out]; rfl, (((Ext.refl w).alloc _).trans d1).alloc _⟩
   by_cases hk : k2 = k
   ·exact key hk _ rfl
   ·have hv : Hid (K.valid k s.data.toList = false) := by
     unfold Hid
     rw [hvd.out]
     simp [hk]
    clear key
    go_enter Tryz.func78, Tryz.ntmps78
    go_wp2_with fail
    refine (next_any _ _ h0 hs).mono ?_
    rw [HV.out]
    rintro e w1 ⟨rfl, d1⟩
    have c0 : w1.cell? ⟨w.heap.size, 0, none⟩ = some (.int .i64 k) := d1.keepc (cell_new w #[.int .i64 k, .string s] 156 0)
    have c1 : w1.cell? ⟨w.heap.size, 1, none⟩ = some (.string s) := d1.keepc (cell_new w #[.int .i64 k, .string s] 156 1)
    have hsz : w.heap.size < w1.heap.size := by have := d1.size; simp at this; omega
    go_wp2_with fail
    go_ret
    exact ⟨by rw [hv.out]; rfl, (((Ext.refl w).alloc _).trans d1).alloc _⟩
  ·have hv : Hid (K.valid k s.data.toList = false) := by
    unfold Hid
    rw [hvd.out]
    simp [he]
   have t1 : (er == 0) = false := by simpa using he
   clear he hml
   go_enter Tryz.func78, Tryz.ntmps78
   go_wp2_with fail
   refine (next_any _ _ h0 hs).mono ?_
   rw [HV.out]
   rintro e w1 ⟨rfl, d1⟩
   go_wp2_with fail
   go_ret
   exact ⟨by rw [hv.out]; rfl, (((Ext.refl w).alloc _).trans d1).alloc _⟩
 ·have he : s.data.toList = [] := List.eq_nil_of_length_eq_zero (by rw [size_list]; omega)
  have p1 : s.toList = [] := by rw [ByteArray.toList_eq, he]
  have p2 : s.toList.isEmpty = true := by rw [p1]; rfl
  have hv : Hid (K.valid k s.data.toList = false) := by rw [he]; exact K.valid_nil k
  clear he
  go_enter Tryz.func78, Tryz.ntmps78
  go_wp2_with fail
  go_ret
  exact ⟨by rw [hv.out]; rfl, (Ext.refl _).alloc _⟩
end Go.Proofs.YtfbhchpbflaphaaGreatDoor
