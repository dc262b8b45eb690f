/- The texts Eng Seg Enf Enq Tre of the seat, joined. -/
import Derived.Test.YtkeaoejgboefbaaGreatDoorG1
import Derived.Lib.ItoaNum
import Derived.Lib.SplitLaws
import Derived.Lib.Replace
import Derived.Laws.RangeAny
import Derived.Laws.RangeString
import Derived.Shelf.GgClosure.StringsIndexFunc
import Derived.Lib.Join
import Derived.Lib.IndexMore
import Derived.Lib.SlicesCompact
/- How a cell is brought up to date: what is kept, what is computed again; the same answers as from scratch. No program in sight. -/
namespace Go.Proofs.YtkeaoejgboefbaaGreatDoor.E

abbrev Nm := ByteArray
abbrev V := Option ByteArray
/-- A cell: its name, its operation, its arguments, its text. -/
abbrev Cell := ByteArray × (Int × (List ByteArray × ByteArray))
/-- A formula, as it reads: a value, or a name to read and what follows. -/
inductive Pr where
  | ret (v : V)
  | ask (n : Nm) (k : V → Pr)
/-- What is kept of a formula: its value, its reads, the revision in which it was right. -/
structure Memo where
  res : V
  reads : List (Nm × V)
  at' : Nat
abbrev Ms := Nm → Option Memo
def put (M : Ms) (n : Nm) (m : Memo) : Ms := fun x => if x = n then some m else M x
theorem put_same (M : Ms) (n : Nm) (m : Memo) : put M n m n = some m := if_pos rfl
theorem put_other {M : Ms} {n x : Nm} {m : Memo} (h : x ≠ n) : put M n m x = M x := if_neg h
structure St where
  ms : Ms
  cnt : Nat
/-- A run of a formula: its reads and its value. -/
inductive Trace : Pr → List (Nm × V) → V → Prop
  | ret (v : V) : Trace (.ret v) [] v
  | ask (n : Nm) (k : V → Pr) (v : V) (rs : List (Nm × V)) (u : V) : Trace (k v) rs u → Trace (.ask n k) ((n, v) :: rs) u
def runP (get : St → Nm → Except Int (V × St)) : Pr → St → List (Nm × V) → Except Int (V × List (Nm × V) × St)
  | .ret v, S, rs => .ok (v, rs, S)
  | .ask n k, S, rs => match get S n with
    | .error e => .error e
    | .ok (v, S') => runP get (k v) S' (rs ++ [(n, v)])
/-- The reads again: whether one has another value. -/
def staleP (get : St → Nm → Except Int (V × St)) : List (Nm × V) → St → Except Int (Bool × St)
  | [], S => .ok (false, S)
  | (n, f) :: rs, S => match get S n with
    | .error e => .error e
    | .ok (v, S') => if v = f then staleP get rs S' else .ok (true, S')
def runF (get : Nm → Except Int V) : Pr → Except Int V
  | .ret v => .ok v
  | .ask n k => match get n with
    | .error e => .error e
    | .ok v => runF get (k v)
def has (l : List Nm) (n : Nm) : Bool := l.any fun x => decide (x = n)
theorem has_iff {l : List Nm} {n : Nm} : has l n = true ↔ n ∈ l := by
  unfold has
  rw [List.any_eq_true]
  constructor
  · rintro ⟨x, hx, he⟩
    rw [← of_decide_eq_true he]; exact hx
  · intro h
    exact ⟨n, h, decide_eq_true rfl⟩
theorem has_not {l : List Nm} {n : Nm} (h : n ∉ l) : has l n = false := by
  rw [Bool.eq_false_iff]
  exact fun e => h (has_iff.1 e)
def big (v : V) : Bool := match v with | none => false | some s => decide (65536 < s.size)
def eLoop : Int := 12
def eLarge : Int := 10

section
variable (cells : Nm → Option Cell) (vals : Nm → V) (rev : Nat) (prog : Cell → Pr)
def isIn (c : Cell) : Bool := c.2.1 == 1
def formB (n : Nm) : Bool := match cells n with | none => false | some c => !isIn c
/-- A formula is computed. -/
def comp (get : St → Nm → Except Int (V × St)) (S : St) (n : Nm) (c : Cell) : Except Int (V × St) := match runP get (prog c) S [] with
  | .error e => .error e
  | .ok (v, rs, S') => if big v then .error eLarge else .ok (v, ⟨put S'.ms n ⟨v, rs, rev⟩, S'.cnt + 1⟩)
/-- A cell is brought up to date; opn: the formulas on the way. -/
def val : Nat → List Nm → St → Nm → Except Int (V × St)
  | 0, _, _, _ => .error 0
  | k + 1, opn, S, n => match cells n with
    | none => .ok (none, S)
    | some c => if isIn c then .ok (vals n, S) else if has opn n then .error eLoop else match S.ms n with
      | none => comp rev prog (val k (n :: opn)) S n c
      | some m => if m.at' = rev then .ok (m.res, S) else match staleP (val k (n :: opn)) m.reads S with
        | .error e => .error e
        | .ok (false, S') => .ok (m.res, ⟨put S'.ms n ⟨m.res, m.reads, rev⟩, S'.cnt⟩)
        | .ok (true, S') => comp rev prog (val k (n :: opn)) S' n c
/-- From scratch. -/
def fr : Nat → List Nm → Nm → Except Int V
  | 0, _, _ => .error 0
  | k + 1, opn, n => match cells n with
    | none => .ok none
    | some c => if isIn c then .ok (vals n) else if has opn n then .error eLoop else match runF (fr k (n :: opn)) (prog c) with
      | .error e => .error e
      | .ok v => if big v then .error eLarge else .ok v

theorem trace_run {get : Nm → Except Int V} : ∀ {p : Pr} {rs : List (Nm × V)} {v : V}, Trace p rs v → (∀ r ∈ rs, get r.1 = .ok r.2) → runF get p = .ok v
  | _, _, _, .ret v, _ => rfl
  | _, _, _, .ask n k v rs u h, hr => by
    have h1 : get n = .ok v := hr (n, v) List.mem_cons_self
    rw [runF, h1]
    exact trace_run h fun r hm => hr r (List.mem_cons_of_mem _ hm)
theorem trace_err {get : Nm → Except Int V} {e : Int} {x : Nm} {f : V} {post : List (Nm × V)} : ∀ {pre : List (Nm × V)} {p : Pr} {v : V}, Trace p (pre ++ (x, f) :: post) v → (∀ r ∈ pre, get r.1 = .ok r.2) → get x = .error e → runF get p = .error e
  | [], _, _, h, _, hx => by
    cases h with
    | ask n k v rs u h => rw [runF, hx]
  | (y, g) :: pre, _, _, h, hr, hx => by
    cases h with
    | ask n k v rs u h =>
      have h1 : get y = .ok g := hr (y, g) List.mem_cons_self
      rw [runF, h1]
      exact trace_err h (fun r hm => hr r (List.mem_cons_of_mem _ hm)) hx

/-- A read that would be the same now. -/
def Good (S : St) (U : List Nm) (r : Nm × V) : Prop := match cells r.1 with
  | none => r.2 = none
  | some c => if isIn c then r.2 = vals r.1 else r.1 ∈ U ∧ ∃ m, S.ms r.1 = some m ∧ m.res = r.2
/-- U: the formulas that are up to date, in the order in which they came to be. -/
structure Inv (S : St) (opn U : List Nm) : Prop where
  nodup : U.Nodup
  apart : ∀ n ∈ U, n ∉ opn
  form : ∀ n m, S.ms n = some m → ∃ c, cells n = some c ∧ isIn c = false ∧ Trace (prog c) m.reads m.res ∧ big m.res = false
  mem : ∀ n, n ∈ U ↔ ∃ m, S.ms n = some m ∧ m.at' = rev
  le : ∀ n m, S.ms n = some m → m.at' ≤ rev
  back : ∀ i (h : i < U.length) m, S.ms U[i] = some m → ∀ r ∈ m.reads, Good cells vals S (U.take i) r
/-- What is up to date stays as it is. -/
def Keeps (S S' : St) (U : List Nm) : Prop := ∀ n ∈ U, S'.ms n = S.ms n
variable {cells vals rev prog}
theorem Keeps.refl (S : St) (U : List Nm) : Keeps S S U := fun _ _ => rfl
theorem Keeps.trans {A B C : St} {U W : List Nm} (h : Keeps A B U) (k : Keeps B C (U ++ W)) : Keeps A C U := fun n hn => (k n (List.mem_append_left _ hn)).trans (h n hn)
theorem Good.more {S S' : St} {U W : List Nm} {r : Nm × V} (h : Good cells vals S U r) (hk : Keeps S S' U) : Good cells vals S' (U ++ W) r := by
  unfold Good at h ⊢
  cases hc : cells r.1 with
  | none => rw [hc] at h; exact h
  | some c =>
    rw [hc] at h
    simp only at h ⊢
    by_cases hi : isIn c = true
    · rw [if_pos hi] at h ⊢; exact h
    · rw [if_neg hi] at h ⊢
      obtain ⟨h1, m, h2, h3⟩ := h
      exact ⟨List.mem_append_left _ h1, m, by rw [hk _ h1]; exact h2, h3⟩
theorem Good.keep {S S' : St} {U : List Nm} {r : Nm × V} (h : Good cells vals S U r) (hk : Keeps S S' U) : Good cells vals S' U r := by
  have := h.more (W := []) hk
  rwa [List.append_nil] at this
/-- The formulas, in a list; how many are not on the way. -/
def rem (fs opn : List Nm) : Nat := (fs.filter fun n => !has opn n).length
theorem rem_cons {opn : List Nm} {n : Nm} (hn : n ∉ opn) : ∀ {fs : List Nm}, n ∈ fs → rem fs (n :: opn) + 1 ≤ rem fs opn
  | [], h => by cases h
  | x :: fs, h => by
    have hc : ∀ y, has (n :: opn) y = (decide (n = y) || has opn y) := fun y => rfl
    have hle : ∀ gs : List Nm, rem gs (n :: opn) ≤ rem gs opn := fun gs => by
      unfold rem
      induction gs with
      | nil => exact Nat.le_refl _
      | cons y gs ih =>
        rw [List.filter_cons, List.filter_cons, hc]
        by_cases hy : has opn y = true
        · rw [hy]; simpa using ih
        · have hy : has opn y = false := by simpa using hy
          rw [hy]
          by_cases hn2 : n = y
          · rw [decide_eq_true hn2]; simp; omega
          · rw [decide_eq_false hn2]; simp; exact ih
    by_cases hx : x = n
    · subst hx
      have h1 := hle fs
      unfold rem at h1 ⊢
      rw [List.filter_cons, if_neg (by rw [hc]; simp), List.filter_cons, if_pos (by rw [has_not hn]; rfl), List.length_cons]
      omega
    · have h' : n ∈ fs := by
        rcases List.mem_cons.1 h with h1 | h1
        · exact absurd h1.symm hx
        · exact h1
      have ih := rem_cons hn h'
      unfold rem at ih ⊢
      have hxd : decide (n = x) = false := decide_eq_false fun e => hx e.symm
      by_cases hxo : has opn x = true
      · rw [List.filter_cons, if_neg (by rw [hc, hxo]; simp), List.filter_cons, if_neg (by rw [hxo]; simp)]
        exact ih
      · have hxo : has opn x = false := by simpa using hxo
        rw [List.filter_cons, if_pos (by rw [hc, hxo, hxd]; rfl), List.filter_cons, if_pos (by rw [hxo]; rfl), List.length_cons, List.length_cons]
        omega

theorem Inv.next {S : St} {opn U : List Nm} {n : Nm} (h : Inv cells vals rev prog S opn U) (hn : n ∉ U) : Inv cells vals rev prog S (n :: opn) U :=
  ⟨h.nodup, fun x hx hm => by rcases List.mem_cons.1 hm with e | e; exact hn (e ▸ hx); exact h.apart x hx e, h.form, h.mem, h.le, h.back⟩
/-- A formula has come up to date. -/
theorem Inv.put {S : St} {opn X : List Nm} {n : Nm} {c : Cell} {rs : List (Nm × V)} {v : V} {q : Nat} (h : Inv cells vals rev prog S (n :: opn) X) (hc : cells n = some c) (hi : isIn c = false) (hn : n ∉ opn)
    (ht : Trace (prog c) rs v) (hb : big v = false) (hr : ∀ r ∈ rs, Good cells vals S X r) : Inv cells vals rev prog ⟨put S.ms n ⟨v, rs, rev⟩, q⟩ opn (X ++ [n]) := by
  have hnX : n ∉ X := fun hx => h.apart n hx List.mem_cons_self
  have hne : ∀ x ∈ X, x ≠ n := fun x hx e => hnX (e ▸ hx)
  have hk : Keeps S ⟨E.put S.ms n ⟨v, rs, rev⟩, q⟩ X := fun x hx => put_other (hne x hx)
  refine ⟨?_, fun x hx => ?_, fun x m hm => ?_, fun x => ?_, fun x m hm => ?_, fun i hil m hm r hrm => ?_⟩
  · exact List.nodup_append.2 ⟨h.nodup, by simp, fun a ha b hb e => hnX (by rw [List.mem_singleton] at hb; rw [← hb, ← e]; exact ha)⟩
  · rcases List.mem_append.1 hx with hx | hx
    · exact fun hm => h.apart x hx (List.mem_cons_of_mem _ hm)
    · rw [List.mem_singleton.1 hx]; exact hn
  · by_cases e : x = n
    · subst e
      have hm : E.put S.ms x ⟨v, rs, rev⟩ x = some m := hm
      rw [put_same] at hm
      cases hm
      exact ⟨c, hc, hi, ht, hb⟩
    · exact h.form x m (by have hm : E.put S.ms n ⟨v, rs, rev⟩ x = some m := hm; rwa [put_other e] at hm)
  · show x ∈ X ++ [n] ↔ ∃ m, E.put S.ms n ⟨v, rs, rev⟩ x = some m ∧ m.at' = rev
    by_cases e : x = n
    · subst e
      rw [put_same]
      exact ⟨fun _ => ⟨_, rfl, rfl⟩, fun _ => List.mem_append_right _ (List.mem_singleton_self _)⟩
    · rw [put_other e, ← h.mem x, List.mem_append, List.mem_singleton]
      exact ⟨fun hx => hx.resolve_right e, .inl⟩
  · by_cases e : x = n
    · subst e
      have hm : E.put S.ms x ⟨v, rs, rev⟩ x = some m := hm
      rw [put_same] at hm
      cases hm
      exact Nat.le_refl _
    · exact h.le x m (by have hm : E.put S.ms n ⟨v, rs, rev⟩ x = some m := hm; rwa [put_other e] at hm)
  · rcases Nat.lt_or_ge i X.length with hlt | hge
    · have e1 : (X ++ [n])[i] = X[i] := List.getElem_append_left hlt
      have hm : E.put S.ms n ⟨v, rs, rev⟩ (X ++ [n])[i] = some m := hm
      rw [e1, put_other (hne _ (List.getElem_mem hlt))] at hm
      rw [List.take_append_of_le_length (Nat.le_of_lt hlt)]
      exact (h.back i hlt m hm r hrm).keep fun x hx => hk x (List.mem_of_mem_take hx)
    · have hie : i = X.length := by rw [List.length_append, List.length_singleton] at hil; omega
      subst hie
      have e1 : (X ++ [n])[X.length] = n := by simp
      have hm : E.put S.ms n ⟨v, rs, rev⟩ (X ++ [n])[X.length] = some m := hm
      rw [e1, put_same] at hm
      cases hm
      rw [List.take_left]
      exact (hr r hrm).keep hk
/-- Where every formula stands. -/
def Holds (cells : Nm → Option Cell) (fs : List Nm) : Prop := ∀ n c, cells n = some c → isIn c = false → n ∈ fs
theorem up_fresh {S : St} {opn0 U fs : List Nm} (hI : Inv cells vals rev prog S opn0 U) (hf : Holds cells fs) : ∀ (i : Nat) (h : i < U.length) (k : Nat) (opn : List Nm) (m : Memo), S.ms U[i] = some m → (∀ j (hj : j < U.length), j ≤ i → U[j] ∉ opn) → rem fs opn < k → fr cells vals prog k opn U[i] = .ok m.res := by
  intro i
  induction i using Nat.strongRecOn with
  | _ i ih =>
    intro h k opn m hm ho hk
    obtain ⟨c, hc, hi, ht, hb⟩ := hI.form _ m hm
    obtain ⟨k, rfl⟩ : ∃ k', k = k' + 1 := ⟨k - 1, by omega⟩
    have hno := ho i h (Nat.le_refl i)
    have hr := rem_cons hno (hf _ c hc hi)
    have key : runF (fr cells vals prog k (U[i] :: opn)) (prog c) = .ok m.res := by
      refine trace_run ht fun r hrm => ?_
      obtain ⟨k, rfl⟩ : ∃ k', k = k' + 1 := ⟨k - 1, by omega⟩
      have hg := hI.back i h m hm r hrm
      unfold Good at hg
      cases hcr : cells r.1 with
      | none => rw [hcr] at hg; rw [fr, hcr]; exact congrArg _ hg.symm
      | some c2 =>
        rw [hcr] at hg
        simp only at hg
        by_cases hi2 : isIn c2 = true
        · rw [if_pos hi2] at hg
          rw [fr, hcr]
          simp only
          rw [if_pos hi2, hg]
        · rw [if_neg hi2] at hg
          obtain ⟨h1, m2, h2, h3⟩ := hg
          obtain ⟨j, hj, he⟩ := List.getElem_of_mem h1
          rw [List.length_take] at hj
          rw [List.getElem_take] at he
          rw [← he] at h2 ⊢
          rw [ih j (by omega) (by omega) (k + 1) (U[i] :: opn) m2 h2 (fun j2 hj2 hle hmem => ?_) (by omega), h3]
          rcases List.mem_cons.1 hmem with e | e
          · exact absurd (List.getElem_inj hI.nodup |>.1 e) (by omega)
          · exact ho j2 hj2 (by omega) e
    rw [fr, hc]
    simp only
    rw [hi, has_not hno, key]
    simp [hb]
/-- Nothing is kept of an earlier revision: then what is counted is what came up to date. -/
def Clean (rev : Nat) (S : St) : Prop := ∀ n m, S.ms n = some m → m.at' = rev
def Exact (rev : Nat) (S S' : St) (n : Nat) : Prop := Clean rev S → Clean rev S' ∧ S'.cnt = S.cnt + n
theorem Exact.zero (S : St) : Exact rev S S 0 := fun h => ⟨h, rfl⟩
theorem Exact.trans {A B C : St} {n m : Nat} (h : Exact rev A B n) (k : Exact rev B C m) : Exact rev A C (n + m) := fun hA => by
  obtain ⟨h1, h2⟩ := h hA
  obtain ⟨h3, h4⟩ := k h1
  exact ⟨h3, by omega⟩
/-- An answer, and that from scratch. -/
def OutV (cells : Nm → Option Cell) (vals : Nm → V) (rev : Nat) (prog : Cell → Pr) (opn U : List Nm) (S : St) (n : Nm) (r : Except Int (V × St)) (q : Except Int V) : Prop := match r with
  | .error e => q = .error e
  | .ok (v, S') => q = .ok v ∧ ∃ W, Inv cells vals rev prog S' opn (U ++ W) ∧ Keeps S S' U ∧ S.cnt ≤ S'.cnt ∧ S'.cnt ≤ S.cnt + W.length ∧ Exact rev S S' W.length ∧ Good cells vals S' (U ++ W) (n, v)
theorem run_spec {opn : List Nm} {get : St → Nm → Except Int (V × St)} {g : Nm → Except Int V} (hget : ∀ U S x, Inv cells vals rev prog S opn U → OutV cells vals rev prog opn U S x (get S x) (g x)) :
    ∀ (p : Pr) (U : List Nm) (S : St) (rs : List (Nm × V)), Inv cells vals rev prog S opn U → match runP get p S rs with
      | .error e => runF g p = .error e
      | .ok (v, rs', S') => ∃ ts, rs' = rs ++ ts ∧ Trace p ts v ∧ runF g p = .ok v ∧ ∃ W, Inv cells vals rev prog S' opn (U ++ W) ∧ Keeps S S' U ∧ S.cnt ≤ S'.cnt ∧ S'.cnt ≤ S.cnt + W.length ∧ Exact rev S S' W.length ∧ ∀ r ∈ ts, Good cells vals S' (U ++ W) r := by
  intro p
  induction p with
  | ret v => intro U S rs hI; exact ⟨[], by simp, .ret v, rfl, [], by rw [List.append_nil]; exact hI, Keeps.refl _ _, Nat.le_refl _, Nat.le_refl _, Exact.zero _, fun r hr => by cases hr⟩
  | ask n k ih =>
    intro U S rs hI
    have h1 := hget U S n hI
    rw [runP, runF]
    cases hg : get S n with
    | error e => rw [hg] at h1; rw [show g n = .error e from h1]
    | ok p =>
      obtain ⟨v, S1⟩ := p
      rw [hg] at h1
      obtain ⟨h2, W, h3, h4, h5, h6, hx, h7⟩ := h1
      simp only
      rw [h2]
      have h8 := ih v (U ++ W) S1 (rs ++ [(n, v)]) h3
      cases hr : runP get (k v) S1 (rs ++ [(n, v)]) with
      | error e => rw [hr] at h8; exact h8
      | ok p =>
        obtain ⟨u, rs2, S2⟩ := p
        rw [hr] at h8
        obtain ⟨ts, e1, e2, e3, W2, e4, e5, e6, e7, ex, e8⟩ := h8
        refine ⟨(n, v) :: ts, by rw [e1]; simp, .ask n k v ts u e2, e3, W ++ W2, by rw [← List.append_assoc]; exact e4, h4.trans e5, Nat.le_trans h5 e6, by rw [List.length_append]; omega, by rw [List.length_append]; exact hx.trans ex, fun r hrm => ?_⟩
        rw [← List.append_assoc]
        rcases List.mem_cons.1 hrm with e | e
        · rw [e]; exact h7.more e5
        · exact e8 r e
theorem stale_spec {opn : List Nm} {get : St → Nm → Except Int (V × St)} {g : Nm → Except Int V} (hget : ∀ U S x, Inv cells vals rev prog S opn U → OutV cells vals rev prog opn U S x (get S x) (g x)) :
    ∀ (rs : List (Nm × V)) (U : List Nm) (S : St), Inv cells vals rev prog S opn U → match staleP get rs S with
      | .error e => ∃ pre x f post, rs = pre ++ (x, f) :: post ∧ (∀ r ∈ pre, g r.1 = .ok r.2) ∧ g x = .error e
      | .ok (b, S') => ∃ W, Inv cells vals rev prog S' opn (U ++ W) ∧ Keeps S S' U ∧ S.cnt ≤ S'.cnt ∧ S'.cnt ≤ S.cnt + W.length ∧ Exact rev S S' W.length ∧ (b = false → ∀ r ∈ rs, g r.1 = .ok r.2 ∧ Good cells vals S' (U ++ W) r) := by
  intro rs
  induction rs with
  | nil => intro U S hI; exact ⟨[], by rw [List.append_nil]; exact hI, Keeps.refl _ _, Nat.le_refl _, Nat.le_refl _, Exact.zero _, fun _ r hr => by cases hr⟩
  | cons x rs ih =>
    obtain ⟨n, f⟩ := x
    intro U S hI
    have h1 := hget U S n hI
    rw [staleP]
    cases hg : get S n with
    | error e => rw [hg] at h1; exact ⟨[], n, f, rs, rfl, (fun r hr => absurd hr List.not_mem_nil), h1⟩
    | ok p =>
      obtain ⟨v, S1⟩ := p
      rw [hg] at h1
      obtain ⟨h2, W, h3, h4, h5, h6, hx, h7⟩ := h1
      simp only
      by_cases hv : v = f
      · rw [if_pos hv]
        subst hv
        have h8 := ih (U ++ W) S1 h3
        cases hr : staleP get rs S1 with
        | error e =>
          rw [hr] at h8
          obtain ⟨pre, x, f, post, e1, e2, e3⟩ := h8
          refine ⟨(n, v) :: pre, x, f, post, by rw [e1]; rfl, fun r hrm => ?_, e3⟩
          rcases List.mem_cons.1 hrm with e | e
          · rw [e]; exact h2
          · exact e2 r e
        | ok p =>
          obtain ⟨b, S2⟩ := p
          rw [hr] at h8
          obtain ⟨W2, e4, e5, e6, e7, ex, e8⟩ := h8
          refine ⟨W ++ W2, by rw [← List.append_assoc]; exact e4, h4.trans e5, Nat.le_trans h5 e6, by rw [List.length_append]; omega, by rw [List.length_append]; exact hx.trans ex, fun hb r hrm => ?_⟩
          rw [← List.append_assoc]
          rcases List.mem_cons.1 hrm with e | e
          · rw [e]; exact ⟨h2, h7.more e5⟩
          · exact e8 hb r e
      · rw [if_neg hv]
        exact ⟨W, h3, h4, h5, h6, hx, fun hb => by cases hb⟩
theorem comp_spec {opn : List Nm} {n : Nm} {c : Cell} {get : St → Nm → Except Int (V × St)} {g : Nm → Except Int V} (hc : cells n = some c) (hi : isIn c = false) (hn : n ∉ opn)
    (hget : ∀ U S x, Inv cells vals rev prog S (n :: opn) U → OutV cells vals rev prog (n :: opn) U S x (get S x) (g x)) (U : List Nm) (S : St) (hI : Inv cells vals rev prog S (n :: opn) U) :
    OutV cells vals rev prog opn U S n (comp rev prog get S n c) (match runF g (prog c) with | .error e => .error e | .ok v => if big v then .error eLarge else .ok v) := by
  have h1 := run_spec hget (prog c) U S [] hI
  unfold comp
  cases hr : runP get (prog c) S [] with
  | error e => rw [hr] at h1; rw [show runF g (prog c) = .error e from h1]; rfl
  | ok p =>
    obtain ⟨v, rs, S'⟩ := p
    rw [hr] at h1
    obtain ⟨ts, e1, e2, e3, W, e4, e5, e6, e7, ex, e8⟩ := h1
    rw [List.nil_append] at e1
    subst e1
    rw [e3]
    simp only
    cases hb : big v with
    | true => rfl
    | false =>
      have hnW : n ∉ U ++ W := fun hx => e4.apart n hx List.mem_cons_self
      refine ⟨rfl, W ++ [n], ?_, fun x hx => ?_, Nat.le_succ_of_le e6, by rw [List.length_append, List.length_singleton]; show S'.cnt + 1 ≤ _; omega, fun hcl => ?_, ?_⟩
      · rw [← List.append_assoc]
        exact e4.put hc hi hn e2 hb e8
      · show put S'.ms n _ x = _
        rw [put_other fun e => hnW (by rw [← e]; exact List.mem_append_left _ hx)]
        exact e5 x hx
      · obtain ⟨q1, q2⟩ := ex hcl
        refine ⟨fun x m hm => ?_, by rw [List.length_append, List.length_singleton]; show S'.cnt + 1 = _; omega⟩
        have hm : put S'.ms n ⟨v, rs, rev⟩ x = some m := hm
        by_cases e : x = n
        · subst e
          rw [put_same] at hm
          cases hm
          rfl
        · rw [put_other e] at hm
          exact q1 x m hm
      · unfold Good
        rw [hc]
        simp only
        rw [hi]
        exact ⟨by simp, _, put_same _ _ _, rfl⟩
/-- Bringing up to date answers as from scratch, and computes each formula once at most. -/
theorem val_spec {fs : List Nm} (hf : Holds cells fs) : ∀ (k : Nat) (opn U : List Nm) (S : St) (n : Nm), Inv cells vals rev prog S opn U → rem fs opn < k → OutV cells vals rev prog opn U S n (val cells vals rev prog k opn S n) (fr cells vals prog k opn n) := by
  intro k
  induction k with
  | zero => intro opn U S n _ hk; exact absurd hk (Nat.not_lt_zero _)
  | succ k ih =>
    intro opn U S n hI hk
    rw [val, fr]
    cases hc : cells n with
    | none => exact ⟨rfl, [], by rw [List.append_nil]; exact hI, Keeps.refl _ _, Nat.le_refl _, Nat.le_refl _, Exact.zero _, by unfold Good; rw [hc]⟩
    | some c =>
      simp only
      cases hi : isIn c with
      | true => exact ⟨rfl, [], by rw [List.append_nil]; exact hI, Keeps.refl _ _, Nat.le_refl _, Nat.le_refl _, Exact.zero _, by unfold Good; rw [hc]; simp only; rw [hi]; exact (if_pos rfl).mpr trivial⟩
      | false =>
        simp only [Bool.false_eq_true, if_false]
        cases ho : has opn n with
        | true => rfl
        | false =>
          simp only [Bool.false_eq_true, if_false]
          have hno : n ∉ opn := fun h => by rw [has_iff.2 h] at ho; cases ho
          have hr := rem_cons hno (hf n c hc hi)
          have hget : ∀ U S x, Inv cells vals rev prog S (n :: opn) U → OutV cells vals rev prog (n :: opn) U S x (val cells vals rev prog k (n :: opn) S x) (fr cells vals prog k (n :: opn) x) := fun U S x h => ih (n :: opn) U S x h (by omega)
          cases hm : S.ms n with
          | none => exact comp_spec hc hi hno hget U S (hI.next fun h => by obtain ⟨m, h1, _⟩ := (hI.mem n).1 h; rw [hm] at h1; cases h1)
          | some m =>
            simp only
            by_cases hat : m.at' = rev
            · rw [if_pos hat]
              have hU : n ∈ U := (hI.mem n).2 ⟨m, hm, hat⟩
              obtain ⟨i, hil, he⟩ := List.getElem_of_mem hU
              have h1 := up_fresh hI hf i hil (k + 1) opn m (by rw [he]; exact hm) (fun j hj _ => hI.apart _ (List.getElem_mem hj)) hk
              rw [he, fr, hc] at h1
              simp only [hi, ho, Bool.false_eq_true, if_false] at h1
              refine ⟨h1, [], by rw [List.append_nil]; exact hI, Keeps.refl _ _, Nat.le_refl _, Nat.le_refl _, Exact.zero _, ?_⟩
              unfold Good
              rw [hc]
              simp only
              rw [hi]
              exact ⟨by rw [List.append_nil]; exact hU, m, hm, rfl⟩
            · rw [if_neg hat]
              have hnU : n ∉ U := fun h => by obtain ⟨m2, h1, h2⟩ := (hI.mem n).1 h; rw [hm] at h1; cases h1; exact hat h2
              obtain ⟨c2, hc2, _, ht, hb⟩ := hI.form n m hm
              obtain rfl : c = c2 := Option.some.inj (hc.symm.trans hc2)
              have h1 := stale_spec hget m.reads U S (hI.next hnU)
              cases hs : staleP (val cells vals rev prog k (n :: opn)) m.reads S with
              | error e =>
                rw [hs] at h1
                obtain ⟨pre, x, f, post, e1, e2, e3⟩ := h1
                rw [e1] at ht
                show _ = _
                rw [trace_err ht e2 e3]
              | ok p =>
                obtain ⟨b, S'⟩ := p
                rw [hs] at h1
                obtain ⟨W, e4, e5, e6, e7, ex, e8⟩ := h1
                cases b with
                | false =>
                  have hnW : n ∉ U ++ W := fun hx => e4.apart n hx List.mem_cons_self
                  have hrun := trace_run ht fun r hrm => (e8 rfl r hrm).1
                  rw [hrun]
                  simp only [hb, Bool.false_eq_true, if_false]
                  refine ⟨rfl, W ++ [n], ?_, fun x hx => ?_, e6, by rw [List.length_append, List.length_singleton]; show S'.cnt ≤ _; omega, fun hcl => absurd (hcl n m hm) hat, ?_⟩
                  · rw [← List.append_assoc]
                    exact e4.put hc hi hno ht hb fun r hrm => (e8 rfl r hrm).2
                  · show put S'.ms n _ x = _
                    rw [put_other fun e => hnW (by rw [← e]; exact List.mem_append_left _ hx)]
                    exact e5 x hx
                  · unfold Good
                    rw [hc]
                    simp only
                    rw [hi]
                    exact ⟨by simp, _, put_same _ _ _, rfl⟩
                | true =>
                  have h9 := comp_spec hc hi hno hget (U ++ W) S' e4
                  simp only
                  cases hcm : comp rev prog (val cells vals rev prog k (n :: opn)) S' n c with
                  | error e => rw [hcm] at h9; exact h9
                  | ok p =>
                    obtain ⟨v, S2⟩ := p
                    rw [hcm] at h9
                    obtain ⟨q1, W2, q2, q3, q4, q5, qx, q6⟩ := h9
                    exact ⟨q1, W ++ W2, by rw [← List.append_assoc]; exact q2, e5.trans q3, Nat.le_trans e6 q4, by rw [List.length_append]; omega, by rw [List.length_append]; exact ex.trans qx, by rw [← List.append_assoc]; exact q6⟩

/-- The same values, reads and count; perhaps another revision. -/
def core (m : Memo) : V × List (Nm × V) := (m.res, m.reads)
def Like (S0 S : St) : Prop := S.cnt = S0.cnt ∧ ∀ n, (S.ms n).map core = (S0.ms n).map core
theorem Like.refl (S : St) : Like S S := ⟨rfl, fun _ => rfl⟩
theorem Like.trans {A B C : St} (h : Like A B) (k : Like B C) : Like A C := ⟨k.1.trans h.1, fun n => (k.2 n).trans (h.2 n)⟩
theorem Like.get {S0 S : St} (h : Like S0 S) {n : Nm} {m0 : Memo} (h0 : S0.ms n = some m0) : ∃ m, S.ms n = some m ∧ m.res = m0.res ∧ m.reads = m0.reads := by
  have h1 := h.2 n
  rw [h0] at h1
  cases hm : S.ms n with
  | none => rw [hm] at h1; cases h1
  | some m =>
    rw [hm] at h1
    have h2 : core m = core m0 := Option.some.inj h1
    unfold core at h2
    exact ⟨m, rfl, (Prod.mk.inj h2).1, (Prod.mk.inj h2).2⟩
theorem stale_quiet {get : St → Nm → Except Int (V × St)} {S0 : St} : ∀ (rs : List (Nm × V)) (S : St), Like S0 S → (∀ r ∈ rs, ∀ S, Like S0 S → ∃ S', get S r.1 = .ok (r.2, S') ∧ Like S0 S') → ∃ S', staleP get rs S = .ok (false, S') ∧ Like S0 S'
  | [], S, h, _ => ⟨S, rfl, h⟩
  | (n, f) :: rs, S, h, hr => by
    obtain ⟨S1, h1, h2⟩ := hr (n, f) List.mem_cons_self S h
    obtain ⟨S2, h3, h4⟩ := stale_quiet rs S1 h2 fun r hrm => hr r (List.mem_cons_of_mem _ hrm)
    refine ⟨S2, ?_, h4⟩
    rw [staleP, h1]
    simp only
    rw [if_pos trivial, h3]
/-- Where no input that was read has another value, nothing is computed. -/
theorem val_quiet {S0 : St} {U fs : List Nm} {vals2 : Nm → V} {rev2 : Nat} (hI : Inv cells vals rev prog S0 [] U) (hf : Holds cells fs)
    (hv : ∀ n m, S0.ms n = some m → ∀ r ∈ m.reads, ∀ c, cells r.1 = some c → isIn c = true → vals2 r.1 = vals r.1) :
    ∀ (i : Nat) (h : i < U.length) (k : Nat) (opn : List Nm) (S : St) (m0 : Memo), S0.ms U[i] = some m0 → Like S0 S → (∀ j (hj : j < U.length), j ≤ i → U[j] ∉ opn) → rem fs opn < k →
      ∃ S', val cells vals2 rev2 prog k opn S U[i] = .ok (m0.res, S') ∧ Like S0 S' := by
  intro i
  induction i using Nat.strongRecOn with
  | _ i ih =>
    intro h k opn S m0 hm0 hL ho hk
    obtain ⟨c, hc, hi, _, _⟩ := hI.form _ m0 hm0
    obtain ⟨k, rfl⟩ : ∃ k', k = k' + 1 := ⟨k - 1, by omega⟩
    have hno := ho i h (Nat.le_refl i)
    have hr := rem_cons hno (hf _ c hc hi)
    obtain ⟨m, hm, e1, e2⟩ := hL.get hm0
    rw [val, hc]
    simp only
    rw [hi, has_not hno, hm]
    simp only [Bool.false_eq_true, if_false]
    by_cases hat : m.at' = rev2
    · rw [if_pos hat, e1]; exact ⟨S, rfl, hL⟩
    · rw [if_neg hat]
      obtain ⟨S', h1, h2⟩ := stale_quiet (get := val cells vals2 rev2 prog k (U[i] :: opn)) m.reads S hL (fun r hrm S hL => by
        obtain ⟨k, rfl⟩ : ∃ k', k = k' + 1 := ⟨k - 1, by omega⟩
        rw [e2] at hrm
        have hg := hI.back i h m0 hm0 r hrm
        unfold Good at hg
        cases hcr : cells r.1 with
        | none => rw [hcr] at hg; refine ⟨S, ?_, hL⟩; rw [val, hcr, show r.2 = none from hg]
        | some c2 =>
          rw [hcr] at hg
          simp only at hg
          by_cases hi2 : isIn c2 = true
          · rw [if_pos hi2] at hg
            refine ⟨S, ?_, hL⟩
            rw [val, hcr]
            simp only
            rw [if_pos hi2, hv _ m0 hm0 r hrm c2 hcr hi2, hg]
          · rw [if_neg hi2] at hg
            obtain ⟨q1, m2, q2, q3⟩ := hg
            obtain ⟨j, hj, he⟩ := List.getElem_of_mem q1
            rw [List.length_take] at hj
            rw [List.getElem_take] at he
            rw [← he] at q2 ⊢
            rw [← q3]
            refine ih j (by omega) (by omega) (k + 1) (U[i] :: opn) S m2 q2 hL (fun j2 hj2 hle hmem => ?_) (by omega)
            rcases List.mem_cons.1 hmem with e | e
            · exact absurd (List.getElem_inj hI.nodup |>.1 e) (by omega)
            · exact ho j2 hj2 (by omega) e)
      rw [h1]
      refine ⟨⟨put S'.ms U[i] ⟨m.res, m.reads, rev2⟩, S'.cnt⟩, by simp only; rw [e1], h2.1, fun x => ?_⟩
      by_cases hx : x = U[i]
      · show (put S'.ms U[i] _ x).map core = _
        rw [hx, put_same, hm0]
        simp only [Option.map_some, core]
        rw [← e1, e2]
      · show (put S'.ms U[i] _ x).map core = _
        rw [put_other hx]
        exact h2.2 x

theorem runF_err {get : Nm → Except Int V} {q : Int → Prop} (h : ∀ n x, get n = .error x → q x) : ∀ (p : Pr) (x : Int), runF get p = .error x → q x
  | .ret v, x, he => by cases he
  | .ask n k, x, he => by
    rw [runF] at he
    cases hg : get n with
    | error y => rw [hg] at he; cases he; exact h n _ hg
    | ok v => rw [hg] at he; exact runF_err h (k v) x he
/-- The errors: a loop, or too large. -/
theorem fr_err {fs : List Nm} (hf : Holds cells fs) : ∀ (k : Nat) (opn : List Nm) (n : Nm) (x : Int), rem fs opn < k → fr cells vals prog k opn n = .error x → x = eLoop ∨ x = eLarge := by
  intro k
  induction k with
  | zero => intro opn n x hk; exact absurd hk (Nat.not_lt_zero _)
  | succ k ih =>
    intro opn n x hk he
    rw [fr] at he
    cases hc : cells n with
    | none => rw [hc] at he; cases he
    | some c =>
      rw [hc] at he
      simp only at he
      cases hi : isIn c with
      | true => rw [hi] at he; cases he
      | false =>
        simp only [hi, Bool.false_eq_true, if_false] at he
        cases ho : has opn n with
        | true => rw [ho] at he; cases he; exact .inl rfl
        | false =>
          simp only [ho, Bool.false_eq_true, if_false] at he
          have hno : n ∉ opn := fun h => by rw [has_iff.2 h] at ho; cases ho
          have hr := rem_cons hno (hf n c hc hi)
          cases hrun : runF (fr cells vals prog k (n :: opn)) (prog c) with
          | error y =>
            rw [hrun] at he
            cases he
            exact runF_err (q := fun x => x = eLoop ∨ x = eLarge) (fun n2 x2 h2 => ih (n :: opn) n2 x2 (by omega) h2) _ _ hrun
          | ok v =>
            rw [hrun] at he
            simp only at he
            cases hb : big v with
            | true => rw [hb] at he; cases he; exact .inr rfl
            | false => rw [hb] at he; cases he
end
end Go.Proofs.YtkeaoejgboefbaaGreatDoor.E

/- Plain facts on strings: the parts between bytes of a kind; whether all letters are of a kind. No program in sight. -/
namespace Go.Proofs.YtkeaoejgboefbaaGreatDoor.Seg

/-- The parts between the bytes c. -/
def segs (c : UInt8) : List UInt8 → List (List UInt8)
  | [] => [[]]
  | x :: l => if x = c then [] :: segs c l else match segs c l with
    | y :: r => (x :: y) :: r
    | [] => [[x]]
theorem segs_ne (c : UInt8) : ∀ l, segs c l ≠ []
  | [] => by simp [segs]
  | x :: l => by
    unfold segs
    split
    · simp
    · split <;> simp
theorem segs_stop (c : UInt8) : ∀ x : List UInt8, (∀ b ∈ x, b ≠ c) → segs c x = [x]
  | [], _ => rfl
  | b :: x, h => by
    unfold segs
    rw [if_neg (h b List.mem_cons_self), segs_stop c x fun b hb => h b (List.mem_cons_of_mem _ hb)]
theorem segs_cons (c x : UInt8) (l : List UInt8) : segs c (x :: l) = if x = c then [] :: segs c l else match segs c l with
    | y :: r => (x :: y) :: r
    | [] => [[x]] := rfl
theorem segs_cut (c : UInt8) (r : List UInt8) : ∀ x : List UInt8, (∀ b ∈ x, b ≠ c) → segs c (x ++ c :: r) = x :: segs c r
  | [], _ => by simp [segs]
  | b :: x, h => by
    rw [List.cons_append, segs_cons, if_neg (h b List.mem_cons_self), segs_cut c r x fun b hb => h b (List.mem_cons_of_mem _ hb)]
/-- At a place where the byte stands, and behind which it has not stood since f. -/
theorem segs_at (c : UInt8) (l : List UInt8) (f k : Nat) (hfk : f ≤ k) (hk : k < l.length) (hno : ∀ j (h : j < l.length), f ≤ j → j < k → l[j] ≠ c) (hc : l[k] = c) :
    segs c (l.drop f) = (l.drop f).take (k - f) :: segs c (l.drop (k + 1)) := by
  have e : l.drop f = (l.drop f).take (k - f) ++ c :: l.drop (k + 1) := by
    conv => lhs; rw [← List.take_append_drop (k - f) (l.drop f)]
    rw [List.drop_drop, show f + (k - f) = k by omega, List.drop_eq_getElem_cons hk, hc]
  conv => lhs; rw [e]
  refine segs_cut c _ _ fun b hb => ?_
  obtain ⟨j, hj, rfl⟩ := List.getElem_of_mem hb
  simp only [List.length_take, List.length_drop] at hj
  have := hno (f + j) (by omega) (by omega) (by omega)
  simpa using this
theorem segs_end (c : UInt8) (l : List UInt8) (f : Nat) (hno : ∀ j (h : j < l.length), f ≤ j → l[j] ≠ c) : segs c (l.drop f) = [l.drop f] := by
  refine segs_stop c _ fun b hb => ?_
  obtain ⟨j, hj, rfl⟩ := List.getElem_of_mem hb
  simp only [List.length_drop] at hj
  have := hno (f + j) (by omega) (by omega)
  simpa using this

theorem occ_one {s : List UInt8} {c : UInt8} {i : Nat} : Lib.occAt s [c] i = true ↔ s[i]? = some c := by
  unfold Lib.occAt
  cases h : s.drop i with
  | nil =>
    have := List.drop_eq_nil_iff.1 h
    simp [List.getElem?_eq_none this]
  | cons a t =>
    have : s[i]? = some a := by rw [← Nat.add_zero i, ← List.getElem?_drop, h]; rfl
    rw [this]
    simp [List.isPrefixOf]
    exact eq_comm
theorem splitK_segs (c : UInt8) : ∀ (k : Nat) (s : List UInt8), Lib.count s [c] = k → Lib.splitK [c] 0 k s = segs c s
  | 0, s, h => by
    rcases Lib.index_spec s [c] with ⟨_, hn⟩ | ⟨i, hi, _⟩
    · show [s] = _
      refine (segs_stop c s fun b hb he => ?_).symm
      obtain ⟨j, hj, rfl⟩ := List.getElem_of_mem hb
      have := hn j (by omega)
      rw [Bool.eq_false_iff] at this
      exact this (occ_one.2 (by rw [List.getElem?_eq_getElem hj, he]))
    · rw [Lib.count_hit (by simp) hi] at h
      omega
  | k + 1, s, h => by
    rcases Lib.index_spec s [c] with ⟨hm, _⟩ | ⟨i, hi, hle, ho, hno⟩
    · rw [Lib.count_miss hm] at h
      omega
    · have hc := occ_one.1 ho
      have hil : i < s.length := by
        rcases Nat.lt_or_ge i s.length with h | h
        · exact h
        · rw [List.getElem?_eq_none h] at hc; cases hc
      have hcg : s[i] = c := by rw [List.getElem?_eq_getElem hil] at hc; exact Option.some.inj hc
      rw [Lib.count_hit (by simp) hi] at h
      have hm : ¬ (Lib.index s [c] == -1) = true := fun e => by have := beq_iff_eq.1 e; omega
      rw [Lib.splitK, if_neg hm, hi]
      have e := segs_at c s 0 i (Nat.zero_le _) hil (fun j hj _ hji he => by
        have := hno j hji
        rw [Bool.eq_false_iff] at this
        exact this (occ_one.2 (by rw [List.getElem?_eq_getElem hj, he]))) hcg
      rw [List.drop_zero, Nat.sub_zero] at e
      rw [e]
      have hk := splitK_segs c k (s.drop (i + 1)) (by simp at h; omega)
      simp only [List.length_singleton, Nat.add_zero, Int.toNat_natCast]
      rw [hk]
/-- strings.Split at one byte. -/
theorem splitB_segs (c : UInt8) (s : ByteArray) : (Lib.splitB ⟨#[c]⟩ 0 (Lib.countB s ⟨#[c]⟩) s).map (·.data.toList) = segs c s.data.toList := by
  rw [Lib.splitB_data]
  exact splitK_segs c _ _ rfl

/-- strings.IndexFunc finds a letter that is not of the kind, where one is. -/
theorem idxFrom_all (q : Nat → Bool) (hq : ∀ n, 128 ≤ n → q n = true) (s : ByteArray) : ∀ (f pos : Nat), s.size - pos ≤ f → pos ≤ s.size →
    decide (0 ≤ Lib.idxFuncFrom q true s f pos) = (s.data.toList.drop pos).any fun c => q c.toNat
  | 0, pos, h, h2 => by
    have e : s.data.toList.drop pos = [] := List.drop_eq_nil_of_le (by simp [ByteArray.size_data] at *; omega)
    rw [e]
    rfl
  | f + 1, pos, h, h2 => by
    unfold Lib.idxFuncFrom
    by_cases hlt : pos < s.size
    · rw [if_pos hlt]
      have hl : s.data.toList.length = s.size := by simp
      have e : s.data.toList.drop pos = s[pos] :: s.data.toList.drop (pos + 1) := by
        rw [List.drop_eq_getElem_cons (by omega)]
        congr 1
      rw [e, List.any_cons]
      by_cases hc : q s[pos].toNat = true
      · have : q (Utf8.decode s pos).1 = true := by
          rcases Nat.lt_or_ge s[pos].toNat 128 with h5 | h5
          · rw [decode_ascii s pos hlt h5]; exact hc
          · exact hq _ (decode_high s pos hlt h5).1
        rw [if_pos (by rw [this]), hc]
        simp
      · have h5 : s[pos].toNat < 128 := by
          rcases Nat.lt_or_ge s[pos].toNat 128 with h5 | h5
          · exact h5
          · exact absurd (hq _ h5) hc
        rw [decode_ascii s pos hlt h5, if_neg (by simpa using hc), idxFrom_all q hq s f (pos + 1) (by omega) (by omega)]
        simp [Bool.not_eq_true _ ▸ hc]
    · have e : s.data.toList.drop pos = [] := List.drop_eq_nil_of_le (by simp [ByteArray.size_data] at *; omega)
      rw [if_neg hlt, e]
      rfl
theorem idxFunc_all (q : Nat → Bool) (hq : ∀ n, 128 ≤ n → q n = true) (s : ByteArray) : decide (0 ≤ Lib.idxFunc q true s) = s.data.toList.any fun c => q c.toNat := by
  unfold Lib.idxFunc
  rw [idxFrom_all q hq s _ 0 (by omega) (by omega)]
  simp

end Go.Proofs.YtkeaoejgboefbaaGreatDoor.Seg

/- The engine's formulas and acts in plain words. No program in sight. -/
namespace Go.Proofs.YtkeaoejgboefbaaGreatDoor.E

def mk (l : List UInt8) : ByteArray := ⟨l.toArray⟩
theorem mk_data (l : List UInt8) : (mk l).data.toList = l := rfl
theorem mk_self (s : ByteArray) : mk s.data.toList = s := by cases s; rfl
theorem mk_size (l : List UInt8) : (mk l).size = l.length := by simp [mk, ByteArray.size]
/-- Texts, joined. -/
def joinT (l : List ByteArray) (t : ByteArray) : ByteArray := mk (Lib.join (l.map fun s => s.data.toList) t.data.toList)
/-- How many lines a value has. -/
def linesN (s : ByteArray) : Nat := if s.size = 0 then 0 else s.data.toList.count 10 + 1
def countB (s : ByteArray) : ByteArray := mk (Lib.decDigits (linesN s))
/-- The lines that contain a text. -/
def pickB (s t : ByteArray) : ByteArray := mk (Lib.join ((Seg.segs 10 s.data.toList).filter fun l => Lib.contains l t.data.toList) [10])
def argN (c : Cell) (i : Nat) : Nm := c.2.2.1.getD i ⟨#[]⟩
def joinP (t : ByteArray) : List Nm → List ByteArray → Pr
  | [], acc => .ret (some (joinT acc t))
  | a :: rest, acc => .ask a fun v => match v with
    | none => .ret none
    | some s => joinP t rest (acc ++ [s])
/-- A formula. -/
def form (c : Cell) : Pr :=
  if c.2.1 = 2 then joinP c.2.2.2 c.2.2.1 []
  else .ask (argN c 0) fun x => match x with
    | none => if c.2.1 = 7 then .ask (argN c 1) .ret else .ret none
    | some s => if c.2.1 = 7 then .ret (some s) else if c.2.1 = 3 then .ret (some (countB s)) else if c.2.1 = 4 then .ask (argN c 1) (fun y => match y with
        | none => .ret none
        | some t => .ret (some (pickB s t))) else if c.2.1 = 5 then (if s.size = 0 then .ask (argN c 2) .ret else .ask (argN c 1) .ret) else .ask s .ret

/-! ### Cells -/
def nameB (s : ByteArray) : Bool := decide (1 ≤ s.size) && decide (s.size ≤ 128) && s.data.toList.all fun b => decide (33 ≤ b.toNat) && decide (b.toNat ≤ 126)
/-- Whether an operation fits its arguments and text. -/
def formedB (c : Cell) : Bool := c.2.2.1.all nameB && (if c.2.1 = 2 then decide (c.2.2.1.length ≤ 8) && decide (c.2.2.2.size ≤ 64)
  else ((c.2.1 == 1 && c.2.2.1.length == 0) || (c.2.1 == 3 && c.2.2.1.length == 1) || (c.2.1 == 4 && c.2.2.1.length == 2) || (c.2.1 == 5 && c.2.2.1.length == 3) || (c.2.1 == 6 && c.2.2.1.length == 1) || (c.2.1 == 7 && c.2.2.1.length == 2)) && decide (c.2.2.2.size = 0))
/-- What is wrong with a cell behind others. -/
def cellE (before : List Cell) (c : Cell) : Int := if nameB c.1 = false then 2 else if formedB c = false then 1 else if has (before.map (·.1)) c.1 then 6 else 0
def newE : List Cell → List Cell → Int
  | _, [] => 0
  | before, c :: cs => if cellE before c ≠ 0 then cellE before c else newE (before ++ [c]) cs
/-- The error of New. -/
def newErr (cs : List Cell) : Int := if 200 < cs.length then 10 else newE [] cs
def findC (cs : List Cell) (n : Nm) : Option Cell := cs.find? fun c => decide (c.1 = n)

/-! ### An engine -/
structure En where
  cells : List Cell
  vals : Nm → V
  rev : Nat
  st : St
def fresh (cs : List Cell) : En := ⟨cs, fun _ => none, 0, ⟨fun _ => none, 0⟩⟩
def inputB (e : En) (n : Nm) : Bool := match findC e.cells n with
  | none => false
  | some c => isIn c
def putV (f : Nm → V) (n : Nm) (v : V) : Nm → V := fun x => if x = n then v else f x
/-- An input gets a value, or loses it. -/
def change (e : En) (n : Nm) (v : V) : En := if e.vals n = v then e else { e with vals := putV e.vals n v, rev := e.rev + 1 }
def setE (e : En) (n : Nm) (s : ByteArray) : Int × En := if inputB e n = false then (7, e) else if 65536 < s.size then (10, e) else (0, change e n (some s))
def clearE (e : En) (n : Nm) : Int × En := if inputB e n = false then (7, e) else (0, change e n none)
def fuel (e : En) : Nat := e.cells.length + 1
def getE (e : En) (n : Nm) : V × Int × En := match findC e.cells n with
  | none => (none, 7, e)
  | some _ => match val (findC e.cells) e.vals e.rev form (fuel e) [] e.st n with
    | .error x => (none, x, e)
    | .ok (v, S) => (v, 0, { e with st := S })
/-- From scratch. -/
def freshE (e : En) (n : Nm) : V × Int := match findC e.cells n with
  | none => (none, 7)
  | some _ => match fr (findC e.cells) e.vals form (fuel e) [] n with
    | .error x => (none, x)
    | .ok v => (v, 0)

/-! ### What holds of every engine -/
def names (e : En) : List Nm := (e.cells.filter fun c => !isIn c).map (·.1)
theorem findC_some {cs : List Cell} {n : Nm} {c : Cell} (h : findC cs n = some c) : c ∈ cs ∧ c.1 = n := by
  unfold findC at h
  exact ⟨List.mem_of_find?_eq_some h, by simpa using List.find?_some h⟩
theorem holds_names (e : En) : Holds (findC e.cells) (names e) := by
  intro n c hc hi
  obtain ⟨h1, h2⟩ := findC_some hc
  exact List.mem_map.2 ⟨c, List.mem_filter.2 ⟨h1, by rw [hi]; rfl⟩, h2⟩
theorem rem_nil_le (fs : List Nm) : rem fs [] ≤ fs.length := List.length_filter_le _ _
theorem fuel_ok (e : En) : rem (names e) [] < fuel e := by
  have h1 := rem_nil_le (names e)
  have h2 : (names e).length ≤ e.cells.length := by unfold names; rw [List.length_map]; exact List.length_filter_le _ _
  unfold fuel
  omega
abbrev InvE (e : En) (U : List Nm) : Prop := Inv (findC e.cells) e.vals e.rev form e.st [] U
def OkE (e : En) : Prop := ∃ U, InvE e U
theorem inv_nil {cells : Nm → Option Cell} {vals : Nm → V} {rev : Nat} {S : St} (h : ∀ n m, S.ms n = some m → ∃ c, cells n = some c ∧ isIn c = false ∧ Trace (form c) m.reads m.res ∧ big m.res = false) (h2 : ∀ n m, S.ms n = some m → m.at' < rev) : Inv cells vals rev form S [] [] where
  nodup := List.nodup_nil
  apart := fun _ h => absurd h List.not_mem_nil
  form := h
  mem := fun n => ⟨fun h => absurd h List.not_mem_nil, fun ⟨m, h1, h3⟩ => by have := h2 n m h1; omega⟩
  le := fun n m h1 => Nat.le_of_lt (h2 n m h1)
  back := fun i h => absurd h (Nat.not_lt_zero _)
theorem ok_fresh (cs : List Cell) : OkE (fresh cs) := ⟨[], inv_nil (fun _ _ h => by cases h) (fun _ _ h => by cases h)⟩
theorem ok_change {e : En} (h : OkE e) (n : Nm) (v : V) : OkE (change e n v) := by
  unfold change
  by_cases hv : e.vals n = v
  · rw [if_pos hv]; exact h
  · rw [if_neg hv]
    obtain ⟨U, hI⟩ := h
    exact ⟨[], inv_nil hI.form fun n m h1 => Nat.lt_succ_of_le (hI.le n m h1)⟩
theorem ok_set {e : En} (h : OkE e) (n : Nm) (s : ByteArray) : OkE (setE e n s).2 := by
  unfold setE
  split
  · exact h
  · split
    · exact h
    · exact ok_change h _ _
theorem ok_clear {e : En} (h : OkE e) (n : Nm) : OkE (clearE e n).2 := by
  unfold clearE
  split
  · exact h
  · exact ok_change h _ _
/-- Get answers as from scratch, and computes each formula once at most. -/
theorem get_spec {e : En} {U : List Nm} (hI : InvE e U) (n : Nm) : (∃ x, x ≠ 0 ∧ getE e n = (none, x, e) ∧ freshE e n = (none, x)) ∨
    ∃ v S W, getE e n = (v, 0, { e with st := S }) ∧ freshE e n = (v, 0) ∧ InvE { e with st := S } (U ++ W) ∧ Keeps e.st S U ∧ e.st.cnt ≤ S.cnt ∧ S.cnt ≤ e.st.cnt + W.length ∧ Exact e.rev e.st S W.length ∧ Good (findC e.cells) e.vals S (U ++ W) (n, v) ∧ findC e.cells n ≠ none := by
  have h1 := val_spec (holds_names e) (fuel e) [] U e.st n hI (fuel_ok e)
  unfold getE freshE
  cases hc : findC e.cells n with
  | none => exact .inl ⟨7, by decide, rfl, rfl⟩
  | some c =>
    simp only
    cases hv : val (findC e.cells) e.vals e.rev form (fuel e) [] e.st n with
    | error x =>
      rw [hv] at h1
      have h1 : fr (findC e.cells) e.vals form (fuel e) [] n = .error x := h1
      rw [h1]
      refine .inl ⟨x, ?_, rfl, rfl⟩
      rcases fr_err (holds_names e) (fuel e) [] n x (fuel_ok e) h1 with h | h <;> rw [h] <;> decide
    | ok p =>
      obtain ⟨v, S⟩ := p
      rw [hv] at h1
      obtain ⟨h2, W, h3, h4, h5, h6, hx, h7⟩ := h1
      rw [h2]
      exact .inr ⟨v, S, W, rfl, rfl, h3, h4, h5, h6, hx, h7, by simp⟩
theorem ok_get {e : En} (h : OkE e) (n : Nm) : OkE (getE e n).2.2 := by
  obtain ⟨U, hI⟩ := h
  rcases get_spec hI n with ⟨x, _, h1, _⟩ | ⟨v, S, W, h1, _, h2, _⟩
  · rw [h1]; exact ⟨U, hI⟩
  · rw [h1]; exact ⟨_, h2⟩
/-- What is up to date are formulas, each once. -/
theorem inv_length {e : En} {U : List Nm} (hI : InvE e U) : U.length ≤ (names e).length := by
  have key : ∀ (l m : List Nm), l.Nodup → (∀ x ∈ l, x ∈ m) → l.length ≤ m.length := by
    intro l
    induction l with
    | nil => intro m _ _; exact Nat.zero_le _
    | cons x l ih =>
      intro m hn hm
      obtain ⟨h1, h2⟩ := List.nodup_cons.1 hn
      have hx := hm x List.mem_cons_self
      obtain ⟨s, t, rfl⟩ := List.append_of_mem hx
      have := ih (s ++ t) h2 fun y hy => by
        have := hm y (List.mem_cons_of_mem _ hy)
        rcases List.mem_append.1 this with h | h
        · exact List.mem_append_left _ h
        · rcases List.mem_cons.1 h with e | h
          · exact absurd (e ▸ hy) h1
          · exact List.mem_append_right _ h
      simp only [List.length_append, List.length_cons] at this ⊢
      omega
  refine key U (names e) hI.nodup fun n hn => ?_
  obtain ⟨m, h1, _⟩ := (hI.mem n).1 hn
  obtain ⟨c, hc, hi, _⟩ := hI.form n m h1
  exact holds_names e n c hc hi
/-- One call of Get computes each formula once at most. -/
theorem get_once {e : En} (h : OkE e) (n : Nm) : e.st.cnt ≤ (getE e n).2.2.st.cnt ∧ (getE e n).2.2.st.cnt ≤ e.st.cnt + (names e).length := by
  obtain ⟨U, hI⟩ := h
  rcases get_spec hI n with ⟨x, _, h1, _⟩ | ⟨v, S, W, h1, _, h2, _, h4, h5, _⟩
  · rw [h1]; exact ⟨Nat.le_refl _, Nat.le_add_right _ _⟩
  · rw [h1]
    have h8 := inv_length h2
    rw [List.length_append] at h8
    have : names { e with st := S } = names e := rfl
    rw [this] at h8
    exact ⟨h4, by show S.cnt ≤ _; omega⟩
end Go.Proofs.YtkeaoejgboefbaaGreatDoor.E

/- The engine: nothing is computed again where nothing that was read has changed; values from scratch out of a list of inputs. No program in sight. -/
namespace Go.Proofs.YtkeaoejgboefbaaGreatDoor.E

/-! ### Quiet -/
/-- Every formula is up to date. -/
def Full (e : En) (U : List Nm) : Prop := InvE e U ∧ ∀ n c, findC e.cells n = some c → isIn c = false → n ∈ U
/-- Another engine that keeps the same, with the same values of the inputs that were read. -/
structure Same (e0 e : En) : Prop where
  cells : e.cells = e0.cells
  like : Like e0.st e.st
  vals : ∀ n m, e0.st.ms n = some m → ∀ r ∈ m.reads, ∀ c, findC e0.cells r.1 = some c → isIn c = true → e.vals r.1 = e0.vals r.1
theorem get_quiet {e0 e : En} {U : List Nm} (h : Full e0 U) (hs : Same e0 e) {n : Nm} (hn : findC e.cells n ≠ none) : ∃ v S, getE e n = (v, 0, { e with st := S }) ∧ Same e0 { e with st := S } := by
  obtain ⟨hI, hF⟩ := h
  have hc0 := hs.cells
  unfold getE
  cases hc : findC e.cells n with
  | none => exact absurd hc hn
  | some c =>
    simp only
    cases hi : isIn c with
    | true =>
      refine ⟨e.vals n, e.st, ?_, hs⟩
      unfold fuel
      rw [val, hc]
      simp only
      rw [hi]
      rfl
    | false =>
      have hU := hF n c (by rw [← hc0]; exact hc) hi
      obtain ⟨m, hm, _⟩ := (hI.mem n).1 hU
      obtain ⟨i, hil, he⟩ := List.getElem_of_mem hU
      have hf : Holds (findC e0.cells) (names e0) := holds_names e0
      obtain ⟨S', h1, h2⟩ := val_quiet (vals2 := e.vals) (rev2 := e.rev) hI hf hs.vals i hil (fuel e) [] e.st m (by rw [he]; exact hm) hs.like (fun _ _ _ => List.not_mem_nil) (by have := fuel_ok e0; unfold fuel at this ⊢; rw [hc0]; exact this)
      rw [he, ← hc0] at h1
      rw [h1]
      exact ⟨m.res, S', rfl, ⟨hs.cells, h2, hs.vals⟩⟩
theorem Same.refl (e : En) : Same e e := ⟨rfl, Like.refl _, fun _ _ _ _ _ _ _ _ => rfl⟩

/-! ### Values from scratch -/
def setAll (e : En) (l : List (ByteArray × ByteArray)) : En := l.foldl (fun e x => (setE e x.1 x.2).2) e
def valueE (cs : List Cell) (l : List (ByteArray × ByteArray)) (n : Nm) : V × Int :=
  if newErr cs ≠ 0 then (none, newErr cs) else if l.any (fun x => decide (65536 < x.2.size)) then (none, 10) else ((getE (setAll (fresh cs) l) n).1, (getE (setAll (fresh cs) l) n).2.1)
theorem set_cells (e : En) (n : Nm) (s : ByteArray) : (setE e n s).2.cells = e.cells := by
  unfold setE change
  split
  · rfl
  · split
    · rfl
    · show (if _ then _ else _ : En).cells = _
      split <;> rfl
theorem set_vals {e : En} {n : Nm} {s : ByteArray} (h : inputB e n = true) (h2 : s.size ≤ 65536) : (setE e n s).2.vals = putV e.vals n (some s) := by
  unfold setE change
  rw [if_neg (by rw [h]; simp), if_neg (by omega)]
  simp only
  split
  · rename_i hv
    funext x
    unfold putV
    split
    · rename_i hx; rw [hx]; exact hv
    · rfl
  · rfl
theorem setAll_cells (l : List (ByteArray × ByteArray)) : ∀ e : En, (setAll e l).cells = e.cells := by
  induction l with
  | nil => intro e; rfl
  | cons x l ih => intro e; exact (ih _).trans (set_cells e x.1 x.2)
theorem input_cells {e e' : En} (h : e'.cells = e.cells) (n : Nm) : inputB e' n = inputB e n := by unfold inputB; rw [h]
theorem setAll_vals : ∀ (l : List (ByteArray × ByteArray)) (e : En), (l.map (·.1)).Nodup → (∀ x ∈ l, inputB e x.1 = true ∧ x.2.size ≤ 65536) → ∀ n, (setAll e l).vals n = match l.find? (fun x => decide (x.1 = n)) with
    | some x => some x.2
    | none => e.vals n
  | [], e, _, _, n => rfl
  | x :: l, e, hn, hx, n => by
    obtain ⟨h1, h2⟩ := hx x List.mem_cons_self
    have hn' := List.nodup_cons.1 hn
    have ih := setAll_vals l (setE e x.1 x.2).2 hn'.2 (fun y hy => by
      obtain ⟨h3, h4⟩ := hx y (List.mem_cons_of_mem _ hy)
      exact ⟨by rw [input_cells (set_cells e x.1 x.2)]; exact h3, h4⟩) n
    show (setAll (setE e x.1 x.2).2 l).vals n = _
    rw [ih, set_vals h1 h2]
    by_cases hxn : x.1 = n
    · rw [List.find?_cons_of_pos (by simpa using hxn)]
      have : l.find? (fun y => decide (y.1 = n)) = none := by
        rw [List.find?_eq_none]
        intro y hy
        simp only [decide_eq_true_eq]
        exact fun h9 => hn'.1 (List.mem_map.2 ⟨y, hy, h9.trans hxn.symm⟩)
      rw [this]
      show putV e.vals x.1 (some x.2) n = _
      unfold putV
      rw [if_pos hxn.symm]
    · rw [List.find?_cons_of_neg (by simpa using hxn)]
      cases hl : l.find? (fun y => decide (y.1 = n)) with
      | some y => rfl
      | none =>
        show putV e.vals x.1 (some x.2) n = _
        unfold putV
        rw [if_neg fun e => hxn e.symm]
theorem freshE_vals {e e' : En} (h1 : e'.cells = e.cells) (h2 : e'.vals = e.vals) (n : Nm) : freshE e' n = freshE e n := by
  unfold freshE fuel
  rw [h1, h2]
theorem ok_setAll : ∀ (l : List (ByteArray × ByteArray)) (e : En), OkE e → OkE (setAll e l)
  | [], _, h => h
  | x :: l, _, h => ok_setAll l _ (ok_set h x.1 x.2)
theorem get_pair {e : En} (h : OkE e) (n : Nm) : ((getE e n).1, (getE e n).2.1) = freshE e n := by
  obtain ⟨U, hI⟩ := h
  rcases get_spec hI n with ⟨x, _, h1, h2⟩ | ⟨v, S, W, h1, h2, _⟩
  · rw [h1, h2]
  · rw [h1, h2]
/-- Get answers what Value answers out of the inputs that have values. -/
theorem value_get {e : En} (h : OkE e) (hn : newErr e.cells = 0) {l : List (ByteArray × ByteArray)} (hl : (l.map (·.1)).Nodup) (hx : ∀ x ∈ l, inputB e x.1 = true ∧ x.2.size ≤ 65536 ∧ e.vals x.1 = some x.2) (hv : ∀ n s, e.vals n = some s → (n, s) ∈ l) (n : Nm) :
    valueE e.cells l n = ((getE e n).1, (getE e n).2.1) := by
  unfold valueE
  rw [if_neg (by rw [hn]; simp), if_neg, get_pair h, get_pair (ok_setAll l _ (ok_fresh _))]
  · refine freshE_vals (e := e) (e' := setAll (fresh e.cells) l) (setAll_cells l _) (funext fun x => ?_) n
    have hf : inputB (fresh e.cells) = inputB e := rfl
    rw [setAll_vals l (fresh e.cells) hl (fun y hy => ⟨by rw [hf]; exact (hx y hy).1, (hx y hy).2.1⟩) x]
    cases hy : l.find? (fun y => decide (y.1 = x)) with
    | some y =>
      have h1 := List.mem_of_find?_eq_some hy
      have h2 : y.1 = x := by simpa using List.find?_some hy
      simp only
      rw [← h2]
      exact (hx y h1).2.2.symm
    | none =>
      simp only
      cases hxv : e.vals x with
      | none => rfl
      | some s =>
        have := List.find?_eq_none.1 hy _ (hv x s hxv)
        simp at this
  · intro h1
    obtain ⟨x, hx1, hx2⟩ := List.any_eq_true.1 h1
    have := (hx x hx1).2.1
    have := of_decide_eq_true hx2
    omega
end Go.Proofs.YtkeaoejgboefbaaGreatDoor.E

/- Plain facts on trees of files: when they are valid, what is found, put, dropped, moved. No program in sight. -/
namespace Go.Proofs.YtkeaoejgboefbaaGreatDoor.T

abbrev Bs := List UInt8
/-- A file: its path, its data. -/
abbrev File := ByteArray × ByteArray
abbrev Tr := List File
def pth (f : File) : Bs := f.1.data.toList
def dat (f : File) : Bs := f.2.data.toList
/-- p lies below d. -/
def below (p d : Bs) : Bool := (d ++ [47]).isPrefixOf p
theorem below_iff {p d : Bs} : below p d = true ↔ ∃ r, p = d ++ 47 :: r := by
  unfold below
  rw [List.isPrefixOf_iff_prefix]
  constructor
  · rintro ⟨r, h⟩; exact ⟨r, by rw [← h]; simp⟩
  · rintro ⟨r, h⟩; exact ⟨r, by rw [h]; simp⟩
theorem below_self (p : Bs) : below p p = false := by
  rw [Bool.eq_false_iff]
  intro h
  obtain ⟨r, h⟩ := below_iff.1 h
  have := congrArg List.length h
  simp at this
theorem lt_irrefl (x : Bs) : ¬ x < x := List.lt_irrefl x
theorem lt_trans {x y z : Bs} (h : x < y) (k : y < z) : x < z := List.lt_trans h k
theorem lt_of_not_le {x y : Bs} (h : ¬ x ≤ y) : y < x := by
  rcases List.le_total y x with h1 | h1
  · rcases List.le_iff_lt_or_eq.1 h1 with h2 | h2
    · exact h2
    · subst h2; exact absurd (List.le_refl y) h
  · exact absurd h1 h
theorem not_le_of_lt {x y : Bs} (h : x < y) : ¬ y ≤ x := fun k => by
  rcases List.le_iff_lt_or_eq.1 k with h1 | h1
  · exact lt_irrefl _ (lt_trans h h1)
  · subst h1; exact lt_irrefl _ h
theorem le_of_lt {x y : Bs} (h : x < y) : x ≤ y := List.le_iff_lt_or_eq.2 (.inl h)
theorem lt_ways (x y : Bs) : x < y ∨ x = y ∨ y < x := by
  by_cases h : x ≤ y
  · rcases List.le_iff_lt_or_eq.1 h with h1 | h1
    · exact .inl h1
    · exact .inr (.inl h1)
  · exact .inr (.inr (lt_of_not_le h))
theorem below_lt {p d : Bs} (h : below p d = true) : d < p := by
  obtain ⟨r, rfl⟩ := below_iff.1 h
  clear h
  induction d with
  | nil => exact List.nil_lt_cons _ _
  | cons a d ih => exact List.cons_lt_cons_iff.2 (.inr ⟨rfl, ih⟩)

/-! ### Valid trees -/
section
variable (okP : ByteArray → Bool)
/-- The file before file k is not before it. -/
def ordE (t : Tr) (k : Nat) (f : File) : Bool := decide (0 < k) && (match t[k - 1]? with | some g => decide (pth f ≤ pth g) | none => false)
/-- What is wrong with file k of a tree; 0: nothing. -/
def fileE (t : Tr) (k : Nat) (f : File) : Int :=
  if okP f.1 then (if 65536 < f.2.size then 10 else if ordE t k f then 5 else if (t.take k).any (fun g => below (pth f) (pth g)) then 6 else 0) else 2
def errs (t : Tr) : List Int := (List.range t.length).map fun i => match t[i]? with | some f => fileE okP t i f | none => 0
def checkE (t : Tr) : Int := if 64 < t.length then 10 else ((errs okP t).find? (· ≠ 0)).getD 0
/-- The first k files are right. -/
def okTo (t : Tr) (k : Nat) : Prop := ∀ i (h : i < t.length), i < k → fileE okP t i t[i] = 0
theorem errs_get (t : Tr) (i : Nat) (h : i < t.length) : (errs okP t)[i]? = some (fileE okP t i t[i]) := by
  unfold errs
  rw [List.getElem?_map, List.getElem?_range h, Option.map_some, List.getElem?_eq_getElem h]
theorem checkE_big {t : Tr} (h : 64 < t.length) : checkE okP t = 10 := if_pos h
theorem checkE_at {t : Tr} {k : Nat} (hl : t.length ≤ 64) (h : okTo okP t k) (hk : k < t.length) (he : fileE okP t k t[k] ≠ 0) : checkE okP t = fileE okP t k t[k] := by
  unfold checkE
  rw [if_neg (by omega)]
  have hlen : (errs okP t).length = t.length := by simp [errs]
  have : (errs okP t).find? (· ≠ 0) = some (fileE okP t k t[k]) := by
    rw [List.find?_eq_some_iff_getElem]
    refine ⟨by simpa using he, k, by omega, ?_, fun j hj => ?_⟩
    · have := errs_get okP t k hk
      rw [List.getElem?_eq_getElem (by omega)] at this
      exact Option.some.inj this
    · have h1 := errs_get okP t j (by omega)
      rw [List.getElem?_eq_getElem (by omega)] at h1
      rw [Option.some.inj h1, h j (by omega) hj]
      rfl
  rw [this]
  rfl
theorem checkE_end {t : Tr} (hl : t.length ≤ 64) (h : okTo okP t t.length) : checkE okP t = 0 := by
  unfold checkE
  rw [if_neg (by omega)]
  have : (errs okP t).find? (· ≠ 0) = none := by
    rw [List.find?_eq_none]
    intro x hx
    obtain ⟨i, hi, rfl⟩ := List.getElem_of_mem hx
    have hlen : (errs okP t).length = t.length := by simp [errs]
    have h1 := errs_get okP t i (by omega)
    rw [List.getElem?_eq_getElem hi] at h1
    rw [Option.some.inj h1, h i (by omega) (by omega)]
    simp
  rw [this]
  rfl
theorem okTo_succ {t : Tr} {k : Nat} (h : okTo okP t k) (hk : k < t.length) (he : fileE okP t k t[k] = 0) : okTo okP t (k + 1) := by
  intro i hi hik
  by_cases e : i = k
  · subst e; exact he
  · exact h i hi (by omega)
/-- A valid tree. -/
structure Ok (t : Tr) : Prop where
  few : t.length ≤ 64
  path : ∀ f ∈ t, okP f.1 = true
  size : ∀ f ∈ t, f.2.size ≤ 65536
  sorted : t.Pairwise fun f g => pth f < pth g
  apart : ∀ f ∈ t, ∀ g ∈ t, below (pth f) (pth g) = false
theorem fileE_zero {t : Tr} {k : Nat} {f : File} : fileE okP t k f = 0 ↔ okP f.1 = true ∧ f.2.size ≤ 65536 ∧ (∀ g, 0 < k → t[k - 1]? = some g → pth g < pth f) ∧ ∀ g ∈ t.take k, below (pth f) (pth g) = false := by
  unfold fileE
  constructor
  · intro h
    by_cases h1 : okP f.1 = true
    · rw [if_pos h1] at h
      by_cases h2 : 65536 < f.2.size
      · rw [if_pos h2] at h; cases h
      · rw [if_neg h2] at h
        split at h
        · cases h
        · rename_i h3
          split at h
          · cases h
          · rename_i h4
            refine ⟨h1, by omega, fun g hk hg => ?_, fun g hg => ?_⟩
            · refine lt_of_not_le fun h' => h3 ?_
              unfold ordE
              rw [hg]
              simp [hk, h']
            · rw [Bool.eq_false_iff]
              exact fun h' => h4 (List.any_eq_true.2 ⟨g, hg, h'⟩)
    · rw [if_neg h1] at h; cases h
  · rintro ⟨h1, h2, h3, h4⟩
    rw [if_pos h1, if_neg (by omega), if_neg, if_neg]
    · intro h
      obtain ⟨g, hg, hb⟩ := List.any_eq_true.1 h
      rw [h4 g hg] at hb
      cases hb
    · intro h
      unfold ordE at h
      rw [Bool.and_eq_true, decide_eq_true_eq] at h
      obtain ⟨hk, h⟩ := h
      cases hg : t[k - 1]? with
      | none => rw [hg] at h; cases h
      | some g =>
        rw [hg] at h
        exact not_le_of_lt (h3 g hk hg) (of_decide_eq_true h)
theorem fileE_ways (t : Tr) (k : Nat) (f : File) : fileE okP t k f = 0 ∨ fileE okP t k f = 2 ∨ fileE okP t k f = 10 ∨ fileE okP t k f = 5 ∨ fileE okP t k f = 6 := by
  unfold fileE
  split
  · split
    · simp
    · split
      · simp
      · split <;> simp
  · simp
theorem checkE_zero {t : Tr} : checkE okP t = 0 ↔ t.length ≤ 64 ∧ okTo okP t t.length := by
  constructor
  · intro h
    by_cases hl : 64 < t.length
    · rw [checkE_big okP hl] at h; cases h
    · refine ⟨by omega, ?_⟩
      have key : ∀ k, k ≤ t.length → okTo okP t k := by
        intro k
        induction k with
        | zero => exact fun _ i _ h => absurd h (Nat.not_lt_zero _)
        | succ k ih =>
          intro hk
          have := ih (by omega)
          by_cases he : fileE okP t k t[k] = 0
          · exact okTo_succ okP this (by omega) he
          · rw [checkE_at okP (by omega) this (by omega) he] at h
            exact absurd h he
      exact key _ (Nat.le_refl _)
  · rintro ⟨hl, h⟩
    exact checkE_end okP hl h
theorem ok_iff {t : Tr} : checkE okP t = 0 ↔ Ok okP t := by
  rw [checkE_zero]
  constructor
  · rintro ⟨hl, h⟩
    have hz : ∀ i (hi : i < t.length), _ := fun i hi => (fileE_zero okP).1 (h i hi hi)
    have hs : ∀ i j (hi : i < t.length) (hj : j < t.length), i < j → pth t[i] < pth t[j] := by
      intro i j hi hj hij
      induction j with
      | zero => omega
      | succ j ih =>
        have h1 := (hz (j + 1) hj).2.2.1 t[j] (by omega) (by rw [Nat.add_sub_cancel, List.getElem?_eq_getElem (by omega)])
        by_cases e : i = j
        · subst e; exact h1
        · exact lt_trans (ih (by omega) (by omega)) h1
    refine ⟨hl, fun f hf => ?_, fun f hf => ?_, ?_, fun f hf g hg => ?_⟩
    · obtain ⟨i, hi, rfl⟩ := List.getElem_of_mem hf; exact (hz i hi).1
    · obtain ⟨i, hi, rfl⟩ := List.getElem_of_mem hf; exact (hz i hi).2.1
    · rw [List.pairwise_iff_getElem]; exact hs
    · obtain ⟨i, hi, rfl⟩ := List.getElem_of_mem hf
      obtain ⟨j, hj, rfl⟩ := List.getElem_of_mem hg
      rcases Nat.lt_trichotomy i j with h1 | h1 | h1
      · rw [Bool.eq_false_iff]
        intro hb
        exact lt_irrefl _ (lt_trans (hs i j hi hj h1) (below_lt hb))
      · subst h1; exact below_self _
      · refine (hz i hi).2.2.2 t[j] ?_
        have : (t.take i)[j]'(by simp; omega) = t[j] := by simp
        rw [← this]
        exact List.getElem_mem _
  · intro h
    refine ⟨h.few, fun i hi _ => (fileE_zero okP).2 ⟨h.path _ (List.getElem_mem hi), h.size _ (List.getElem_mem hi), fun g hk hg => ?_, fun g hg => ?_⟩⟩
    · have hk1 : i - 1 < t.length := by omega
      rw [List.getElem?_eq_getElem hk1] at hg
      cases hg
      exact List.pairwise_iff_getElem.1 h.sorted (i - 1) i hk1 hi (by omega)
    · exact h.apart _ (List.getElem_mem hi) g (List.mem_of_mem_take hg)
end

/-! ### Finding -/
/-- The first k files have another path. -/
def noTo (t : Tr) (p : Bs) (k : Nat) : Prop := ∀ i (h : i < t.length), i < k → pth t[i] ≠ p
def findT (t : Tr) (p : Bs) : Option File := t.find? fun f => decide (pth f = p)
def idxT (t : Tr) (p : Bs) : Option Nat := t.findIdx? fun f => decide (pth f = p)
theorem noTo_zero (t : Tr) (p : Bs) : noTo t p 0 := fun _ _ h => absurd h (Nat.not_lt_zero _)
theorem noTo_succ {t : Tr} {p : Bs} {k : Nat} (h : noTo t p k) (hk : k < t.length) (h1 : pth t[k] ≠ p) : noTo t p (k + 1) := by
  intro i hi hik
  by_cases e : i = k
  · subst e; exact h1
  · exact h i hi (by omega)
theorem findT_at {t : Tr} {p : Bs} {k : Nat} (h : noTo t p k) (hk : k < t.length) (he : pth t[k] = p) : findT t p = some t[k] := by
  unfold findT
  rw [List.find?_eq_some_iff_getElem]
  exact ⟨by simpa using he, k, hk, rfl, fun j hj => by simpa using h j (by omega) hj⟩
theorem findT_none {t : Tr} {p : Bs} (h : noTo t p t.length) : findT t p = none := by
  unfold findT
  rw [List.find?_eq_none]
  intro x hx
  obtain ⟨i, hi, rfl⟩ := List.getElem_of_mem hx
  simpa using h i hi hi
theorem idxT_at {t : Tr} {p : Bs} {k : Nat} (h : noTo t p k) (hk : k < t.length) (he : pth t[k] = p) : idxT t p = some k := by
  unfold idxT
  rw [List.findIdx?_eq_some_iff_getElem]
  exact ⟨hk, by simpa using he, fun j hj => by simpa using h j (by omega) hj⟩
theorem idxT_none {t : Tr} {p : Bs} (h : noTo t p t.length) : idxT t p = none := by
  unfold idxT
  rw [List.findIdx?_eq_none_iff]
  intro x hx
  obtain ⟨i, hi, rfl⟩ := List.getElem_of_mem hx
  simpa using h i hi hi
theorem idxT_some {t : Tr} {p : Bs} {k : Nat} (h : idxT t p = some k) : ∃ hk : k < t.length, pth t[k] = p ∧ noTo t p k ∧ findT t p = some t[k] := by
  unfold idxT at h
  rw [List.findIdx?_eq_some_iff_getElem] at h
  obtain ⟨hk, h1, h2⟩ := h
  have h3 : noTo t p k := fun i hi hik => by simpa using h2 i hik
  have h4 : pth t[k] = p := by simpa using h1
  exact ⟨hk, h4, h3, findT_at h3 hk h4⟩
theorem idxT_no {t : Tr} {p : Bs} (h : idxT t p = none) : noTo t p t.length ∧ findT t p = none := by
  unfold idxT at h
  rw [List.findIdx?_eq_none_iff] at h
  have h1 : noTo t p t.length := fun i hi _ => by simpa using h _ (List.getElem_mem hi)
  exact ⟨h1, findT_none h1⟩

/-! ### Putting, dropping -/
abbrev Srt (t : Tr) : Prop := t.Pairwise fun f g => pth f < pth g
def insT (t : Tr) (f : File) : Tr := (t.filter fun g => decide (pth g < pth f)) ++ f :: t.filter fun g => decide (pth f < pth g)
def dropT (t : Tr) (p : Bs) : Tr := t.filter fun g => decide (pth g ≠ p)
theorem srt_lt {t : Tr} (h : Srt t) {i j : Nat} (hi : i < t.length) (hj : j < t.length) (hij : i < j) : pth t[i] < pth t[j] := List.pairwise_iff_getElem.1 h i j hi hj hij
theorem filter_all {t : Tr} {p : File → Bool} (h : ∀ g ∈ t, p g = true) : t.filter p = t := List.filter_eq_self.2 h
theorem filter_no {t : Tr} {p : File → Bool} (h : ∀ g ∈ t, p g = false) : t.filter p = [] := List.filter_eq_nil_iff.2 fun g hg => by rw [h g hg]; exact Bool.false_ne_true
theorem mem_take {t : Tr} {k : Nat} {g : File} (h : g ∈ t.take k) : ∃ i, ∃ h : i < t.length, i < k ∧ t[i] = g := by
  obtain ⟨i, hi, rfl⟩ := List.getElem_of_mem h
  simp only [List.length_take] at hi
  exact ⟨i, by omega, by omega, by simp⟩
theorem mem_drop {t : Tr} {k : Nat} {g : File} (h : g ∈ t.drop k) : ∃ i, ∃ h : i < t.length, k ≤ i ∧ t[i] = g := by
  obtain ⟨i, hi, rfl⟩ := List.getElem_of_mem h
  simp only [List.length_drop] at hi
  exact ⟨k + i, by omega, by omega, by simp⟩
/-- Parted at place k: what lies before it is less. -/
theorem split_lt {t : Tr} {p : Bs} {k : Nat} (h1 : ∀ i (h : i < t.length), i < k → pth t[i] < p) (h2 : ∀ i (h : i < t.length), k ≤ i → ¬ pth t[i] < p) : (t.filter fun g => decide (pth g < p)) = t.take k := by
  conv => lhs; rw [← List.take_append_drop k t]
  rw [List.filter_append, filter_all, filter_no, List.append_nil]
  · intro g hg
    obtain ⟨i, hi, hk, rfl⟩ := mem_drop hg
    exact decide_eq_false (h2 i hi hk)
  · intro g hg
    obtain ⟨i, hi, hk, rfl⟩ := mem_take hg
    exact decide_eq_true (h1 i hi hk)
theorem split_gt {t : Tr} {p : Bs} {k : Nat} (h1 : ∀ i (h : i < t.length), i < k → ¬ p < pth t[i]) (h2 : ∀ i (h : i < t.length), k ≤ i → p < pth t[i]) : (t.filter fun g => decide (p < pth g)) = t.drop k := by
  conv => lhs; rw [← List.take_append_drop k t]
  rw [List.filter_append, filter_no, List.nil_append, filter_all]
  · intro g hg
    obtain ⟨i, hi, hk, rfl⟩ := mem_drop hg
    exact decide_eq_true (h2 i hi hk)
  · intro g hg
    obtain ⟨i, hi, hk, rfl⟩ := mem_take hg
    exact decide_eq_false (h1 i hi hk)
/-- A file of the path is replaced. -/
theorem set_ins {t : Tr} (h : Srt t) {f : File} {k : Nat} (hk : k < t.length) (he : pth t[k] = pth f) : t.set k f = insT t f := by
  unfold insT
  rw [split_lt (k := k) (fun i hi hik => by rw [← he]; exact srt_lt h hi hk hik) (fun i hi hik hlt => by
      rw [← he] at hlt
      rcases Nat.eq_or_lt_of_le hik with e | e
      · subst e; exact lt_irrefl _ hlt
      · exact lt_irrefl _ (lt_trans hlt (srt_lt h hk hi e))),
    split_gt (k := k + 1) (fun i hi hik hlt => by
      rw [← he] at hlt
      rcases Nat.lt_or_ge i k with e | e
      · exact lt_irrefl _ (lt_trans hlt (srt_lt h hi hk e))
      · obtain rfl : i = k := by omega
        exact lt_irrefl _ hlt) (fun i hi hik => by rw [← he]; exact srt_lt h hk hi (by omega))]
  rw [List.set_eq_take_append_cons_drop, if_pos hk]
/-- No file of the path: it is put in its place. -/
theorem put_ins {t : Tr} {f : File} {k : Nat} (h1 : ∀ i (h : i < t.length), i < k → pth t[i] < pth f) (h2 : ∀ i (h : i < t.length), k ≤ i → pth f < pth t[i]) : t.take k ++ f :: t.drop k = insT t f := by
  unfold insT
  rw [split_lt (k := k) h1 (fun i hi hik hlt => lt_irrefl _ (lt_trans hlt (h2 i hi hik))), split_gt (k := k) (fun i hi hik hlt => lt_irrefl _ (lt_trans hlt (h1 i hi hik))) h2]
theorem filter_two (p : File → Bool) : ∀ t : Tr, (t.filter p).length + (t.filter fun g => !p g).length = t.length
  | [] => rfl
  | x :: t => by
    have ih := filter_two p t
    rw [List.filter_cons, List.filter_cons]
    cases hx : p x <;> simp <;> omega
theorem insT_length {t : Tr} (h : Srt t) (f : File) : (insT t f).length = if (idxT t (pth f)).isSome then t.length else t.length + 1 := by
  cases hi : idxT t (pth f) with
  | some k =>
    obtain ⟨hk, he, _⟩ := idxT_some hi
    rw [← set_ins h hk he]
    simp
  | none =>
    have hn := (idxT_no hi).1
    have e : ∀ g ∈ t, (decide (pth f < pth g)) = !decide (pth g < pth f) := by
      intro g hg
      obtain ⟨i, hi, rfl⟩ := List.getElem_of_mem hg
      rcases lt_ways (pth f) (pth t[i]) with h1 | h1 | h1
      · rw [decide_eq_true h1, decide_eq_false fun h2 => lt_irrefl _ (lt_trans h1 h2)]; rfl
      · exact absurd h1.symm (hn i hi hi)
      · rw [decide_eq_true h1, decide_eq_false fun h2 => lt_irrefl _ (lt_trans h1 h2)]; rfl
    unfold insT
    rw [List.length_append, List.length_cons, List.filter_congr e]
    have := filter_two (fun g => decide (pth g < pth f)) t
    simp only [Option.isSome_none, Bool.false_eq_true, if_false]
    omega
/-- The reference's loop of Put, behind k files: what came out, and whether the file was put. -/
def putK (t : Tr) (f : File) : Nat → Tr × Bool
  | 0 => ([], false)
  | k + 1 => match t[k]? with
    | some x =>
      let s := putK t f k
      let o := if !s.2 && decide (pth f ≤ pth x) then s.1 ++ [f] else s.1
      (if pth x ≠ pth f then o ++ [x] else o, s.2 || decide (pth f ≤ pth x))
    | none => putK t f k
theorem putK_ins {t : Tr} (h : Srt t) (f : File) : ∀ k, k ≤ t.length → putK t f k = (if (t.take k).any (fun g => decide (pth f ≤ pth g)) then insT (t.take k) f else t.take k, (t.take k).any fun g => decide (pth f ≤ pth g))
  | 0, _ => rfl
  | k + 1, hk => by
    have ih := putK_ins h f k (by omega)
    have hkl : k < t.length := by omega
    have hlt : ∀ g ∈ t.take k, pth g < pth t[k] := by
      intro g hg
      obtain ⟨i, hi, hik, rfl⟩ := mem_take hg
      exact srt_lt h hi hkl hik
    rw [putK, List.getElem?_eq_getElem hkl]
    simp only [ih]
    rw [List.take_succ_eq_append_getElem hkl, List.any_append]
    simp only [List.any_cons, List.any_nil, Bool.or_false]
    have hins : ∀ (l : Tr) (x : File), insT (l ++ [x]) f = (l.filter (fun g => decide (pth g < pth f)) ++ (if pth x < pth f then [x] else [])) ++ f :: (l.filter (fun g => decide (pth f < pth g)) ++ (if pth f < pth x then [x] else [])) := by
      intro l x
      unfold insT
      rw [List.filter_append, List.filter_append]
      simp only [List.filter_cons, List.filter_nil, decide_eq_true_eq]
    cases ha : (t.take k).any fun g => decide (pth f ≤ pth g) with
    | true =>
      obtain ⟨g, hg, hle⟩ := List.any_eq_true.1 ha
      have hle := of_decide_eq_true hle
      have hfx : pth f < pth t[k] := by
        rcases List.le_iff_lt_or_eq.1 hle with h1 | h1
        · exact lt_trans h1 (hlt g hg)
        · rw [h1]; exact hlt g hg
      have hne : pth t[k] ≠ pth f := fun e => lt_irrefl _ (e ▸ hfx)
      simp only [Bool.not_true, Bool.false_and, Bool.false_eq_true, if_false, if_true, Bool.true_or]
      rw [if_pos hne, hins, if_neg fun h1 => lt_irrefl _ (lt_trans h1 hfx), if_pos hfx]
      unfold insT
      simp
    | false =>
      have hno : ∀ g ∈ t.take k, pth g < pth f := by
        intro g hg
        have := List.any_eq_false.1 ha g hg
        exact lt_of_not_le (by simpa using this)
      have e1 : (t.take k).filter (fun g => decide (pth g < pth f)) = t.take k := filter_all fun g hg => decide_eq_true (hno g hg)
      have e2 : (t.take k).filter (fun g => decide (pth f < pth g)) = [] := filter_no fun g hg => decide_eq_false fun h1 => lt_irrefl _ (lt_trans h1 (hno g hg))
      simp only [Bool.not_false, Bool.true_and, Bool.false_eq_true, if_false, Bool.false_or]
      by_cases hle : pth f ≤ pth t[k]
      · rw [decide_eq_true hle]
        simp only [if_true]
        rw [hins, e1, e2]
        rcases List.le_iff_lt_or_eq.1 hle with h1 | h1
        · rw [if_pos fun e => lt_irrefl _ (e ▸ h1), if_neg fun h2 => lt_irrefl _ (lt_trans h1 h2), if_pos h1]
          simp
        · rw [if_neg (by simp [h1]), if_neg (by rw [h1]; exact lt_irrefl _), if_neg (by rw [h1]; exact lt_irrefl _)]
          simp
      · rw [decide_eq_false hle]
        simp only [Bool.false_eq_true, if_false]
        rw [if_pos fun e => hle (by rw [e]; exact List.le_refl _)]
theorem putK_end {t : Tr} (h : Srt t) (f : File) : (if (putK t f t.length).2 then (putK t f t.length).1 else (putK t f t.length).1 ++ [f]) = insT t f := by
  rw [putK_ins h f _ (Nat.le_refl _), List.take_length]
  cases ha : t.any fun g => decide (pth f ≤ pth g) with
  | true => simp
  | false =>
    have hno : ∀ g ∈ t, pth g < pth f := by
      intro g hg
      have := List.any_eq_false.1 ha g hg
      exact lt_of_not_le (by simpa using this)
    simp only [Bool.false_eq_true, if_false]
    unfold insT
    rw [filter_all fun g hg => decide_eq_true (hno g hg), filter_no fun g hg => decide_eq_false fun h1 => lt_irrefl _ (lt_trans h1 (hno g hg))]
/-- One file is left out. -/
theorem erase_drop {t : Tr} (h : Srt t) {p : Bs} {k : Nat} (hk : k < t.length) (he : pth t[k] = p) : t.take k ++ t.drop (k + 1) = dropT t p := by
  unfold dropT
  conv => rhs; rw [← List.take_append_drop k t]
  rw [List.filter_append, List.drop_eq_getElem_cons hk, List.filter_cons, if_neg (by simp [he]), filter_all, filter_all]
  · intro g hg
    obtain ⟨i, hi, hik, rfl⟩ := mem_drop hg
    refine decide_eq_true fun e => ?_
    have := srt_lt h hk hi (by omega)
    rw [e, he] at this
    exact lt_irrefl _ this
  · intro g hg
    obtain ⟨i, hi, hik, rfl⟩ := mem_take hg
    refine decide_eq_true fun e => ?_
    have := srt_lt h hi hk hik
    rw [e, he] at this
    exact lt_irrefl _ this
theorem dropT_same {t : Tr} {p : Bs} : (dropT t p).length = t.length ↔ findT t p = none := by
  unfold dropT findT
  rw [List.length_filter_eq_length_iff, List.find?_eq_none]
  simp

end Go.Proofs.YtkeaoejgboefbaaGreatDoor.T
