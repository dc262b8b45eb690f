/- The texts Gg Gh LexT Gi Gj Gk of the seat, joined. -/
import Derived.Test.YtfbhchpbflaphaaGreatDoorS7
import Derived.StillTail
namespace Go.Proofs.YtfbhchpbflaphaaGreatDoor
open Go.RowKit Go.Maps Go.ChangeMaps
theorem findV_symP (l : List C.Sym) (t : List C.Sec) (x : ByteArray) : findV l x.data.toList = match L.symP (l, t) x with | some s => .tuple #[symV s, .bool true] | none => .tuple #[.agg #[.string ⟨#[]⟩, .int .i64 0, .int .i64 0], .bool false] := rfl
set_option maxRecDepth 8000 in
set_option maxHeartbeats 2000000 in
theorem mode_any (us : List C.Mem) (A : Option Addr) (c n u g : Nat) (x : ByteArray) (w : World) (hn : n = us.length) (c0 : w.cell? ⟨g, 0, none⟩ = some (.slice A n c)) (hA : SliceAt memR w (Old w) A c us) (hu : u < us.length) (hU : ∀ m ∈ us, m.2.1.length <= 128) :
 Calls Tryz.prog 80 #[.pointer (some ⟨g, 0, none⟩), .int .i64 (u : Int), .string x] w (Al (.int .i64 (L.modeP us[u].2 x)) w) := by
 have hun : u < n := by omega
 obtain ⟨b, off, s, SA, sc, SB, sd, rfl, hB, hgk, hs, hSA, hSB, x0, x1, x2⟩ := mem_getB hA hu
 have hl := hU _ (List.getElem_mem hu)
 have hf := findV_symP us[u].2.1 us[u].2.2 x
 obtain ⟨R, hR⟩ : ∃ R, R = L.modeP us[u].2 x := ⟨_, rfl⟩
 rw [<- hR]
 unfold L.modeP at hR
 have hpe : us[u].2 = (us[u].2.1, us[u].2.2) := rfl
 rw [hpe] at hR
 generalize us[u].2.1 = sy at *
 generalize us[u].2.2 = se at *
 obtain ⟨sn, hsn⟩ : ∃ q, q = sy.length := ⟨_, rfl⟩
 obtain ⟨sm, hsm⟩ : ∃ q, q = se.length := ⟨_, rfl⟩
 rw [<- hsn] at x1
 rw [<- hsm] at x2
 have HF := Lib.hid (Find_any sy SA SB sc sd sn sm x w hsn hSA (by omega))
 clear hn hA hu hU hB hgk hSA hSB hl hsn hsm hpe
 cases hsp : L.symP (sy, se) x with
 | none =>
  rw [hsp] at hR hf
  rw [hf] at HF
  have HR := Lib.hid hR
  clear hR hf hsp
  go_enter Tryz.func80, Tryz.ntmps80
  go_wp2_with fail
  refine HF.out.mono ?_
  rintro e w1 ⟨rfl, d1⟩
  have HX := Lib.hid d1
  clear d1
  go_wp2_with fail
  go_ret
  exact ⟨by rw [HR.out]; rfl, HX.out.alloc _⟩
 | some q =>
  rw [hsp] at hR hf
  rw [hf] at HF
  obtain ⟨qs, qm, qk⟩ := q
  have HR := Lib.hid hR
  clear hR hf hsp
  unfold symV at HF
  go_enter Tryz.func80, Tryz.ntmps80
  go_wp2_with fail
  refine HF.out.mono ?_
  rintro e w1 ⟨rfl, d1⟩
  have HX := Lib.hid d1
  clear d1
  go_wp2_with fail
  go_ret
  exact ⟨by rw [HR.out]; rfl, HX.out.alloc _⟩
def inObjV (r : Option (Int × Int)) : Value := match r with
 | none => .tuple #[.int .i64 (-1), .int .i64 6]
 | some (e, w) => .tuple #[.int .i64 (L.pick e w), .int .i64 0]
theorem mode_ways (m : Int) : (m = 1 /\ (m == 1) = true) ∨ (m = 2 /\ (m == 1) = false /\ (m == 2) = true) ∨ (m ≠ 1 /\ m ≠ 2 /\ (m == 1) = false /\ (m == 2) = false) := by
 by_cases h : m = 1
 ·exact Or.inl ⟨h, by simp [h]⟩
 ·by_cases h2 : m = 2
  ·exact Or.inr (Or.inl ⟨h2, by simp [h2], by simp [h2]⟩)
  ·exact Or.inr (Or.inr ⟨h, h2, by simp [h], by simp [h2]⟩)
set_option maxRecDepth 8000 in
set_option maxHeartbeats 2000000 in
theorem inObjects_any (E : L.Env) (A : Option Addr) (c n m g : Nat) (x : ByteArray) (w : World) (hn : n = E.units.length) (hm : m = E.objs.length) (c0 : w.cell? ⟨g, 0, none⟩ = some (.slice A n c)) (c1 : w.cell? ⟨g, 1, none⟩ = some (.int .i64 (m : Int)))
 (hA : SliceAt memR w (Old w) A c E.units) (hU : ∀ m ∈ E.units, m.2.1.length <= 128) :
 Calls Tryz.prog 79 #[.pointer (some ⟨g, 0, none⟩), .string x] w (Al (inObjV (L.scanO x E.objs 0 (-1) (-1))) w) := by
 have hm2 : m <= 9223372036854775807 := by
  have := hA.1
  have := hA.2.1
  unfold L.Env.units at this
  have : E.objs.length <= E.units.length := by unfold L.Env.units; simp
  omega
 obtain ⟨R, hR⟩ : ∃ R, R = inObjV (L.scanO x E.objs 0 (-1) (-1)) := ⟨_, rfl⟩
 rw [<- hR]
 have HR : Hid (R = inObjV (L.scanO x (E.objs.drop 0) (0 : Nat) (-1) (-1))) := hR
 have HMD := Lib.hid (fun W (h : Ext w W) u (hu : u < E.objs.length) => (show Calls Tryz.prog 80 #[.pointer (some ⟨g, 0, none⟩), .int .i64 (u : Int), .string x] W (Al (.int .i64 (L.modeP E.objs[u].2 x)) W) from by
  have hul : u < E.units.length := by unfold L.Env.units; rw [List.length_append]; omega
  have := mode_any E.units A c n u g x W hn (h.keepc c0) (hA.ext h) hul hU
  have e : E.units[u] = E.objs[u] := by have := L.units_left hu; rw [List.getElem?_eq_getElem hul] at this; exact Option.some.inj this
  rwa [e] at this))
 have HM := Lib.hid hm
 clear hR hn hm hA hU
 go_enter Tryz.func79, Tryz.ntmps79
 go_wp2_with fail
 clear c0 c1
 go_loopw [6, 7, 13] (fun e v i wr => ∃ (k : Nat) (ex wk : Int), k <= m /\ i = .int .i64 k /\ e = .int .i64 ex /\ v = .int .i64 wk /\ -1 <= ex /\ ex < k /\ -1 <= wk /\ wk < k /\ Hid (R = inObjV (L.scanO x (E.objs.drop k) k ex wk) /\ Ext w wr)) (fun _ _ i _ => m - (intOf i).toNat)
 case atStart => exact ⟨0, -1, -1, Nat.zero_le _, rfl, rfl, rfl, by omega, by omega, by omega, by omega, HR.out, Ext.refl w⟩
 case round =>
  obtain ⟨k, ex, wk, hk, rfl, rfl, rfl, he1, he2, hw1, hw2, HK⟩ := hrel
  by_cases hlt : k < m
  ·have hkz : k < E.objs.length := by rw [<- HM.out]; exact hlt
   have hst := HK.out.1
   rw [L.scanO_step hkz] at hst
   have HC := Lib.hid (HMD.out wr HK.out.2 k hkz)
   have HX := Lib.hid HK.out.2
   generalize L.modeP E.objs[k].2 x = md at HC hst
   clear HK
   rcases mode_ways md with ⟨rfl, hd1⟩ | ⟨rfl, hd1, hd2⟩ | ⟨h1, h2, hd1, hd2⟩
   ·rw [if_pos rfl] at hst
    by_cases h0 : 0 <= ex
    ·rw [if_pos h0] at hst
     have HR2 := Lib.hid hst
     have hd0 : decide (0 <= ex) = true := decide_eq_true h0
     clear hst
     go_wp2_with fail
     refine HC.out.mono ?_
     rintro e w1 ⟨rfl, d1⟩
     have HX2 := Lib.hid (HX.out.trans d1)
     clear d1
     go_wp2_with fail
     go_ret2
     exact ⟨by rw [HR2.out]; rfl, HX2.out⟩
    ·rw [if_neg h0] at hst
     have HR2 := Lib.hid hst
     have hd0 : decide (0 <= ex) = false := decide_eq_false h0
     clear hst
     go_wp2_with fail
     refine HC.out.mono ?_
     rintro e w1 ⟨rfl, d1⟩
     have HX2 := Lib.hid (HX.out.trans d1)
     clear d1
     go_wp2_with fail
     go_roundw
     case rel => exact ⟨k + 1, k, wk, by omega, by go_num, rfl, rfl, by omega, by omega, by omega, by omega, HR2.out, HX2.out⟩
     case measure => simp [intOf]; omega
   ·rw [if_neg (by decide)] at hst
    by_cases h0 : wk < 0
    ·rw [if_pos ⟨rfl, h0⟩] at hst
     have HR2 := Lib.hid hst
     have hd0 : decide (wk < 0) = true := decide_eq_true h0
     clear hst
     go_wp2_with fail
     refine HC.out.mono ?_
     rintro e w1 ⟨rfl, d1⟩
     have HX2 := Lib.hid (HX.out.trans d1)
     clear d1
     go_wp2_with fail
     go_roundw
     case rel => exact ⟨k + 1, ex, k, by omega, by go_num, rfl, rfl, by omega, by omega, by omega, by omega, HR2.out, HX2.out⟩
     case measure => simp [intOf]; omega
    ·rw [if_neg (fun h => h0 h.2)] at hst
     have HR2 := Lib.hid hst
     have hd0 : decide (wk < 0) = false := decide_eq_false h0
     clear hst
     go_wp2_with fail
     refine HC.out.mono ?_
     rintro e w1 ⟨rfl, d1⟩
     have HX2 := Lib.hid (HX.out.trans d1)
     clear d1
     go_wp2_with fail
     go_roundw
     case rel => exact ⟨k + 1, ex, wk, by omega, by go_num, rfl, rfl, by omega, by omega, by omega, by omega, HR2.out, HX2.out⟩
     case measure => simp [intOf]; omega
   ·rw [if_neg h1, if_neg (fun h => h2 h.1)] at hst
    have HR2 := Lib.hid hst
    clear hst
    go_wp2_with fail
    refine HC.out.mono ?_
    rintro e w1 ⟨rfl, d1⟩
    have HX2 := Lib.hid (HX.out.trans d1)
    clear d1
    go_wp2_with fail
    go_roundw
    case rel => exact ⟨k + 1, ex, wk, by omega, by go_num, rfl, rfl, by omega, by omega, by omega, by omega, HR2.out, HX2.out⟩
    case measure => simp [intOf]; omega
  ·have hst := HK.out.1
   rw [L.scanO_end (by have := HM.out; omega)] at hst
   have HX := Lib.hid HK.out.2
   replace hst : R = .tuple #[.int .i64 (if 0 <= ex then ex else wk), .int .i64 0] := hst
   clear HK
   by_cases h0 : 0 <= ex
   ·have hd0 : decide (0 <= ex) = true := decide_eq_true h0
    rw [if_pos h0] at hst
    have HR2 := Lib.hid hst
    clear hst
    go_wp2_with fail
    go_ret2
    exact ⟨by rw [HR2.out]; rfl, HX.out⟩
   ·have hd0 : decide (0 <= ex) = false := decide_eq_false h0
    rw [if_neg h0] at hst
    have HR2 := Lib.hid hst
    clear hst
    go_wp2_with fail
    go_ret2
    exact ⟨by rw [HR2.out]; rfl, HX.out⟩
end Go.Proofs.YtfbhchpbflaphaaGreatDoor

namespace Go.Proofs.YtfbhchpbflaphaaGreatDoor
open Go.RowKit Go.Maps Go.ChangeMaps
def noQexp (q : L.Expd -> Bool) (t : List L.Expd) (k : Nat) : Prop := ∀ i (h : i < t.length), i < k -> q t[i] = false
set_option maxRecDepth 8000 in
set_option maxHeartbeats 2000000 in
theorem IndexFunc_exp (q : L.Expd -> Bool) (g bp0 : Nat) (eg : ∀ (args : Array Value) (w : World), (callFunc g args).run Tryz.prog w = .ok (.enter g args) w) (t : List L.Expd) (A : Option Addr) (c n : Nat) (w : World) (hn : n = t.length) (hA : SliceAt expR w (Old w) A c t)
 (hc : ∀ f ∈ t, ∀ W v, Ext w W -> Hid (v = .agg #[.string f.1, .int .i64 f.2]) -> Calls Tryz.prog g #[v, .pointer (some ⟨bp0, 0, none⟩)] W (Al (.bool (q f)) W)) :
 Calls Tryz.prog 112 #[.slice A n c, .func (.func g) #[] #[.pointer (some ⟨bp0, 0, none⟩)]] w (Al (.int .i64 (idxI (t.findIdx? q))) w) := by
 have hn2 : n <= 9223372036854775807 := by have := hA.1; have := hA.2.1; omega
 have HN := Lib.hid hn
 have HA := Lib.hid hA
 obtain ⟨R, hR⟩ : ∃ R, R = idxI (t.findIdx? q) := ⟨_, rfl⟩
 rw [<- hR]
 have HR := Lib.hid hR
 have HC1 := Lib.hid hc
 clear hn hA hc hR
 go_enter Tryz.func112, Tryz.ntmps112
 go_wp2_with fail
 go_loopw [5, 8] (fun _ i wr => ∃ k : Nat, k <= n /\ i = .int .i64 k /\ Hid (noQexp q t k /\ Ext w wr)) (fun _ i _ => n - (intOf i).toNat)
 case atStart => exact ⟨0, Nat.zero_le _, rfl, fun _ _ h => absurd h (Nat.not_lt_zero _), Ext.refl w⟩
 case round =>
  obtain ⟨k, hk, rfl, HK⟩ := hrel
  by_cases hlt : k < n
  ·have hkl : k < t.length := by rw [<- HN.out]; exact hlt
   obtain ⟨b, off, hAe, hb, hs, hw, c0, c1⟩ := exp_get (HA.out.ext HK.out.2) hkl
   subst hAe; have HEL : Hid (Value.agg #[.string t[k].1, .int .i64 t[k].2] = .agg #[.string t[k].1, .int .i64 t[k].2]) := rfl
   have HY : Hid (q t[k] = true -> R = (k : Int)) := fun he => by
    rw [HR.out, List.findIdx?_eq_some_iff_getElem.2 ⟨hkl, he, fun j hj => by rw [HK.out.1 j (by omega) hj]; exact Bool.false_ne_true⟩]; rfl
   have HNO : Hid (q t[k] = false -> noQexp q t (k + 1)) := fun he i hi hik => by
    by_cases e : i = k
    ·subst e; exact he
    ·exact HK.out.1 i hi (by omega)
   have HX := Lib.hid HK.out.2
   have HCALL := Lib.hid (HC1.out t[k] (List.getElem_mem hkl) wr _ HK.out.2 HEL)
   clear HK HEL
   generalize q t[k] = bb at HY HNO HCALL
   cases bb
   ·have HQ := Lib.hid (HNO.out rfl)
    clear HY HNO
    go_wp2_with (go_at_fn g; refine HCALL.out.mono ?_; rintro e w1 ⟨rfl, d1⟩)
    go_roundw
    case rel => exact ⟨k + 1, by omega, by go_num, HQ.out, HX.out.trans d1⟩
    case measure => simp [intOf]; omega
   ·have HQ := Lib.hid (HY.out rfl)
    clear HY HNO
    go_wp2_with (go_at_fn g; refine HCALL.out.mono ?_; rintro e w1 ⟨rfl, d1⟩)
    go_ret
    exact ⟨by rw [HQ.out]; rfl, HX.out.trans d1⟩
  ·have HQ : Hid (R = -1) := by
    unfold Hid
    rw [HR.out, List.findIdx?_eq_none_iff.2 fun x hx => by
     obtain ⟨i, hi, rfl⟩ := List.getElem_of_mem hx
     exact HK.out.1 i hi (by have := HN.out; omega)]
    rfl
   have HX := Lib.hid HK.out.2
   have hdk : decide (k < n) = false := decide_eq_false hlt
   clear HK hk
   go_wp2_with fail
   go_ret
   exact ⟨by rw [HQ.out]; rfl, HX.out⟩
set_option maxRecDepth 8000 in
theorem ContainsFunc_exp (q : L.Expd -> Bool) (g bp0 : Nat) (eg : ∀ (args : Array Value) (w : World), (callFunc g args).run Tryz.prog w = .ok (.enter g args) w) (t : List L.Expd) (A : Option Addr) (c n : Nat) (w : World) (hn : n = t.length) (hA : SliceAt expR w (Old w) A c t)
 (hc : ∀ f ∈ t, ∀ W v, Ext w W -> Hid (v = .agg #[.string f.1, .int .i64 f.2]) -> Calls Tryz.prog g #[v, .pointer (some ⟨bp0, 0, none⟩)] W (Al (.bool (q f)) W)) :
 Calls Tryz.prog 81 #[.slice A n c, .func (.func g) #[] #[.pointer (some ⟨bp0, 0, none⟩)]] w (Al (.bool (t.any q)) w) := by
 have HI := Lib.hid (IndexFunc_exp q g bp0 eg t A c n w hn hA hc)
 have he : decide (0 <= idxI (t.findIdx? q)) = t.any q := by
  cases h : t.findIdx? q with
  | none =>
   rw [List.findIdx?_eq_none_iff] at h
   have : t.any q = false := by rw [List.any_eq_false]; intro x hx; rw [h x hx]; exact Bool.false_ne_true
   rw [this]
   rfl
  | some i =>
   rw [List.findIdx?_eq_some_iff_getElem] at h
   obtain ⟨hi, h1, _⟩ := h
   have : t.any q = true := by rw [List.any_eq_true]; exact ⟨_, List.getElem_mem hi, h1⟩
   rw [this]
   simp [idxI]
 generalize idxI (t.findIdx? q) = R at HI he
 generalize t.any q = bb at he
 clear hn hA hc eg
 go_enter Tryz.func81, Tryz.ntmps81
 go_wp2_with fail
 refine HI.out.mono ?_
 rintro e w1 ⟨rfl, d1⟩
 have X1 := Lib.hid d1
 clear d1
 go_wp2_with fail
 go_ret
 exact ⟨by simp, X1.out⟩
theorem eg82 : ∀ (args : Array Value) (w : World), (callFunc 82 args).run Tryz.prog w = .ok (.enter 82 args) w := enters_of Tryz.func82 (by kernel_rfl) rfl
set_option maxHeartbeats 400000 in
theorem isexp_any (s x : ByteArray) (m : Int) (bp : Nat) (w : World) (c1 : w.cell? ⟨bp, 0, none⟩ = some (.string x)) :
 Calls Tryz.prog 82 #[.agg #[.string s, .int .i64 m], .pointer (some ⟨bp, 0, none⟩)] w (Al (.bool (s.data.toList == x.data.toList)) w) := by
 have d1 := alloc_keepc (.cells #[.string s, .int .i64 m] 74) c1
 clear c1
 rw [<- ByteArray.toList_eq s, <- ByteArray.toList_eq x]
 generalize hb : (s.toList == x.toList) = b
 go_enter Tryz.func82, Tryz.ntmps82
 go_wp2_with fail
 go_ret
 exact ⟨rfl, (Ext.refl w).alloc _⟩
theorem hasExp_any (l : List L.Expd) (A : Option Addr) (c n bp : Nat) (x : ByteArray) (w : World) (hn : n = l.length) (hA : SliceAt expR w (Old w) A c l) (c1 : w.cell? ⟨bp, 0, none⟩ = some (.string x)) :
 Calls Tryz.prog 81 #[.slice A n c, .func (.func 82) #[] #[.pointer (some ⟨bp, 0, none⟩)]] w (Al (.bool (l.any fun y => y.1.data.toList == x.data.toList)) w) :=
 ContainsFunc_exp (fun y => y.1.data.toList == x.data.toList) 82 bp eg82 l A c n w hn hA fun f _ W v hW hv => by
  rw [hv.out]
  exact isexp_any f.1 x f.2 bp W (hW.keepc c1)
end Go.Proofs.YtfbhchpbflaphaaGreatDoor

namespace Go.Proofs.YtfbhchpbflaphaaGreatDoor
open Go.RowKit
section
variable {P : Program} {ops : Array Oper} {md : Region.Mode} {C : World -> Prop} {E : List Nat}
def wpAnyT (P : Program) (md : Region.Mode) (ops : Array Oper) (C : World -> Prop) (E : List Nat) (n : Nat) (L : Array Bool -> Act -> World -> Prop) : Nat -> Array Bool -> Act -> World -> Prop
 | 0, listed, a, w => L listed a w
 | fuel + 1, listed, a, w =>
  Region.ready md ops listed ≠ [] /\ ∀ i ∈ Region.ready md ops listed, i < n /\ xOp P ops C E i (wpAnyT P md ops C E n L fuel (listed.setIfInBounds i true)) a w
theorem T_first {n i : Nat} {oi : Oper} {L : Array Bool -> Act -> World -> Prop} (hi : ops[i]? = some oi) (hsel : ∀ (j : Nat) (o : Oper) cs b, ops[j]? = some o -> o.op ≠ .select cs b)
 (hs : Region.sinkB md ops n = true) (hc : Region.chainB md ops n = true) (hn : n < ops.size) (hin : i < n)
 (hdone : ∀ listed a w, L listed a w -> ∀ j ∈ Region.ready md ops listed, n <= j) :
 ∀ (fuel : Nat) (listed : Array Bool) (a : Act) (w : World), C w -> HeadInv md ops n listed ->
  (∀ j oj, ops[j]? = some oj -> j ≠ i -> listed.getD j true = false -> (∀ e ∈ oj.after, Region.binds md e = true -> e.on ≠ i) -> oi.apart ops oj = true) ->
  (i ∈ E -> ∀ j, j ∈ E -> j ≠ i -> listed.getD j true = false -> j ∈ waiters md ops i ops.size) ->
  i ∈ Region.ready md ops listed -> xOp P ops C E i (wpAnyT P md ops C E n L fuel (listed.setIfInBounds i true)) a w -> wpAnyT P md ops C E n L (fuel + 1) listed a w := by
 intro fuel
 induction fuel with
 | zero =>
  intro listed a w _ inv _ _ hr H
  have hun := (mem_ready.1 hr).1
  refine ⟨fun h => (by rw [h] at hr; cases hr), fun j hj => ?_⟩
  have hjn : j < n := by
   rcases Nat.lt_or_ge j n with h | h
   ·exact h
   ·exact absurd hj (tail_waits hs hc hn inv _ i rfl hin hun j h)
  refine ⟨hjn, ?_⟩
  by_cases hji : j = i
  ·subst hji; exact H
  ·obtain ⟨a', w', h0⟩ := xOp_some H
   have := hdone _ _ _ h0 j (ready_mono hj hji)
   omega
 | succ fuel ih =>
  intro listed a w hC inv hfree heff hr H
  have hun := (mem_ready.1 hr).1
  refine ⟨fun h => (by rw [h] at hr; cases hr), fun j hj => ?_⟩
  have hjn : j < n := by
   rcases Nat.lt_or_ge j n with h | h
   ·exact h
   ·exact absurd hj (tail_waits hs hc hn inv _ i rfl hin hun j h)
  refine ⟨hjn, ?_⟩
  by_cases hji : j = i
  ·subst hji; exact H
  ·obtain ⟨hjun, oj, hoj, hall⟩ := mem_ready.1 hj
   have hif : listed.getD i false = false := getD_both hun
   have hnot : ∀ e ∈ oj.after, Region.binds md e = true -> e.on ≠ i := fun e he hb heq => by
    have h1 := hall e he hb
    rw [heq, hif] at h1
    cases h1
   have hE : ¬ (i ∈ E /\ j ∈ E) := fun ⟨h1, h2⟩ => by
    have := waiters_spec inv.closed _ j oj hoj (heff h1 j h2 hji hjun) hall
    rw [hif] at this
    cases this
   have h1 : xOp P ops C E i (fun a1 w1 => xOp P ops C E j (wpAnyT P md ops C E n L fuel ((listed.setIfInBounds i true).setIfInBounds j true)) a1 w1) a w :=
    xOp_mono hC (fun a1 w1 _ h => (h.2 j (ready_mono hj hji)).2) H
   have h2 := xOp_swap hi hoj (hfree j oj hoj hji hjun hnot) (fun cs b => hsel i oi cs b hi) (fun cs b => hsel j oj cs b hoj) hE hC h1
   refine xOp_mono hC (fun a1 w1 hC1 h3 => ih (listed.setIfInBounds j true) a1 w1 hC1 (inv.set hj hjn) ?_ ?_ (ready_mono hr (Ne.symm hji)) ?_) h2
   ·intro k ok hk hki hun' hno
    refine hfree k ok hk hki ?_ hno
    by_cases hjk : j = k
    ·subst hjk; exact hjun
    ·rw [getD_set_ne true hjk] at hun'; exact hun'
   ·intro h1 k hk hki hun'
    refine heff h1 k hk hki ?_
    by_cases hjk : j = k
    ·subst hjk; exact hjun
    ·rw [getD_set_ne true hjk] at hun'; exact hun'
   ·rw [Array.setIfInBounds_comm _ _ hji]
    exact h3
theorem wpAnyT_lex {n g : Nat} {R : Act -> World -> Prop} (hsel : Region.noSelect ops = true) (hE : effOk md ops E = true) (hs : Region.sinkB md ops n = true) (hc : Region.chainB md ops n = true) (hn : n < ops.size) :
 ∀ (l : List Oper) (k : Nat) (listed : Array Bool) (a : Act) (w : World), C w -> (∀ j, j < k -> listed.getD j true = true) -> (∀ j, j < l.length -> l[j]? = ops[k + j]?) -> k + l.length = n -> HeadInv md ops n listed ->
 Region.lexHead md ops g l.length k listed = true -> wpLex P ops C E R k l a w ->
 wpAnyT P md ops C E n (fun listed' a' w' => Region.seqB md ops g n listed' = true /\ R a' w') l.length listed a w
 | [], k, listed, a, w, _, _, _, hk, _, hB, h => by
  have : k = n := by simpa using hk
  subst this
  exact ⟨by simpa [Region.lexHead] using hB, h⟩
 | o :: l, k, listed, a, w, hC, hlt, hl, hk, inv, hB, h => by
  have h0 : ops[k]? = some o := by simpa using (hl 0 (by simp)).symm
  simp only [List.length_cons, Region.lexHead, Bool.and_eq_true] at hB
  obtain ⟨⟨hr, hf⟩, hB'⟩ := hB
  have hkn : k < n := by simp only [List.length_cons] at hk; omega
  have hr' : k ∈ Region.ready md ops listed := by simpa using hr
  refine T_first h0 (Region.noSelect_spec hsel) hs hc hn hkn (fun listed' a' w' hL => seqB_ready hL.1) l.length listed a w hC inv (Region.free_spec h0 hf) ?_ hr' ?_
  ·intro hk j hj hjk hun
   have h1 := List.all_eq_true.1 (List.all_eq_true.1 hE k hk) j hj
   simp only [Bool.or_eq_true, decide_eq_true_eq, List.contains_iff_mem] at h1
   rcases h1 with h1 | h1
   ·rw [hlt j (by omega)] at hun; cases hun
   ·exact h1
  ·have hx : xOp P ops C E k (wpLex P ops C E R (k + 1) l) a w := by unfold xOp; simp only [h0]; exact h
   refine xOp_mono hC (fun a1 w1 hC1 h1 => wpAnyT_lex hsel hE hs hc hn l (k + 1) _ a1 w1 hC1 ?_ (fun j hj => by have := hl (j + 1) (by simp; omega); simpa [Nat.add_assoc, Nat.add_comm 1 j] using this) (by simp only [List.length_cons] at hk; omega) (inv.set hr' hkn) hB' h1) hx
   intro j hj
   by_cases hjk : k = j
   ·subst hjk
    rcases Nat.lt_or_ge k listed.size with h' | h'
    ·simp [h']
    ·simp
   ·rw [getD_set_ne true hjk]; exact hlt j (by omega)
theorem wpAny_of_T {n g : Nat} {L : Array Bool -> Act -> World -> Prop} {Q : Exit -> Act -> World -> Prop} (hL : ∀ listed a w, L listed a w -> wpAny P md ops Q g listed a w) :
 ∀ (f : Nat) (listed : Array Bool) (a : Act) (w : World), C w -> wpAnyT P md ops C E n L f listed a w -> wpAny P md ops Q (f + g) listed a w
 | 0, listed, a, w, _, h => by rw [Nat.zero_add]; exact hL _ _ _ h
 | f + 1, listed, a, w, hC, h => by
  rw [show f + 1 + g = (f + g) + 1 by omega]
  refine ⟨fun h0 => absurd h0 h.1, fun i hi => ?_⟩
  have hx := (h.2 i hi).2
  unfold xOp at hx
  unfold wpOp
  split
  ·rename_i ho; simp only [ho] at hx; exact wpAny_of_T hL f _ _ _ hC hx
  ·rename_i o ho
   simp only [ho] at hx
   split
   ·rename_i hw
    simp only [hw, if_true] at hx
    left
    split at hx
    ·exact wp_exits (Oper.wp_mono (fun a' w' ⟨h1, h2⟩ => wpAny_of_T hL f _ a' w' h1 h2) hx)
    ·obtain ⟨v, hv, hx⟩ := hx
     have hv := hv _ hC
     unfold pureAt at hv
     unfold Oper.wp
     generalize (execOp _ o).run P _ = r at hv ⊢
     cases r with
     | ok n w' =>
      cases n <;> simp only [pureUpon] at hv <;> simp only [Oper.upon]
      case value u => obtain ⟨rfl, rfl⟩ := hv; exact wpAny_of_T hL f _ _ _ hC hx
      case skip => obtain ⟨rfl, rfl⟩ := hv; exact wpAny_of_T hL f _ _ _ hC hx
     | halt _ _ => simp only [pureUpon] at hv
   ·rename_i hw
    simp only [hw] at hx
    exact wpAny_of_T hL f _ _ _ hC hx
theorem wp_region_tail {id : Nat} {Q : Exit -> Act -> World -> Prop} {a : Act} {w : World} {l : List Oper} (n : Nat) (E : List Nat) (Φ : World -> Prop) (h0 : Φ w.drew) (hm : P.follows .mixedOrders = true) (hB : Region.lexTailB .any l.toArray n = true) (hE : effOk .any l.toArray E = true)
 (h : wpLex P l.toArray (fun w' => ∃ x : Lat Φ, w' = x.w') E (fun a' w' => wpList P l.toArray Q (l.drop n) a' w') 0 (l.take n) a w.drew) : (Code.region id l.toArray true).wp P Q a w := by
 have hC : (fun w' => ∃ x : Lat Φ, w' = x.w') w.drew := ⟨⟨w.drew, h0⟩, rfl⟩
 simp only [Region.lexTailB, Bool.and_eq_true, decide_eq_true_eq] at hB
 obtain ⟨⟨⟨⟨hsel, hn⟩, hs⟩, hc⟩, hlex⟩ := hB
 have hn' : n < l.length := by simpa using hn
 have htl : (l.take n).length = n := by simp; omega
 have hdl : (l.drop n).length = l.toArray.size - n := by simp
 have inv0 : HeadInv .any l.toArray n (Array.replicate l.toArray.size false) :=
  ⟨by simp, fun j oj _ hl => (by rw [getD_replicate_false] at hl; cases hl), fun t _ ht => getD_in (by simpa using ht) (getD_replicate_false _ _)⟩
 have H := wpAnyT_lex (P := P) (md := .any) (g := l.toArray.size - n) hsel hE hs hc hn (l.take n) 0 _ a w.drew hC (fun j hj => absurd hj (Nat.not_lt_zero _)) (fun j hj => by
  have hj' : j < n := by rw [htl] at hj; exact hj
  simp [hj']) (by simpa using htl) inv0 (by rw [htl]; exact hlex) h
 refine wp_region_any hm ?_
 have := wpAny_of_T (Q := Q) (g := l.toArray.size - n) (fun listed a' w' hL => by
  have := wpAny_of_seq (md := .any) (Q' := Q) (l.drop n) n listed a' w' (fun j => by simp [List.getElem?_drop]) (by rw [hdl]; exact hL.1) hL.2
  rwa [hdl] at this) _ _ _ _ hC H
 rw [htl, show n + (l.toArray.size - n) = l.toArray.size by omega] at this
 exact this
end
end Go.Proofs.YtfbhchpbflaphaaGreatDoor

namespace Go.Proofs.YtfbhchpbflaphaaGreatDoor
open Go.RowKit Go.Maps Go.ChangeMaps
structure EnvOk (E : L.Env) : Prop where
 units : L.UnitsOk okN E
 few : E.units.length <= 100000
 fewL : E.libs.length <= 100000
 asked : (asked E).length < 1000000
 names : L.NamesOk E
 sizes : ∀ m ∈ E.units, m.1.size <= 3000000 /\ ∀ s ∈ m.2.1, s.1.size <= 9000000
theorem EnvOk.syms {E : L.Env} (h : EnvOk E) : ∀ m ∈ E.units, m.2.1.length <= 128 := fun m hm => (L.check_parts (h.units m hm)).1
theorem EnvOk.lens {E : L.Env} (h : EnvOk E) : E.objs.length + E.mems.length <= 100000 := by have := h.few; unfold L.Env.units at this; simpa using this
def RetHit (w : World) (S X : Nat -> Prop) (base g : Nat) (E : L.Env) (st : L.St) (M : List (List (Int × Int))) (k : LC) (h : L.Hit) (e : Ending) (w' : World) : Prop :=
 Tch X w w' /\ match h with
 | .twice => e = .returned (.tuple #[placeV (-1) (-1), .int .i64 6])
 | .unknown => e = .returned (.tuple #[placeV 0 0, .int .i64 8])
 | .unit u m => e = .returned (.tuple #[placeV u (-1), .int .i64 0]) /\ LinkAt w' S X base g E (L.note st (m, 0)) M k
 | .lib j => e = .returned (.tuple #[placeV (-1) j, .int .i64 0]) /\ LinkAt w' S X base g E (L.note st (E.mems.length, j + 1)) M k
theorem later_unit {x : ByteArray} {n i : Nat} {mems : List C.Mem} {libs : List L.Libr} (hi : i < mems.length) (hm : L.isDef x mems[i] = true) (hno : ∀ j (_ : j < mems.length), j < i -> L.isDef x mems[j] = false) : L.later x n mems libs = .unit (n + i) (i + 1) := by
 unfold L.later
 rw [List.findIdx?_eq_some_iff_getElem.2 ⟨hi, hm, fun j hj => by rw [hno j (by omega) hj]; exact Bool.false_ne_true⟩]
theorem later_lib {x : ByteArray} {n j : Nat} {mems : List C.Mem} {libs : List L.Libr} (hno : ∀ j (_ : j < mems.length), L.isDef x mems[j] = false) (hj : j < libs.length) (hm : L.isIn x libs[j] = true) (hl : ∀ i (_ : i < libs.length), i < j -> L.isIn x libs[i] = false) : L.later x n mems libs = .lib j := by
 unfold L.later
 rw [List.findIdx?_eq_none_iff.2 fun y hy => by obtain ⟨i, hi, rfl⟩ := List.getElem_of_mem hy; exact hno i hi]
 show (match libs.findIdx? (L.isIn x) with | some j => L.Hit.lib j | none => L.Hit.unknown) = .lib j
 rw [List.findIdx?_eq_some_iff_getElem.2 ⟨hj, hm, fun i hi => by rw [hl i (by omega) hi]; exact Bool.false_ne_true⟩]
theorem later_none {x : ByteArray} {n : Nat} {mems : List C.Mem} {libs : List L.Libr} (hno : ∀ j (_ : j < mems.length), L.isDef x mems[j] = false) (hl : ∀ i (_ : i < libs.length), L.isIn x libs[i] = false) : L.later x n mems libs = .unknown := by
 unfold L.later
 rw [List.findIdx?_eq_none_iff.2 fun y hy => by obtain ⟨i, hi, rfl⟩ := List.getElem_of_mem hy; exact hno i hi]
 show (match libs.findIdx? (L.isIn x) with | some j => L.Hit.lib j | none => L.Hit.unknown) = .unknown
 rw [List.findIdx?_eq_none_iff.2 fun y hy => by obtain ⟨i, hi, rfl⟩ := List.getElem_of_mem hy; exact hl i hi]
theorem LinkAt.mode {w : World} {S X : Nat -> Prop} {base g : Nat} {E : L.Env} {st : L.St} {M : List (List (Int × Int))} {k : LC} (h : LinkAt w S X base g E st M k) (hE : EnvOk E) {u : Nat} (hu : u < E.units.length) (x : ByteArray) :
 Calls Tryz.prog 80 #[.pointer (some ⟨g, 0, none⟩), .int .i64 (u : Int), .string x] w (Al (.int .i64 (L.modeP E.units[u].2 x)) w) :=
 mode_any E.units k.A k.c E.units.length u g x w rfl h.row.c0 h.unitsOld hu hE.syms
theorem Tch.cells {X : Nat -> Prop} {w w' : World} (h : Tch X w w') {b : Nat} {cs : Array Value} {t : TypeId} (hb : w.heap[b]? = some (.cells cs t (0, 0))) (hx : ¬ X b) : (∀ i, w'.cell? ⟨b, i, none⟩ = cs[i]?) /\ ∀ i, w'.frozen? ⟨b, i, none⟩ = false := by
 have hlt : b < w.heap.size := (hltA hb)
 have h' := (h.block b hlt hx).trans hb
 exact ⟨fun i => cell_of_row w' b i _ _ _ h', fun i => Lib.frozen_of_heap h' i⟩
attribute [local irreducible] wpLex
set_option maxRecDepth 8000 in
set_option maxHeartbeats 4000000 in
theorem search_any (w : World) (S X : Nat -> Prop) (base g : Nat) (E : L.Env) (st : L.St) (M : List (List (Int × Int))) (k : LC) (h : LinkAt w S X base g E st M k) (hE : EnvOk E) (x : ByteArray)
 (libs : List L.Libr) (D : Option Addr) (d q : Nat) (hq : q = libs.length) (hq2 : q <= 100000) (hD : SliceAt librR w (fun b => b < w.heap.size /\ ¬ X b) D d libs) :
 Calls Tryz.prog 47 #[.pointer (some ⟨g, 0, none⟩), .string x, .slice D q d] w (RetHit w S X base g E st M k (L.hit ⟨E.objs, E.mems, libs⟩ x)) := by
 obtain ⟨R, hR⟩ : ∃ R, R = L.hit ⟨E.objs, E.mems, libs⟩ x := ⟨_, rfl⟩
 rw [<- hR]
 unfold L.hit at hR
 replace hR : R = match L.scanO x E.objs 0 (-1) (-1) with | none => .twice | some (e, w) => if 0 <= L.pick e w then .unit (L.pick e w).toNat 0 else L.later x E.objs.length E.mems libs := hR
 have HIO := Lib.hid (fun W (hW : Ext w W) => inObjects_any E k.A k.c E.units.length E.objs.length g x W rfl rfl (hW.keepc h.row.c0) (hW.keepc h.row.c1) ((h.ext hW).unitsOld) hE.syms)
 have HSC := L.scan_all x E.objs
 have HL := Lib.hid h
 have HE := Lib.hid hE
 have HQ := Lib.hid hq
 have HD := Lib.hid hD
 clear h hE hq hD
 cases hs : L.scanO x E.objs 0 (-1) (-1) with
 | none =>
  rw [hs] at hR HIO
  have HIO2 : Hid (∀ W, Ext w W -> Calls Tryz.prog 79 #[.pointer (some ⟨g, 0, none⟩), .string x] W (Al (.tuple #[.int .i64 (-1), .int .i64 6]) W)) := HIO
  have HR := Lib.hid hR
  clear hR HIO hs HSC
  go_enter Tryz.func47, Tryz.ntmps47
  go_wp2_with fail
  refine (HIO2.out _ (((Ext.refl w).alloc _).alloc _)).mono ?_
  rintro e w1 ⟨rfl, d1⟩
  have hz : (w.alloc (.cells #[.string x] 9)).heap.size = w.heap.size + 1 := by simp
  have k0 := d1.keepc (cell_new _ #[.int .i64 0, .int .i64 0] 101 0)
  have k1 := d1.keepc (cell_new _ #[.int .i64 0, .int .i64 0] 101 1)
  have f0 := d1.keepf (by simp) (frozen_new _ #[.int .i64 0, .int .i64 0] 101 0)
  have f1 := d1.keepf (by simp) (frozen_new _ #[.int .i64 0, .int .i64 0] 101 1)
  rw [hz] at k0 k1 f0 f1
  have HW1 := Lib.hid (show Ext w w1 from (((Ext.refl w).alloc _).alloc _).trans d1)
  clear hz d1
  go_wp2_with fail
  refine bodyPost_ret (v := .tuple #[placeV (-1) (-1), .int .i64 6]) (by simp [results, Tryz.results47, go_sem, k0, k1, placeV]) rfl ⟨((HW1.out.tch X).setCell (fun hp => absurd hp (by simp)) _).setCell (fun hp => absurd hp (by simp)) _, ?_⟩
  rw [HR.out]
 | some ew =>
  obtain ⟨e0, w0⟩ := ew
  rw [hs] at hR HIO HSC
  have HIO2 : Hid (∀ W, Ext w W -> Calls Tryz.prog 79 #[.pointer (some ⟨g, 0, none⟩), .string x] W (Al (.tuple #[.int .i64 (L.pick e0 w0), .int .i64 0]) W)) := HIO
  replace hR : R = if 0 <= L.pick e0 w0 then .unit (L.pick e0 w0).toNat 0 else L.later x E.objs.length E.mems libs := hR
  clear HIO hs
  generalize L.pick e0 w0 = p at *
  by_cases hp : 0 <= p
  ·rw [if_pos hp] at hR
   obtain ⟨pn, rfl⟩ : ∃ pn : Nat, p = pn := ⟨p.toNat, by omega⟩
   rw [Int.toNat_natCast] at hR
   have HR := Lib.hid hR
   clear hR HSC hp
   go_enter Tryz.func47, Tryz.ntmps47
   go_wp2_with fail
   refine (HIO2.out _ (((Ext.refl w).alloc _).alloc _)).mono ?_
   rintro e w1 ⟨rfl, d1⟩
   have hz : (w.alloc (.cells #[.string x] 9)).heap.size = w.heap.size + 1 := by simp
   have k0 := d1.keepc (cell_new _ #[.int .i64 0, .int .i64 0] 101 0)
   have k1 := d1.keepc (cell_new _ #[.int .i64 0, .int .i64 0] 101 1)
   have f0 := d1.keepf (by simp) (frozen_new _ #[.int .i64 0, .int .i64 0] 101 0)
   have f1 := d1.keepf (by simp) (frozen_new _ #[.int .i64 0, .int .i64 0] 101 1)
   rw [hz] at k0 k1 f0 f1
   have HW1 := Lib.hid (show Ext w w1 from (((Ext.refl w).alloc _).alloc _).trans d1)
   clear hz d1
   go_wp2_with fail
   have hX : Tch X w ((w1.setCell ⟨w.heap.size + 1, 0, none⟩ (.int .i64 (pn : Int))).setCell ⟨w.heap.size + 1, 1, none⟩ (.int .i64 (-1))) := ((HW1.out.tch X).setCell (fun hp => absurd hp (by simp)) _).setCell (fun hp => absurd hp (by simp)) _
   have hX0 : Ext w ((w1.setCell ⟨w.heap.size + 1, 0, none⟩ (.int .i64 (pn : Int))).setCell ⟨w.heap.size + 1, 1, none⟩ (.int .i64 (-1))) := (HW1.out.setCell (p := ⟨w.heap.size + 1, 0, none⟩) (by simp) _).setCell (p := ⟨w.heap.size + 1, 1, none⟩) (by simp) _
   refine bodyPost_ret (v := .tuple #[placeV pn (-1), .int .i64 0]) (by simp [results, Tryz.results47, go_sem, k0, k1, placeV]) rfl ⟨hX, ?_⟩
   rw [HR.out]
   refine ⟨rfl, ?_⟩
   have := HL.out.ext hX0
   rwa [show L.note st (0, 0) = st by simp [L.note]]
  ·rw [if_neg hp] at hR
   obtain ⟨no, hno⟩ : ∃ no, no = E.objs.length := ⟨_, rfl⟩
   obtain ⟨nu, hnu⟩ : ∃ nu, nu = E.units.length := ⟨_, rfl⟩
   obtain ⟨ml, hml⟩ : ∃ ml, ml = E.mems.length := ⟨_, rfl⟩
   have hlen : nu = no + ml := by rw [hnu, hno, hml]; unfold L.Env.units; simp
   have hfew := HE.out.few
   rw [<- hnu] at hfew
   rw [<- hno] at hR
   have HNO := Lib.hid hno
   have HNU := Lib.hid hnu
   have HML := Lib.hid hml
   have HLEN := Lib.hid hlen
   have HR := Lib.hid hR
   have hpd : decide (0 <= p) = false := decide_eq_false hp
   clear hR HSC hno hnu hml hlen
   go_enter Tryz.func47, Tryz.ntmps47
   go_wp2_with fail
   refine (HIO2.out _ (((Ext.refl w).alloc _).alloc _)).mono ?_
   rintro e w1 ⟨rfl, d1⟩
   have HX1 := Lib.hid (show Ext w w1 from (((Ext.refl w).alloc _).alloc _).trans d1)
   have hz : (w.alloc (.cells #[.string x] 9)).heap.size = w.heap.size + 1 := by simp
   have hbX : w1.heap[w.heap.size]? = some (.cells #[.string x] 9 (0, 0)) := (d1.block _ (by simp; omega)).trans ((((Ext.refl (w.alloc (.cells #[.string x] 9))).alloc _).block _ (by simp)).trans (heap_alloc_new w _))
   have hbR : w1.heap[w.heap.size + 1]? = some (.cells #[.int .i64 0, .int .i64 0] 101 (0, 0)) := (d1.block _ (by simp)).trans (by rw [<- hz]; exact heap_alloc_new _ _)
   have HBX := Lib.hid hbX
   have HBR := Lib.hid hbR
   have HL1 := Lib.hid (HL.out.ext HX1.out)
   have c1 := HL1.out.row.c1
   rw [<- HNO.out] at c1
   clear hz d1 hbX hbR
   go_wp2_with fail
   clear c1
   go_loopw [10] (fun i wr => ∃ i0 : Nat, no <= i0 /\ i0 <= nu /\ i = .int .i64 (i0 : Int) /\ Hid ((∀ a (_ : a < E.units.length), no <= a -> a < i0 -> L.isDef x E.units[a] = false) /\ LinkAt wr S X base g E (st.1, max st.2.1 (i0 - no), st.2.2) M k /\ Tch X w1 wr)) (fun i _ => nu - (intOf i).toNat)
   case atStart => exact ⟨no, Nat.le_refl _, by have := HLEN.out; omega, rfl, fun a _ h1 h2 => absurd h2 (by omega), by rw [Nat.sub_self, Nat.max_zero]; exact HL1.out, (Ext.refl w1).tch X⟩
   case round =>
    obtain ⟨i0, hi1, hi2, rfl, HK⟩ := hrel
    have c0 := HK.out.2.1.row.c0
    have c1 := HK.out.2.1.row.c1
    have c3 := HK.out.2.1.row.c3
    have f3 := HK.out.2.1.row.frozen 3
    rw [<- HNU.out] at c0
    rw [<- HNO.out] at c1
    obtain ⟨m0, hm0⟩ : ∃ m0, m0 = max st.2.1 (i0 - no) := ⟨_, rfl⟩
    have HM0 := Lib.hid hm0
    simp only [<- hm0] at c3
    by_cases hlt : i0 < nu
    ·have hiu : i0 < E.units.length := by rw [<- HNU.out]; exact hlt
     have hm0b : m0 <= 100000 ∨ m0 = st.2.1 := by omega
     have fx0 : ∀ x : Lat (Ext wr), x.w'.cell? ⟨g, 1, none⟩ = _ := fun x => x.h.keepc c1
     have fx1 : ∀ x : Lat (Ext wr), x.w'.cell? ⟨g, 3, none⟩ = _ := fun x => x.h.keepc c3
     have hne := Lat.some (Φ := Ext wr) ((Ext.refl wr).drew)
     have c3' : wr.drew.cell? ⟨g, 3, none⟩ = _ := c3
     have f3' : wr.drew.frozen? ⟨g, 3, none⟩ = _ := f3
     obtain ⟨m1, hm1⟩ : ∃ m1, m1 = max st.2.1 (i0 + 1 - no) := ⟨_, rfl⟩
     have hmx : max (m0 : Int) ((i0 : Int) + 1 - no) = (m1 : Int) := by omega
     have HL2 := Lib.hid (HK.out.2.1.set3 (m := m1) (by show max st.2.1 (i0 - no) <= m1; omega))
     have HT2 := Lib.hid ((HK.out.2.2.setCell (p := ⟨g, 3, none⟩) (fun _ => HL.out.inX.1) (.int .i64 (m1 : Int))))
     have HNB := Lib.hid HK.out.1
     have cx : wr.cell? ⟨w.heap.size, 0, none⟩ = some (.string x) := (HK.out.2.2.cells HBX.out (fun hx => absurd (HL.out.lt _ hx).2 (by omega))).1 0
     have HM1 := Lib.hid hm1
     clear hm0 hm1 HK
     go_wp2_with fail
     refine wp_region_tail 15 [] (Ext wr) ((Ext.refl wr).drew) (by kernel_rfl) (by kernel_rfl) (by kernel_rfl) ?_
     simp only [List.take_succ_cons, List.take_zero, List.drop_succ_cons, List.drop_zero]
     iterate 15 (refine lex_pure rfl rfl rfl ?_; intro K hK; go_big_quiet_op; go_big_quiet_on)
     refine lex_nil ?_
     clear fx0 fx1 hne
     go_wp2_with fail
     refine ((HL2.out.ext ((Ext.refl _).drew)).mode HE.out hiu x).mono ?_
     rintro e w3 ⟨rfl, d3⟩
     have HL3 := Lib.hid ((HL2.out.ext ((Ext.refl _).drew)).ext d3)
     have HT3 := Lib.hid (HT2.out.trans ((((Ext.refl _).drew).trans d3).tch X))
     obtain ⟨kk, ff⟩ := HT3.out.cells HBR.out (fun hx => absurd (HL.out.lt _ hx).2 (by omega))
     have k0 := kk 0
     have k1 := kk 1
     have f0 := ff 0
     have f1 := ff 1
     clear kk ff d3 c0 c1 c3 f3 c3' f3' cx HL2 HT2
     have hdef : L.isDef x E.units[i0] = (decide (L.modeP E.units[i0].2 x = 1) || decide (L.modeP E.units[i0].2 x = 2)) := rfl
     generalize L.modeP E.units[i0].2 x = md at hdef ⊢
     rcases mode_ways md with ⟨rfl, hd1⟩ | ⟨rfl, hd1, hd2⟩ | ⟨h1, h2, hd1, hd2⟩
     ·have HDF : Hid (L.isDef x E.units[i0] = true) := by unfold Hid; rw [hdef]; simp
      clear hdef
      have HRU : Hid (R = .unit i0 (i0 + 1 - no)) := by
       unfold Hid
       obtain ⟨a, rfl⟩ : ∃ a, i0 = no + a := ⟨i0 - no, by omega⟩
       have hal : a < E.mems.length := by rw [<- HML.out]; have := HLEN.out; omega
       have hu : ∀ b (hb : b < E.mems.length) (hb' : no + b < E.units.length), E.units[no + b] = E.mems[b] := fun b hb hb' => by
        have := L.units_right (E := E) hb
        rw [<- HNO.out, List.getElem?_eq_getElem hb'] at this
        exact Option.some.inj this
       rw [HR.out, later_unit hal (by rw [<- hu a hal hiu]; exact HDF.out) (fun b hb hba => by
        have hbu : no + b < E.units.length := by omega
        rw [<- hu b hb hbu]
        exact HNB.out (no + b) hbu (by omega) (by omega)), show no + a + 1 - no = a + 1 by omega]
      go_wp2_with fail
      obtain ⟨W4, hW4⟩ : ∃ W4, W4 = (w3.setCell ⟨w.heap.size + 1, 0, none⟩ (.int .i64 (i0 : Int))).setCell ⟨w.heap.size + 1, 1, none⟩ (.int .i64 (-1)) := ⟨_, rfl⟩
      have hX4 : Tch (fun b => b = w.heap.size + 1) w3 W4 := by rw [hW4]; exact (((Ext.refl w3).tch (fun b => b = w.heap.size + 1)).setCell (p := ⟨w.heap.size + 1, 0, none⟩) (fun _ => rfl) _).setCell (p := ⟨w.heap.size + 1, 1, none⟩) (fun _ => rfl) _
      have hL4 := HL3.out.tch hX4 (fun b hb => by
       subst hb
       have h1 := HX1.out.size
       refine ⟨fun hx => absurd (HL.out.lt _ hx).2 (by omega), fun hx => ?_⟩
       have := (HL.out.out _ hx).1
       omega)
      have hT4 : Tch X w W4 := ((HX1.out.tch X).trans HT3.out).trans' hX4 (fun i hi h => absurd h (by omega))
      refine bodyPost_ret (v := .tuple #[placeV i0 (-1), .int .i64 0]) (by simp [results, Tryz.results47, go_sem, k0, k1, placeV]) rfl ⟨by rw [<- hW4]; exact hT4, ?_⟩
      rw [HRU.out]
      refine ⟨rfl, ?_⟩
      rw [<- hW4]
      unfold L.note
      simp only [Nat.max_zero, <- HM1.out]
      exact hL4
     ·have HDF : Hid (L.isDef x E.units[i0] = true) := by unfold Hid; rw [hdef]; simp
      clear hdef
      have HRU : Hid (R = .unit i0 (i0 + 1 - no)) := by
       unfold Hid
       obtain ⟨a, rfl⟩ : ∃ a, i0 = no + a := ⟨i0 - no, by omega⟩
       have hal : a < E.mems.length := by rw [<- HML.out]; have := HLEN.out; omega
       have hu : ∀ b (hb : b < E.mems.length) (hb' : no + b < E.units.length), E.units[no + b] = E.mems[b] := fun b hb hb' => by
        have := L.units_right (E := E) hb
        rw [<- HNO.out, List.getElem?_eq_getElem hb'] at this
        exact Option.some.inj this
       rw [HR.out, later_unit hal (by rw [<- hu a hal hiu]; exact HDF.out) (fun b hb hba => by
        have hbu : no + b < E.units.length := by omega
        rw [<- hu b hb hbu]
        exact HNB.out (no + b) hbu (by omega) (by omega)), show no + a + 1 - no = a + 1 by omega]
      go_wp2_with fail
      obtain ⟨W4, hW4⟩ : ∃ W4, W4 = (w3.setCell ⟨w.heap.size + 1, 0, none⟩ (.int .i64 (i0 : Int))).setCell ⟨w.heap.size + 1, 1, none⟩ (.int .i64 (-1)) := ⟨_, rfl⟩
      have hX4 : Tch (fun b => b = w.heap.size + 1) w3 W4 := by rw [hW4]; exact (((Ext.refl w3).tch (fun b => b = w.heap.size + 1)).setCell (p := ⟨w.heap.size + 1, 0, none⟩) (fun _ => rfl) _).setCell (p := ⟨w.heap.size + 1, 1, none⟩) (fun _ => rfl) _
      have hL4 := HL3.out.tch hX4 (fun b hb => by
       subst hb
       have h1 := HX1.out.size
       refine ⟨fun hx => absurd (HL.out.lt _ hx).2 (by omega), fun hx => ?_⟩
       have := (HL.out.out _ hx).1
       omega)
      have hT4 : Tch X w W4 := ((HX1.out.tch X).trans HT3.out).trans' hX4 (fun i hi h => absurd h (by omega))
      refine bodyPost_ret (v := .tuple #[placeV i0 (-1), .int .i64 0]) (by simp [results, Tryz.results47, go_sem, k0, k1, placeV]) rfl ⟨by rw [<- hW4]; exact hT4, ?_⟩
      rw [HRU.out]
      refine ⟨rfl, ?_⟩
      rw [<- hW4]
      unfold L.note
      simp only [Nat.max_zero, <- HM1.out]
      exact hL4
     ·have HDF : Hid (L.isDef x E.units[i0] = false) := by unfold Hid; rw [hdef]; simp [h1, h2]
      clear hdef h1 h2
      go_wp2_with fail
      go_roundw
      case rel => exact ⟨i0 + 1, by omega, by omega, by go_num, fun a ha h1 h2 => by
       by_cases e : a = i0
       ·subst e; exact HDF.out
       ·exact HNB.out a ha h1 (by omega), by rw [<- HM1.out]; exact HL3.out, HT3.out⟩
      case measure => simp [intOf]; omega
    ·have hno : ∀ b (_ : b < E.mems.length), L.isDef x E.mems[b] = false := fun b hb => by
      have hbu : no + b < E.units.length := by rw [<- HNU.out, HLEN.out, HML.out]; omega
      have := L.units_right (E := E) hb
      rw [<- HNO.out, List.getElem?_eq_getElem hbu] at this
      rw [<- Option.some.inj this]
      exact HK.out.1 (no + b) hbu (by omega) (by have := HLEN.out; have := HML.out; omega)
     have HNOD := Lib.hid hno
     have HT0 := Lib.hid HK.out.2.2
     have hl0 := HK.out.2.1
     have hml0 : m0 = max st.2.1 ml := by have := HLEN.out; have h1 := HM0.out; rw [h1]; congr 1; omega
     rw [<- hm0, hml0] at hl0
     have HL0 := Lib.hid hl0
     have hdl : decide (i0 < nu) = false := decide_eq_false hlt
     obtain ⟨W0, hW0⟩ : ∃ W0, W0 = wr := ⟨_, rfl⟩
     subst hW0
     clear hl0 hml0 hno HK c3 f3 hm0
     go_wp2_with fail
     clear c0 c1 hdl
     go_loopw [71] (fun i wr => ∃ j : Nat, j <= q /\ i = .int .i64 (j : Int) /\ Hid ((∀ a (_ : a < libs.length), a < j -> L.isIn x libs[a] = false) /\ LinkAt wr S X base g E (st.1, max st.2.1 ml, max st.2.2 j) M k /\ Tch X w1 wr)) (fun i _ => q - (intOf i).toNat)
     case atStart => exact ⟨0, Nat.zero_le _, rfl, fun a _ h2 => absurd h2 (Nat.not_lt_zero _), by rw [Nat.max_zero]; exact HL0.out, HT0.out⟩
     case round =>
      obtain ⟨j, hj, rfl, HK⟩ := hrel
      have c4 := HK.out.2.1.row.c4
      obtain ⟨r0, hr0⟩ : ∃ r0, r0 = max st.2.2 j := ⟨_, rfl⟩
      simp only [<- hr0] at c4
      by_cases hlt2 : j < q
      ·have hjl : j < libs.length := by rw [<- HQ.out]; exact hlt2
       have hTw : Tch X w wr := (HX1.out.tch X).trans HK.out.2.2
       obtain ⟨b', off, kd, en, im, A1, n1, c1, A2, n2, c2, A3, n3, c3, A4, c4', A5, n5, c5, rfl, hb', hs, hkd, hEX, x0, x1, x2, x3, x4, x5, x6, x7, x8⟩ := lib_cells (HD.out.tch hTw fun b hb => hb) hjl
       obtain ⟨n4, hn4⟩ : ∃ n4, n4 = (L.exps libs[j]).length := ⟨_, rfl⟩
       rw [<- hn4] at x7
       obtain ⟨r1, hr1⟩ : ∃ r1, r1 = max st.2.2 (j + 1) := ⟨_, rfl⟩
       have hmx : max (r0 : Int) ((j : Int) + 1) = (r1 : Int) := by omega
       generalize libs[j].1 = s at x0 hs
       obtain ⟨W2, hW2⟩ : ∃ W2, W2 = wr.alloc (.cells #[.string s, .int .i64 kd, .int .i64 en, .string im, .slice A1 n1 c1, .slice A2 n2 c2, .slice A3 n3 c3, .slice A4 n4 c4', .slice A5 n5 c5] 86) := ⟨_, rfl⟩
       have E2 : Ext wr W2 := by rw [hW2]; exact (Ext.refl wr).alloc _
       have y1 : W2.cell? ⟨wr.heap.size, 1, none⟩ = some (.int .i64 kd) := by rw [hW2]; exact cell_new wr _ 86 1
       have y7 : W2.cell? ⟨wr.heap.size, 7, none⟩ = some (.slice A4 n4 c4') := by rw [hW2]; exact cell_new wr _ 86 7
       have hL2 := HK.out.2.1.ext E2
       have y4 := hL2.row.c4
       simp only [<- hr0] at y4
       have z4 := hL2.row.frozen 4
       have HL3 := Lib.hid (hL2.set4 (m := r1) (by show max st.2.2 j <= r1; omega))
       have hT2 := (HK.out.2.2.trans (E2.tch X)).setCell (p := ⟨g, 4, none⟩) (fun _ => HL.out.inX.1) (.int .i64 (r1 : Int))
       have HT2 := Lib.hid hT2
       have HNB := Lib.hid HK.out.1
       have hcx : (W2.setCell ⟨g, 4, none⟩ (.int .i64 (r1 : Int))).cell? ⟨w.heap.size, 0, none⟩ = some (.string x) := (hT2.cells HBX.out (fun hx => absurd (HL.out.lt _ hx).2 (by omega))).1 0
       have HCALL := Lib.hid (hasExp_any (L.exps libs[j]) A4 c4' n4 w.heap.size x (W2.setCell ⟨g, 4, none⟩ (.int .i64 (r1 : Int))) hn4 ((hEX.tch ((E2.tch X).setCell (p := ⟨g, 4, none⟩) (fun _ => HL.out.inX.1) (.int .i64 (r1 : Int))) (fun b hb => ⟨Nat.lt_of_lt_of_le hb.1 hTw.size, hb.2⟩)).keep (fun b hb => Nat.lt_of_lt_of_le hb.1 (Nat.le_trans hTw.size (by have := E2.size; simpa using this))) fun _ _ => rfl) hcx)
       have hin : L.isIn x libs[j] = (L.exps libs[j]).any fun y => y.1.data.toList == x.data.toList := rfl
       rw [<- hin] at HCALL
       have HW2 := Lib.hid hW2
       have HR1 := Lib.hid hr1
       clear hEX hn4 hr0 hr1 hin hL2 hcx hT2 hTw E2 HK hkd hW2
       rcases Bool.eq_false_or_eq_true (L.isIn x libs[j]) with hh | hh
       ·rw [hh] at HCALL
        have HH := Lib.hid hh
        have HRL : Hid (R = .lib j) := by
         unfold Hid
         rw [HR.out, later_lib HNOD.out hjl hh HNB.out]
        clear hh
        go_upto_region 14 with (fail)
        rw [<- HW2.out]
        go_wp2_with fail
        refine HCALL.out.mono ?_
        rintro e w3 ⟨rfl, d3⟩
        have HL4 := Lib.hid (HL3.out.ext d3)
        have HT3 := Lib.hid (HT2.out.trans (d3.tch X))
        obtain ⟨kk, ff⟩ := HT3.out.cells HBR.out (fun hx => absurd (HL.out.lt _ hx).2 (by omega))
        have k0 := kk 0
        have k1 := kk 1
        have f0 := ff 0
        have f1 := ff 1
        clear kk ff d3
        go_wp2_with fail
        obtain ⟨W4, hW4⟩ : ∃ W4, W4 = (w3.setCell ⟨w.heap.size + 1, 0, none⟩ (.int .i64 (-1))).setCell ⟨w.heap.size + 1, 1, none⟩ (.int .i64 (j : Int)) := ⟨_, rfl⟩
        have hX4 : Tch (fun b => b = w.heap.size + 1) w3 W4 := by rw [hW4]; exact (((Ext.refl w3).tch (fun b => b = w.heap.size + 1)).setCell (p := ⟨w.heap.size + 1, 0, none⟩) (fun _ => rfl) _).setCell (p := ⟨w.heap.size + 1, 1, none⟩) (fun _ => rfl) _
        have hL4 := HL4.out.tch hX4 (fun b hb => by
         subst hb
         have h1 := HX1.out.size
         refine ⟨fun hx => absurd (HL.out.lt _ hx).2 (by omega), fun hx => ?_⟩
         have := (HL.out.out _ hx).1
         omega)
        have hT4 : Tch X w W4 := ((HX1.out.tch X).trans HT3.out).trans' hX4 (fun i hi h => absurd h (by omega))
        refine bodyPost_ret (v := .tuple #[placeV (-1) j, .int .i64 0]) (by simp [results, Tryz.results47, go_sem, k0, k1, placeV]) rfl ⟨by rw [<- hW4]; exact hT4, ?_⟩
        rw [HRL.out]
        refine ⟨rfl, ?_⟩
        rw [<- hW4]
        unfold L.note
        simp only [<- HR1.out, <- HML.out]
        exact hL4
       ·rw [hh] at HCALL
        have HH := Lib.hid hh
        clear hh
        go_upto_region 14 with (fail)
        rw [<- HW2.out]
        go_wp2_with fail
        refine HCALL.out.mono ?_
        rintro e w3 ⟨rfl, d3⟩
        have HL4 := Lib.hid (HL3.out.ext d3)
        have HT3 := Lib.hid (HT2.out.trans (d3.tch X))
        clear d3
        go_wp2_with fail
        go_roundw
        case rel => exact ⟨j + 1, by omega, by go_num, fun a ha h2 => by
         by_cases e : a = j
         ·subst e; exact HH.out
         ·exact HNB.out a ha (by omega), by rw [<- HR1.out]; exact HL4.out, HT3.out⟩
        case measure => simp [intOf]; omega
      ·have HRN : Hid (R = .unknown) := by
        unfold Hid
        rw [HR.out, later_none HNOD.out fun i hi => HK.out.1 i hi (by have := HQ.out; omega)]
       have HT3 := Lib.hid HK.out.2.2
       obtain ⟨kk, ff⟩ := HT3.out.cells HBR.out (fun hx => absurd (HL.out.lt _ hx).2 (by omega))
       have k0 := kk 0
       have k1 := kk 1
       have f0 := ff 0
       have f1 := ff 1
       clear kk ff HK c4 hr0
       go_wp2_with fail
       obtain ⟨W4, hW4⟩ : ∃ W4, W4 = (wr.setCell ⟨w.heap.size + 1, 0, none⟩ (.int .i64 0)).setCell ⟨w.heap.size + 1, 1, none⟩ (.int .i64 0) := ⟨_, rfl⟩
       have hX4 : Tch (fun b => b = w.heap.size + 1) wr W4 := by rw [hW4]; exact (((Ext.refl wr).tch (fun b => b = w.heap.size + 1)).setCell (p := ⟨w.heap.size + 1, 0, none⟩) (fun _ => rfl) _).setCell (p := ⟨w.heap.size + 1, 1, none⟩) (fun _ => rfl) _
       have hT4 : Tch X w W4 := ((HX1.out.tch X).trans HT3.out).trans' hX4 (fun i hi h => absurd h (by omega))
       refine bodyPost_ret (v := .tuple #[placeV 0 0, .int .i64 8]) (by simp [results, Tryz.results47, go_sem, k0, k1, placeV]) rfl ⟨by rw [<- hW4]; exact hT4, ?_⟩
       rw [HRN.out]
end Go.Proofs.YtfbhchpbflaphaaGreatDoor

namespace Go.Proofs.YtfbhchpbflaphaaGreatDoor
open Go.RowKit Go.Maps Go.ChangeMaps
theorem zero101 (w : World) : (zeroValue 101).run Tryz.prog w = .ok (placeV 0 0) w := by kernel_rfl
theorem Known.put {E : L.Env} {m : Nat × Nat} {f : FnV} (h : Known E m f) {x : ByteArray} {v : Value} (hv : match L.hit E x with | .unit u k => v = placeV u (-1) /\ k <= m.1 | .lib j => v = placeV (-1) j /\ E.mems.length <= m.1 /\ j + 1 <= m.2 | _ => False) : Known E m (putF f x (some v)) := by
 intro y u hu
 unfold putF at hu
 by_cases e : y = x
 ·rw [if_pos e] at hu
  cases hu
  rw [e]
  exact hv
 ·rw [if_neg e] at hu
  exact h y u hu
theorem LinkAt.libsOut {w : World} {S X : Nat -> Prop} {base g : Nat} {E : L.Env} {st : L.St} {M : List (List (Int × Int))} {k : LC} (h : LinkAt w S X base g E st M k) : SliceAt librR w (fun b => b < w.heap.size /\ ¬ X b) k.B k.d E.libs := h.libs.keep h.out fun _ _ => rfl
theorem off_new {w w' : World} {S X : Nat -> Prop} {base g : Nat} {E : L.Env} {st : L.St} {M : List (List (Int × Int))} {k : LC} (h : LinkAt w S X base g E st M k) {b : Nat} (hb : w.heap.size <= b) : ¬ X b /\ ¬ S b :=
 ⟨fun hx => absurd (h.lt _ hx).2 (by omega), fun hs => absurd (h.out _ hs).1 (by omega)⟩
attribute [local irreducible] wpLex
set_option maxRecDepth 8000 in
set_option maxHeartbeats 4000000 in
theorem resolve_any (w : World) (S X : Nat -> Prop) (base g : Nat) (E : L.Env) (st : L.St) (M : List (List (Int × Int))) (k : LC) (h : LinkAt w S X base g E st M k) (hE : EnvOk E) (x : ByteArray) (hx : x.size <= 9223372036854775807) :
 Calls Tryz.prog 61 #[.pointer (some ⟨g, 0, none⟩), .string x] w (RetHit w S X base g E st M k (L.hit E x)) := by
 have HL := Lib.hid h
 have HE := Lib.hid hE
 obtain ⟨f, hf, hk⟩ := h.known
 obtain ⟨W1, hW1⟩ : ∃ W1, W1 = w.alloc (.cells #[.int .i64 0, .int .i64 0] 101) := ⟨_, rfl⟩
 have E1 : Ext w W1 := by rw [hW1]; exact (Ext.refl w).alloc _
 have hbR : W1.heap[w.heap.size]? = some (.cells #[.int .i64 0, .int .i64 0] 101 (0, 0)) := by rw [hW1]; exact heap_alloc_new w _
 have HL1 := Lib.hid (h.ext E1)
 have c5 := HL1.out.row.c5
 have hl := (hf.ext E1).look (t := 135) (e := 101) Tryz.underlying9 Tryz.underlying135 (zero101 W1) hx
 have HBR := Lib.hid hbR
 have HX1 := Lib.hid E1
 have HK := Lib.hid hk
 have HF := Lib.hid (hf.ext E1)
 have HW1 := Lib.hid hW1
 clear h hE hf hk E1 hbR hW1
 cases hfx : f x with
 | some v =>
  have hkv := HK.out x v hfx
  obtain ⟨a, b, rfl⟩ : ∃ a b, v = placeV a b := by
   cases hh : L.hit E x with
   | twice => rw [hh] at hkv; exact hkv.elim
   | unknown => rw [hh] at hkv; exact hkv.elim
   | unit u m => rw [hh] at hkv; exact ⟨_, _, hkv.1⟩
   | lib j => rw [hh] at hkv; exact ⟨_, _, hkv.1⟩
  rw [hfx] at hl
  have hl2 : (Instr.lookup 135 (.map (some k.bk)) (.string x) true).run Tryz.prog W1 = .ok (.tuple #[.agg #[.int .i64 a, .int .i64 b], .bool true]) W1 := hl
  have HKV := Lib.hid hkv
  clear hl hfx hkv
  go_enter Tryz.func61, Tryz.ntmps61
  go_upto_region 1 with (fail)
  rw [<- HW1.out]
  go_upto_region 3 with (fail)
  obtain ⟨W2, hW2⟩ : ∃ W2, W2 = W1.alloc (.cells #[.int .i64 a, .int .i64 b] 101) := ⟨_, rfl⟩
  have X2 : Ext w W2 := by rw [hW2]; exact HX1.out.alloc _
  have X12 : Ext W1 W2 := by rw [hW2]; exact (Ext.refl W1).alloc _
  have y0 : W2.cell? ⟨W1.heap.size, 0, none⟩ = some (.int .i64 a) := by rw [hW2]; exact cell_new W1 _ 101 0
  have y1 : W2.cell? ⟨W1.heap.size, 1, none⟩ = some (.int .i64 b) := by rw [hW2]; exact cell_new W1 _ 101 1
  obtain ⟨kk, ff⟩ := (X12.tch X).cells HBR.out (off_new (w' := w) HL.out (Nat.le_refl _)).1
  have k0 := kk 0
  have k1 := kk 1
  have f0 := ff 0
  have f1 := ff 1
  have HX2 := Lib.hid X2
  rw [<- hW2]
  clear kk ff X2 X12 hW2 hl2 c5
  go_wp2_with fail
  obtain ⟨W4, hW4⟩ : ∃ W4, W4 = (W2.setCell ⟨w.heap.size, 0, none⟩ (.int .i64 a)).setCell ⟨w.heap.size, 1, none⟩ (.int .i64 b) := ⟨_, rfl⟩
  have hX4 : Ext w W4 := by rw [hW4]; exact (HX2.out.setCell (p := ⟨w.heap.size, 0, none⟩) (Nat.le_refl _) _).setCell (p := ⟨w.heap.size, 1, none⟩) (Nat.le_refl _) _
  have hL4 := HL.out.ext hX4
  refine bodyPost_ret (v := .tuple #[placeV a b, .int .i64 0]) (by simp [results, Tryz.results61, go_sem, k0, k1, placeV]) rfl ⟨by rw [<- hW4]; exact hX4.tch X, ?_⟩
  rw [<- hW4]
  have hkv := HKV.out
  cases hh : L.hit E x with
  | twice => rw [hh] at hkv; exact hkv.elim
  | unknown => rw [hh] at hkv; exact hkv.elim
  | unit u m =>
   rw [hh] at hkv
   obtain ⟨e1, e2⟩ := hkv
   refine ⟨by rw [e1], ?_⟩
   have : L.note st (m, 0) = st := by unfold L.note; simp only [Nat.max_zero, Nat.max_eq_left e2]
   rw [this]
   exact hL4
  | lib j =>
   rw [hh] at hkv
   obtain ⟨e1, e2, e3⟩ := hkv
   refine ⟨by rw [e1], ?_⟩
   have : L.note st (E.mems.length, j + 1) = st := by unfold L.note; simp only [Nat.max_eq_left e2, Nat.max_eq_left e3]
   rw [this]
   exact hL4
 | none =>
  rw [hfx] at hl
  have hl2 : (Instr.lookup 135 (.map (some k.bk)) (.string x) true).run Tryz.prog W1 = .ok (.tuple #[.agg #[.int .i64 0, .int .i64 0], .bool false]) W1 := hl
  clear hl hfx
  go_enter Tryz.func61, Tryz.ntmps61
  go_upto_region 1 with (fail)
  rw [<- HW1.out]
  go_upto_region 4 with (fail)
  obtain ⟨W2, hW2⟩ : ∃ W2, W2 = W1.alloc (.cells #[.int .i64 0, .int .i64 0] 101) := ⟨_, rfl⟩
  have X12 : Ext W1 W2 := by rw [hW2]; exact (Ext.refl W1).alloc _
  have HL2 := Lib.hid (HL1.out.ext X12)
  have c2 := HL2.out.row.c2
  have HX2 := Lib.hid X12
  rw [<- hW2]
  clear X12 hW2 hl2 c5
  go_wp2_with fail
  refine (search_any W2 S X base g E st M k HL2.out HE.out x E.libs k.B k.d E.libs.length rfl HE.out.fewL HL2.out.libsOut).mono ?_
  rintro e w3 ⟨ht3, hr3⟩
  have HT3 := Lib.hid ((HX2.out.tch X).trans ht3)
  have hr3 : match L.hit E x with
   | .twice => e = .returned (.tuple #[placeV (-1) (-1), .int .i64 6])
   | .unknown => e = .returned (.tuple #[placeV 0 0, .int .i64 8])
   | .unit u m => e = .returned (.tuple #[placeV u (-1), .int .i64 0]) /\ LinkAt w3 S X base g E (L.note st (m, 0)) M k
   | .lib j => e = .returned (.tuple #[placeV (-1) j, .int .i64 0]) /\ LinkAt w3 S X base g E (L.note st (E.mems.length, j + 1)) M k := hr3
  clear ht3 c2
  cases hh : L.hit E x with
  | twice =>
   rw [hh] at hr3
   obtain rfl := hr3
   obtain ⟨W4, hW4⟩ : ∃ W4, W4 = w3.alloc (.cells #[.int .i64 (-1), .int .i64 (-1)] 101) := ⟨_, rfl⟩
   have X4 : Ext w3 W4 := by rw [hW4]; exact (Ext.refl w3).alloc _
   have y0 : W4.cell? ⟨w3.heap.size, 0, none⟩ = some (.int .i64 (-1)) := by rw [hW4]; exact cell_new w3 _ 101 0
   have y1 : W4.cell? ⟨w3.heap.size, 1, none⟩ = some (.int .i64 (-1)) := by rw [hW4]; exact cell_new w3 _ 101 1
   have HT4 := Lib.hid (HT3.out.trans (X4.tch X))
   obtain ⟨kk, ff⟩ := HT4.out.cells HBR.out (off_new (w' := w) HL.out (Nat.le_refl _)).1
   have k0 := kk 0
   have k1 := kk 1
   have f0 := ff 0
   have f1 := ff 1
   clear kk ff X4
   unfold placeV
   go_upto_region 7 with (fail)
   rw [<- hW4]
   clear hW4
   go_wp2_with fail
   obtain ⟨W5, hW5⟩ : ∃ W5, W5 = (W4.setCell ⟨w.heap.size, 0, none⟩ (.int .i64 (-1))).setCell ⟨w.heap.size, 1, none⟩ (.int .i64 (-1)) := ⟨_, rfl⟩
   have hX5 : Tch X w W5 := by rw [hW5]; exact (((HX1.out.tch X).trans HT4.out).setCell (p := ⟨w.heap.size, 0, none⟩) (fun hp => absurd hp (Nat.lt_irrefl _)) _).setCell (p := ⟨w.heap.size, 1, none⟩) (fun hp => absurd hp (Nat.lt_irrefl _)) _
   refine bodyPost_ret (v := .tuple #[placeV (-1) (-1), .int .i64 6]) (by simp [results, Tryz.results61, go_sem, k0, k1, placeV]) rfl ⟨by rw [<- hW5]; exact hX5, ?_⟩
   rw [hh]
  | unknown =>
   rw [hh] at hr3
   obtain rfl := hr3
   obtain ⟨W4, hW4⟩ : ∃ W4, W4 = w3.alloc (.cells #[.int .i64 0, .int .i64 0] 101) := ⟨_, rfl⟩
   have X4 : Ext w3 W4 := by rw [hW4]; exact (Ext.refl w3).alloc _
   have y0 : W4.cell? ⟨w3.heap.size, 0, none⟩ = some (.int .i64 0) := by rw [hW4]; exact cell_new w3 _ 101 0
   have y1 : W4.cell? ⟨w3.heap.size, 1, none⟩ = some (.int .i64 0) := by rw [hW4]; exact cell_new w3 _ 101 1
   have HT4 := Lib.hid (HT3.out.trans (X4.tch X))
   obtain ⟨kk, ff⟩ := HT4.out.cells HBR.out (off_new (w' := w) HL.out (Nat.le_refl _)).1
   have k0 := kk 0
   have k1 := kk 1
   have f0 := ff 0
   have f1 := ff 1
   clear kk ff X4
   unfold placeV
   go_upto_region 7 with (fail)
   rw [<- hW4]
   clear hW4
   go_wp2_with fail
   obtain ⟨W5, hW5⟩ : ∃ W5, W5 = (W4.setCell ⟨w.heap.size, 0, none⟩ (.int .i64 0)).setCell ⟨w.heap.size, 1, none⟩ (.int .i64 0) := ⟨_, rfl⟩
   have hX5 : Tch X w W5 := by rw [hW5]; exact (((HX1.out.tch X).trans HT4.out).setCell (p := ⟨w.heap.size, 0, none⟩) (fun hp => absurd hp (Nat.lt_irrefl _)) _).setCell (p := ⟨w.heap.size, 1, none⟩) (fun hp => absurd hp (Nat.lt_irrefl _)) _
   refine bodyPost_ret (v := .tuple #[placeV 0 0, .int .i64 8]) (by simp [results, Tryz.results61, go_sem, k0, k1, placeV]) rfl ⟨by rw [<- hW5]; exact hX5, ?_⟩
   rw [hh]
  | unit u m =>
   rw [hh] at hr3
   obtain ⟨rfl, hl3⟩ := hr3
   obtain ⟨f3, hf3, hk3⟩ := hl3.known
   obtain ⟨W4, hW4⟩ : ∃ W4, W4 = w3.alloc (.cells #[.int .i64 (u : Int), .int .i64 (-1)] 101) := ⟨_, rfl⟩
   have X4 : Ext w3 W4 := by rw [hW4]; exact (Ext.refl w3).alloc _
   have y0 : W4.cell? ⟨w3.heap.size, 0, none⟩ = some (.int .i64 (u : Int)) := by rw [hW4]; exact cell_new w3 _ 101 0
   have y1 : W4.cell? ⟨w3.heap.size, 1, none⟩ = some (.int .i64 (-1)) := by rw [hW4]; exact cell_new w3 _ 101 1
   have HT4 := Lib.hid (HT3.out.trans (X4.tch X))
   have HL4 := Lib.hid (hl3.ext X4)
   have HF4 := Lib.hid (hf3.ext X4)
   have HK4 := Lib.hid (hk3.put (x := x) (v := placeV (u : Int) (-1)) (by rw [hh]; exact ⟨rfl, Nat.le_max_right _ _⟩))
   have HA4 := Lib.hid hk3.asked
   have HB4 := Lib.hid (show W4.heap[w3.heap.size]? = some (.cells #[.int .i64 (u : Int), .int .i64 (-1)] 101 (0, 0)) by rw [hW4]; exact heap_alloc_new w3 _)
   have HNE := Lib.hid (fun e : w3.heap.size = k.bk => (off_new (w' := w3) hl3 (Nat.le_refl _)).1 (e ▸ hl3.inX.2.1))
   have c5 := HL4.out.row.c5
   have HH := Lib.hid hh
   clear X4 hl3 hf3 hk3 hh
   unfold placeV
   go_upto_region 6 with (fail)
   rw [<- hW4]
   clear hW4
   have fx0 : ∀ x : Lat (Ext W4), x.w'.cell? ⟨g, 5, none⟩ = _ := fun x => x.h.keepc c5
   have fx1 : ∀ x : Lat (Ext W4), x.w'.cell? ⟨w3.heap.size, 0, none⟩ = _ := fun x => x.h.keepc y0
   have fx2 : ∀ x : Lat (Ext W4), x.w'.cell? ⟨w3.heap.size, 1, none⟩ = _ := fun x => x.h.keepc y1
   have hne := Lat.some (Φ := Ext W4) ((Ext.refl W4).drew)
   go_wp2_with fail
   refine wp_region_tail 6 [] (Ext W4) ((Ext.refl W4).drew) (by kernel_rfl) (by kernel_rfl) (by kernel_rfl) ?_
   simp only [List.take_succ_cons, List.take_zero, List.drop_succ_cons, List.drop_zero]
   iterate 6 (refine lex_pure rfl rfl rfl ?_; intro K hK; go_big_quiet_op; go_big_quiet_on)
   refine lex_nil ?_
   clear fx0 fx1 fx2 hne
   go_wp2_with (refine wpList_mapF_put (b := k.bk) (HF4.out.ext ((Ext.refl W4).drew)) Tryz.underlying9 (asked E) HA4.out HE.out.asked rfl _ _ _ _ 101 rfl Tryz.underlying135 rfl x (.agg #[.int .i64 (u : Int), .int .i64 (-1)]) rfl rfl hx ?_)
   intro w5 hf5 ht5
   have HL5 := Lib.hid ((HL4.out.ext ((Ext.refl W4).drew)).learn ht5 hf5 HK4.out)
   have HT5 := Lib.hid ((HT4.out.trans (((Ext.refl W4).drew).tch X)).trans ((grown_tch ht5.grown).mono fun b _ hb => by rw [hb]; exact HL.out.inX.2.1))
   obtain ⟨yy, _⟩ := (grown_tch ht5.grown).cells (b := w3.heap.size) (show W4.drew.heap[w3.heap.size]? = _ from HB4.out) HNE.out
   have y0' := yy 0
   have y1' := yy 1
   obtain ⟨kk, ff⟩ := HT5.out.cells HBR.out (off_new (w' := w) HL.out (Nat.le_refl _)).1
   have k0 := kk 0
   have k1 := kk 1
   have f0 := ff 0
   have f1 := ff 1
   clear kk ff yy hf5 ht5 y0 y1 c5
   go_wp2_with fail
   obtain ⟨W5, hW5⟩ : ∃ W5, W5 = (w5.setCell ⟨w.heap.size, 0, none⟩ (.int .i64 (u : Int))).setCell ⟨w.heap.size, 1, none⟩ (.int .i64 (-1)) := ⟨_, rfl⟩
   have hX5 : Tch X w W5 := by rw [hW5]; exact (((HX1.out.tch X).trans HT5.out).setCell (p := ⟨w.heap.size, 0, none⟩) (fun hp => absurd hp (Nat.lt_irrefl _)) _).setCell (p := ⟨w.heap.size, 1, none⟩) (fun hp => absurd hp (Nat.lt_irrefl _)) _
   have hY5 : Tch (fun b => b = w.heap.size) w5 W5 := by rw [hW5]; exact (((Ext.refl w5).tch (fun b => b = w.heap.size)).setCell (p := ⟨w.heap.size, 0, none⟩) (fun _ => rfl) _).setCell (p := ⟨w.heap.size, 1, none⟩) (fun _ => rfl) _
   have hL5 := HL5.out.tch hY5 fun b hb => by subst hb; exact off_new HL.out (w' := w) (Nat.le_refl _)
   refine bodyPost_ret (v := .tuple #[placeV (u : Int) (-1), .int .i64 0]) (by simp [results, Tryz.results61, go_sem, k0, k1, placeV]) rfl ⟨by rw [<- hW5]; exact hX5, ?_⟩
   rw [HH.out]
   exact ⟨rfl, by rw [<- hW5]; exact hL5⟩
  | lib j =>
   rw [hh] at hr3
   obtain ⟨rfl, hl3⟩ := hr3
   obtain ⟨f3, hf3, hk3⟩ := hl3.known
   obtain ⟨W4, hW4⟩ : ∃ W4, W4 = w3.alloc (.cells #[.int .i64 (-1), .int .i64 (j : Int)] 101) := ⟨_, rfl⟩
   have X4 : Ext w3 W4 := by rw [hW4]; exact (Ext.refl w3).alloc _
   have y0 : W4.cell? ⟨w3.heap.size, 0, none⟩ = some (.int .i64 (-1)) := by rw [hW4]; exact cell_new w3 _ 101 0
   have y1 : W4.cell? ⟨w3.heap.size, 1, none⟩ = some (.int .i64 (j : Int)) := by rw [hW4]; exact cell_new w3 _ 101 1
   have HT4 := Lib.hid (HT3.out.trans (X4.tch X))
   have HL4 := Lib.hid (hl3.ext X4)
   have HF4 := Lib.hid (hf3.ext X4)
   have HK4 := Lib.hid (hk3.put (x := x) (v := placeV (-1) (j : Int)) (by rw [hh]; exact ⟨rfl, Nat.le_max_right _ _, Nat.le_max_right _ _⟩))
   have HA4 := Lib.hid hk3.asked
   have HB4 := Lib.hid (show W4.heap[w3.heap.size]? = some (.cells #[.int .i64 (-1), .int .i64 (j : Int)] 101 (0, 0)) by rw [hW4]; exact heap_alloc_new w3 _)
   have HNE := Lib.hid (fun e : w3.heap.size = k.bk => (off_new (w' := w3) hl3 (Nat.le_refl _)).1 (e ▸ hl3.inX.2.1))
   have c5 := HL4.out.row.c5
   have HH := Lib.hid hh
   clear X4 hl3 hf3 hk3 hh
   unfold placeV
   go_upto_region 6 with (fail)
   rw [<- hW4]
   clear hW4
   have fx0 : ∀ x : Lat (Ext W4), x.w'.cell? ⟨g, 5, none⟩ = _ := fun x => x.h.keepc c5
   have fx1 : ∀ x : Lat (Ext W4), x.w'.cell? ⟨w3.heap.size, 0, none⟩ = _ := fun x => x.h.keepc y0
   have fx2 : ∀ x : Lat (Ext W4), x.w'.cell? ⟨w3.heap.size, 1, none⟩ = _ := fun x => x.h.keepc y1
   have hne := Lat.some (Φ := Ext W4) ((Ext.refl W4).drew)
   go_wp2_with fail
   refine wp_region_tail 6 [] (Ext W4) ((Ext.refl W4).drew) (by kernel_rfl) (by kernel_rfl) (by kernel_rfl) ?_
   simp only [List.take_succ_cons, List.take_zero, List.drop_succ_cons, List.drop_zero]
   iterate 6 (refine lex_pure rfl rfl rfl ?_; intro K hK; go_big_quiet_op; go_big_quiet_on)
   refine lex_nil ?_
   clear fx0 fx1 fx2 hne
   go_wp2_with (refine wpList_mapF_put (b := k.bk) (HF4.out.ext ((Ext.refl W4).drew)) Tryz.underlying9 (asked E) HA4.out HE.out.asked rfl _ _ _ _ 101 rfl Tryz.underlying135 rfl x (.agg #[.int .i64 (-1), .int .i64 (j : Int)]) rfl rfl hx ?_)
   intro w5 hf5 ht5
   have HL5 := Lib.hid ((HL4.out.ext ((Ext.refl W4).drew)).learn ht5 hf5 HK4.out)
   have HT5 := Lib.hid ((HT4.out.trans (((Ext.refl W4).drew).tch X)).trans ((grown_tch ht5.grown).mono fun b _ hb => by rw [hb]; exact HL.out.inX.2.1))
   obtain ⟨yy, _⟩ := (grown_tch ht5.grown).cells (b := w3.heap.size) (show W4.drew.heap[w3.heap.size]? = _ from HB4.out) HNE.out
   have y0' := yy 0
   have y1' := yy 1
   obtain ⟨kk, ff⟩ := HT5.out.cells HBR.out (off_new (w' := w) HL.out (Nat.le_refl _)).1
   have k0 := kk 0
   have k1 := kk 1
   have f0 := ff 0
   have f1 := ff 1
   clear kk ff yy hf5 ht5 y0 y1 c5
   go_wp2_with fail
   obtain ⟨W5, hW5⟩ : ∃ W5, W5 = (w5.setCell ⟨w.heap.size, 0, none⟩ (.int .i64 (-1))).setCell ⟨w.heap.size, 1, none⟩ (.int .i64 (j : Int)) := ⟨_, rfl⟩
   have hX5 : Tch X w W5 := by rw [hW5]; exact (((HX1.out.tch X).trans HT5.out).setCell (p := ⟨w.heap.size, 0, none⟩) (fun hp => absurd hp (Nat.lt_irrefl _)) _).setCell (p := ⟨w.heap.size, 1, none⟩) (fun hp => absurd hp (Nat.lt_irrefl _)) _
   have hY5 : Tch (fun b => b = w.heap.size) w5 W5 := by rw [hW5]; exact (((Ext.refl w5).tch (fun b => b = w.heap.size)).setCell (p := ⟨w.heap.size, 0, none⟩) (fun _ => rfl) _).setCell (p := ⟨w.heap.size, 1, none⟩) (fun _ => rfl) _
   have hL5 := HL5.out.tch hY5 fun b hb => by subst hb; exact off_new HL.out (w' := w) (Nat.le_refl _)
   refine bodyPost_ret (v := .tuple #[placeV (-1) (j : Int), .int .i64 0]) (by simp [results, Tryz.results61, go_sem, k0, k1, placeV]) rfl ⟨by rw [<- hW5]; exact hX5, ?_⟩
   rw [HH.out]
   exact ⟨rfl, by rw [<- hW5]; exact hL5⟩
end Go.Proofs.YtfbhchpbflaphaaGreatDoor

namespace Go.Proofs.YtfbhchpbflaphaaGreatDoor
open Go.RowKit Go.Maps Go.ChangeMaps
theorem laidOutZ : laidOutB Tryz.prog = true := by kernel_rfl
theorem keyed162 : Keyed Tryz.prog 162 := Keyed.of_law (deep_law_laid laidOutZ (m := 3) (by omega) (of_decide_eq_true (by kernel_rfl)) (by kernel_rfl) (by rw [Tryz.underlying162]))
theorem types_some : ∃ m, Tryz.prog.types.size + 1 = m + 1 + 1 := ⟨Tryz.prog.types.size - 1, by have : 0 < Tryz.prog.types.size := of_decide_eq_true (by kernel_rfl); omega⟩
theorem keyType162 : Tryz.prog.keyType 162 = true := by kernel_rfl
theorem cells162 : Tryz.prog.cellsOf 162 = 2 := by kernel_rfl
theorem cells3 : Tryz.prog.cellsOf 3 = 1 := by kernel_rfl
theorem cells9 : Tryz.prog.cellsOf 9 = 1 := by kernel_rfl
theorem key162 {u : Nat} {x : ByteArray} (h : DomP (u, x)) : keyOf Tryz.prog 162 (.agg #[.int .i64 (u : Int), .string x]) = some (litP (u, x)) := by
 have hw := nat_wf h.1
 have hx : x.size <= maxLen := by have := h.2; unfold maxLen; exact this
 obtain ⟨m, hm⟩ := types_some
 unfold keyOf
 simp only [Tryz.underlying162]
 rw [if_pos (by simp [keyType162, Value.formed, Tryz.underlying162, cells162]), hm]
 unfold Program.keyLits
 simp only [Tryz.underlying162, Value.cells]
 rw [if_pos ⟨by rw [cells162]; rfl, by kernel_rfl⟩]
 simp [Program.keyLits, Tryz.underlying3, Tryz.underlying9, cells3, cells9, hw, hx, litP]
theorem zero3' (w : World) : (zeroValue 3).run Tryz.prog w = .ok (.int .i64 0) w := by kernel_rfl
theorem OwnL.form {α : Type} {cs : α -> List Value} {e : TypeId} {size : Nat} {w : World} {base n : Nat} {v : Value} {l : List α} (h : OwnL cs e size w base v n l) : ∃ A c, v = .slice A n c := by
 obtain ⟨_, _, ⟨rfl, rfl⟩ | ⟨g, off, cap, cur, rfl, _⟩⟩ := h
 ·exact ⟨none, 0, rfl⟩
 ·exact ⟨_, cap, rfl⟩
theorem info162 : (Tryz.prog.info? 162).map (fun i => (i.zero, i.size, i.bytes)) = some (some (.agg #[.int .i64 0, .string ⟨#[]⟩]), 2, 24) := by kernel_rfl
theorem spot_cells (W : World) (u : Nat) (x : ByteArray) (t : TypeId) (b : Nat) (hb : b = W.heap.size) : ∀ j v, (spotC (u, x))[j]? = some v -> (W.alloc (.cells #[.int .i64 (u : Int), .string x] t)).cell? ⟨b, j, none⟩ = some v := by
 subst hb
 intro j v hj
 rw [cell_new]
 match j with
 | 0 => simpa [spotC] using hj
 | 1 => simpa [spotC] using hj
 | j + 2 => simp [spotC] at hj
theorem LinkAt.pushed {a b c d : World} {S X : Nat -> Prop} {base g : Nat} {E : L.Env} {st : L.St} {M : List (List (Int × Int))} {k : LC} (h : LinkAt a S X base g E st M k) {p : L.Spot} (hp : L.has st.1 p = false)
 (hm : MapG Tryz.prog 162 litP DomP b k.bi (st.1.length + 1) (putG (idxG st.1) p (some (.int .i64 (st.1.length : Int))))) (hab : Tch (fun i => i = k.bi) a b) (hbc : Ext b c) {v : Value} (ho : OwnL spotC 162 2 d base v (st.1.length + 1) (st.1 ++ [p])) (hcd : c.grownBy d k.vL.ownBlock)
 (hv : v.ownBlock = k.vL.ownBlock ∨ ∃ i, v.ownBlock = some i /\ c.heap.size <= i /\ i < d.heap.size) :
 LinkAt (d.setCell ⟨g, 6, none⟩ v) S (fun i => X i ∨ v.ownBlock = some i) base g E (st.1 ++ [p], st.2) M { k with vL := v } /\ Tch X a (d.setCell ⟨g, 6, none⟩ v) /\ (∀ i, v.ownBlock = some i -> X i ∨ a.heap.size <= i) /\ d.frozen? ⟨g, 6, none⟩ = false := by
 have hnew : ∀ i, v.ownBlock = some i -> X i ∨ a.heap.size <= i := by
  intro i hi
  rcases hv with e | ⟨j, e, h1, _⟩
  ·exact Or.inl (h.inX.2.2.2.1 i (by rw [<- e]; exact hi))
  ·rw [e] at hi
   cases hi
   exact Or.inr (Nat.le_trans hab.size (Nat.le_trans hbc.size h1))
 have hcd' : Tch (fun i => k.vL.ownBlock = some i) c d := ⟨hcd.os, hcd.tape, hcd.output, hcd.size, fun i hi hx => hcd.block i hi fun e => hx e.symm⟩
 have hde : Tch (fun i => i = g) d (d.setCell ⟨g, 6, none⟩ v) := grown_tch (grownBy_setCell d ⟨g, 6, none⟩ v)
 have had : Tch (fun i => i = k.bi ∨ k.vL.ownBlock = some i) a d := (hab.mono fun _ _ e => Or.inl e).trans ((hbc.tch _).trans (hcd'.mono fun _ _ e => Or.inr e))
 have hae : Tch (fun i => i = k.bi ∨ k.vL.ownBlock = some i ∨ i = g) a (d.setCell ⟨g, 6, none⟩ v) := (had.mono fun _ _ e => by rcases e with e | e; exact Or.inl e; exact Or.inr (Or.inl e)).trans (hde.mono fun _ _ e => Or.inr (Or.inr e))
 have hXs : ∀ i, (i = k.bi ∨ k.vL.ownBlock = some i ∨ i = g) -> X i := by
  rintro i (rfl | e | rfl)
  ·exact h.inX.2.2.1
  ·exact h.inX.2.2.2.1 i e
  ·exact h.inX.1
 have hS : ∀ i, S i -> i < a.heap.size /\ ¬ (i = k.bi ∨ k.vL.ownBlock = some i ∨ i = g) := fun i hi => ⟨(h.out i hi).1, fun e => (h.out i hi).2 (hXs i e)⟩
 have hne : ∀ i, v.ownBlock = some i -> i ≠ g /\ i ≠ k.bk /\ i ≠ k.bi /\ k.vM.ownBlock ≠ some i := by
  intro i hi
  rcases hv with e | ⟨j, e, h1, _⟩
  ·exact h.apart.2.1 i (by rw [<- e]; exact hi)
  ·rw [e] at hi
   cases hi
   have hge : a.heap.size <= i := Nat.le_trans hab.size (Nat.le_trans hbc.size h1)
   have key : ∀ t, X t -> i ≠ t := fun t ht e => absurd (h.lt t ht).2 (by omega)
   exact ⟨key g h.inX.1, key _ h.inX.2.1, key _ h.inX.2.2.1, fun e => key i (h.inX.2.2.2.2 i e) rfl⟩
 have hrow : LRow d g (.slice k.A E.units.length k.c) (.slice k.B E.libs.length k.d) k.vL k.vM E.objs.length st.2.1 st.2.2 k.bk k.bi := h.row.tch had fun e => by
  rcases e with e | e
  ·exact h.apart.1.2.1 e
  ·exact (h.apart.2.1 g e).1 rfl
 refine ⟨?_, hae.mono fun i _ e => hXs i e, hnew, hrow.frozen 6⟩
 exact {
  row := hrow.set6 v
  units := h.units.tch hae hS
  libs := h.libs.tch hae hS
  known := by
   obtain ⟨f, h1, h2⟩ := h.known
   refine ⟨f, h1.tch hae ?_, h2⟩
   rintro (e | e | e)
   ·exact h.apart.1.2.2 e
   ·exact (h.apart.2.1 _ e).2.1 rfl
   ·exact h.apart.1.1 e.symm
  list := by
   have := ho.tch hde fun i hi e => (hne i hi).1 e
   rw [show st.1.length + 1 = (st.1 ++ [p]).length by simp] at this
   exact this
  index := by
   have h1 : MapG Tryz.prog 162 litP DomP (d.setCell ⟨g, 6, none⟩ v) k.bi (st.1.length + 1) (putG (idxG st.1) p (some (.int .i64 (st.1.length : Int)))) := ((hm.ext hbc).tch hcd' fun e => (h.apart.2.1 _ e).2.2.1 rfl).tch hde fun e => h.apart.1.2.1 e.symm
   have e2 : (st.1 ++ [p]).length = st.1.length + 1 := by simp
   show MapG Tryz.prog 162 litP DomP _ k.bi (st.1 ++ [p]).length (idxG (st.1 ++ [p]))
   rw [e2]
   refine h1.congr fun q hq => ?_
   have hp' : p ∉ st.1 := fun e => by rw [L.has_iff.2 e] at hp; cases hp
   by_cases e : q = p
   ·subst e
    rw [putG_same]
    unfold idxG
    rw [if_pos (L.has_iff.2 (by simp)), L.pos_snoc hp']
   ·rw [putG_other _ e]
    unfold idxG
    by_cases hq2 : q ∈ st.1
    ·rw [if_pos (L.has_iff.2 (List.mem_append_left _ hq2)), if_pos (L.has_iff.2 hq2), L.pos_append _ hq2]
    ·rw [if_neg (fun h' => by rcases List.mem_append.1 (L.has_iff.1 h') with h' | h'; exact hq2 h'; exact e (List.mem_singleton.1 h')), if_neg (fun h' => hq2 (L.has_iff.1 h'))]
  means := by
   obtain ⟨xs, h1, h2⟩ := h.means
   refine ⟨xs, h1.tch hae ?_, h2.tch hae hS⟩
   rintro i hi (e | e | e)
   ·exact (h.apart.2.2 i hi).2.2 e
   ·exact (h.apart.2.1 i e).2.2.2 hi
   ·exact (h.apart.2.2 i hi).1 e
  inX := ⟨Or.inl h.inX.1, Or.inl h.inX.2.1, Or.inl h.inX.2.2.1, fun i hi => Or.inr hi, fun i hi => Or.inl (h.inX.2.2.2.2 i hi)⟩
  apart := ⟨h.apart.1, hne, h.apart.2.2⟩
  out := fun i hi => ⟨Nat.lt_of_lt_of_le (h.out i hi).1 hae.size, fun e => by
   rcases e with e | e
   ·exact (h.out i hi).2 e
   ·rcases hnew i e with e' | e'
    ·exact (h.out i hi).2 e'
    ·have := (h.out i hi).1; omega⟩
  lt := fun i hi => by
   rcases hi with hi | hi
   ·exact ⟨(h.lt i hi).1, Nat.lt_of_lt_of_le (h.lt i hi).2 hae.size⟩
   ·exact ⟨(ho.lt hi).1, Nat.lt_of_lt_of_le (ho.lt hi).2 hde.size⟩ }
def RetAdd (w : World) (S X : Nat -> Prop) (base g : Nat) (E : L.Env) (_st : L.St) (M : List (List (Int × Int))) (p : L.Spot) (r : Except Int L.St) (e : Ending) (w' : World) : Prop :=
 Tch X w w' /\ match r with
 | .error n => e = .returned (.tuple #[.int .i64 0, .int .i64 n])
 | .ok st' => e = .returned (.tuple #[.int .i64 (L.pos st'.1 p : Int), .int .i64 0]) /\ ∃ X' k', (∀ b, X' b -> X b ∨ w.heap.size <= b) /\ LinkAt w' S X' base g E st' M k'
attribute [local irreducible] wpLex
set_option maxRecDepth 8000 in
set_option maxHeartbeats 4000000 in
theorem add_any (w : World) (S X : Nat -> Prop) (base g : Nat) (E : L.Env) (st : L.St) (M : List (List (Int × Int))) (k : LC) (h : LinkAt w S X base g E st M k) (p : L.Spot) (hp : DomP p) (_hd : ∀ q ∈ st.1, DomP q) (hl : st.1.length <= 128) :
 Calls Tryz.prog 48 #[.pointer (some ⟨g, 0, none⟩), .int .i64 (p.1 : Int), .string p.2] w (RetAdd w S X base g E st M p (L.addS st p)) := by
 obtain ⟨R, hR⟩ : ∃ R, R = L.addS st p := ⟨_, rfl⟩
 rw [<- hR]
 unfold L.addS at hR
 obtain ⟨u, x⟩ := p
 have HL := Lib.hid h
 obtain ⟨W1, hW1⟩ : ∃ W1, W1 = w.alloc (.cells #[.int .i64 (u : Int), .string x] 162) := ⟨_, rfl⟩
 have E1 : Ext w W1 := by rw [hW1]; exact (Ext.refl w).alloc _
 have hb1 : W1.heap[w.heap.size]? = some (.cells #[.int .i64 (u : Int), .string x] 162 (0, 0)) := by rw [hW1]; exact heap_alloc_new w _
 have HL1 := Lib.hid (h.ext E1)
 have c7 := HL1.out.row.c7
 have y0 : W1.cell? ⟨w.heap.size, 0, none⟩ = some (.int .i64 (u : Int)) := by rw [hW1]; exact cell_new w _ 162 0
 have y1 : W1.cell? ⟨w.heap.size, 1, none⟩ = some (.string x) := by rw [hW1]; exact cell_new w _ 162 1
 have fx0 : ∀ x : Lat (Ext W1), x.w'.cell? ⟨g, 7, none⟩ = _ := fun x => x.h.keepc c7
 have fx1 : ∀ x : Lat (Ext W1), x.w'.cell? ⟨w.heap.size, 0, none⟩ = _ := fun x => x.h.keepc y0
 have fx2 : ∀ x : Lat (Ext W1), x.w'.cell? ⟨w.heap.size, 1, none⟩ = _ := fun x => x.h.keepc y1
 have hne := Lat.some (Φ := Ext W1) ((Ext.refl W1).drew)
 have hlk : ∀ z : Lat (Ext W1), (Instr.lookup 137 (.map (some k.bi)) (.agg #[.int .i64 (u : Int), .string x]) true).run Tryz.prog z.w' = .ok (.tuple #[(idxG st.1 (u, x)).getD (.int .i64 0), .bool (idxG st.1 (u, x)).isSome]) z.w' := fun z =>
  ((HL1.out.ext z.h).index).look (mt := 137) (e := 3) keyed162 Tryz.underlying137 (zero3' _) hp (key162 hp)
 have HW1 := Lib.hid hW1
 have HB1 := Lib.hid hb1
 have HX1 := Lib.hid E1
 clear h hW1 hb1 E1
 by_cases hh : L.has st.1 (u, x) = true
 ·rw [if_pos hh] at hR
  have hi : idxG st.1 (u, x) = some (.int .i64 (L.pos st.1 (u, x) : Int)) := by unfold idxG; rw [if_pos hh]
  rw [hi] at hlk
  have hlk2 : ∀ z : Lat (Ext W1), (Instr.lookup 137 (.map (some k.bi)) (.agg #[.int .i64 (u : Int), .string x]) true).run Tryz.prog z.w' = .ok (.tuple #[.int .i64 (L.pos st.1 (u, x) : Int), .bool true]) z.w' := hlk
  have HR := Lib.hid hR
  obtain ⟨ps, hps⟩ : ∃ ps, ps = L.pos st.1 (u, x) := ⟨_, rfl⟩
  rw [<- hps] at hlk2
  have HPS := Lib.hid hps
  clear hlk hi hh hR hps
  go_enter Tryz.func48, Tryz.ntmps48
  go_upto_region 2 with (fail)
  rw [<- HW1.out]
  refine wp_region_lat [] (Ext W1) ((Ext.refl W1).drew) (by kernel_rfl) (by kernel_rfl) (by kernel_rfl) ?_
  iterate 11 (refine lex_pure rfl rfl rfl ?_; intro K hK; go_big_quiet_op; go_big_quiet_on)
  refine lex_nil ?_
  clear fx0 fx1 fx2 hne hlk2
  go_wp2_with fail
  go_ret2
  refine ⟨(HX1.out.tch X).trans (((Ext.refl W1).drew).tch X), ?_⟩
  rw [HR.out, HPS.out]
  exact ⟨rfl, X, k, fun b hb => Or.inl hb, HL1.out.ext ((Ext.refl W1).drew)⟩
 ·rw [if_neg hh] at hR
  have hi : idxG st.1 (u, x) = none := by unfold idxG; rw [if_neg hh]
  rw [hi] at hlk
  have hlk2 : ∀ z : Lat (Ext W1), (Instr.lookup 137 (.map (some k.bi)) (.agg #[.int .i64 (u : Int), .string x]) true).run Tryz.prog z.w' = .ok (.tuple #[.int .i64 0, .bool false]) z.w' := hlk
  obtain ⟨vA, vc, hvL⟩ := HL1.out.list.form
  obtain ⟨n, hn⟩ : ∃ n, n = st.1.length := ⟨_, rfl⟩
  rw [<- hn] at hvL hl hR
  have HVL := Lib.hid hvL
  have HN := Lib.hid hn
  have c6 := HL1.out.row.c6
  rw [hvL] at c6
  have hnm : (u, x) ∉ st.1 := fun e => hh (L.has_iff.2 e)
  have HNM := Lib.hid hnm
  clear hlk hi hh hvL hn hnm
  by_cases h128 : 128 <= n
  ·rw [if_pos h128] at hR
   have HR := Lib.hid hR
   obtain rfl : n = 128 := by omega
   clear hR h128
   go_enter Tryz.func48, Tryz.ntmps48
   go_upto_region 2 with (fail)
   rw [<- HW1.out]
   refine wp_region_lat [] (Ext W1) ((Ext.refl W1).drew) (by kernel_rfl) (by kernel_rfl) (by kernel_rfl) ?_
   iterate 11 (refine lex_pure rfl rfl rfl ?_; intro K hK; go_big_quiet_op; go_big_quiet_on)
   refine lex_nil ?_
   clear fx0 fx1 fx2 hne hlk2
   go_wp2_with fail
   go_ret2
   refine ⟨(HX1.out.tch X).trans (((Ext.refl W1).drew).tch X), ?_⟩
   rw [HR.out]
   rfl
  ·rw [if_neg h128] at hR
   have HR := Lib.hid hR
   have h128d : ((n : Int) == 128) = false := beq_eq_false_iff_ne.2 (by omega)
   have h128e : ¬ (n : Int) = 128 := by omega
   clear hR
   go_enter Tryz.func48, Tryz.ntmps48
   go_upto_region 2 with (fail)
   rw [<- HW1.out]
   refine wp_region_lat [] (Ext W1) ((Ext.refl W1).drew) (by kernel_rfl) (by kernel_rfl) (by kernel_rfl) ?_
   iterate 11 (refine lex_pure rfl rfl rfl ?_; intro K hK; go_big_quiet_op; go_big_quiet_on)
   refine lex_nil ?_
   clear fx0 fx1 fx2 hne hlk2
   obtain ⟨W2, hW2⟩ : ∃ W2, W2 = W1.drew := ⟨_, rfl⟩
   have E2 : Ext W1 W2 := by rw [hW2]; exact (Ext.refl W1).drew
   rw [<- hW2]
   have HL2 := Lib.hid (HL1.out.ext E2)
   have d6 := E2.keepc c6
   have d7 := E2.keepc c7
   have z0 := E2.keepc y0
   have z1 := E2.keepc y1
   have HB2 := Lib.hid ((E2.block _ (hltA HB1.out)).trans HB1.out)
   have HX2 := Lib.hid (HX1.out.trans E2)
   clear hW2 E2 c6 c7 y0 y1
   have fx0 : ∀ x : Lat (Ext W2), x.w'.cell? ⟨g, 7, none⟩ = _ := fun x => x.h.keepc d7
   have fx1 : ∀ x : Lat (Ext W2), x.w'.cell? ⟨w.heap.size, 0, none⟩ = _ := fun x => x.h.keepc z0
   have fx2 : ∀ x : Lat (Ext W2), x.w'.cell? ⟨w.heap.size, 1, none⟩ = _ := fun x => x.h.keepc z1
   have fx3 : ∀ x : Lat (Ext W2), x.w'.cell? ⟨g, 6, none⟩ = _ := fun x => x.h.keepc d6
   have hne := Lat.some (Φ := Ext W2) ((Ext.refl W2).drew)
   go_upto_region 7 with (fail)
   refine wp_region_tail 10 [] (Ext W2) ((Ext.refl W2).drew) (by kernel_rfl) (by kernel_rfl) (by kernel_rfl) ?_
   simp only [List.take_succ_cons, List.take_zero, List.drop_succ_cons, List.drop_zero]
   iterate 10 (refine lex_pure rfl rfl rfl ?_; intro K hK; go_big_quiet_op; go_big_quiet_on)
   refine lex_nil ?_
   clear fx0 fx1 fx2 fx3 hne
   go_wp2_with (refine wpList_mapG_put (b := k.bi) (HL2.out.ext ((Ext.refl W2).drew)).index keyed162 (by have := HN.out; omega) litP_inj litP_key rfl _ _ _ 137 3 rfl Tryz.underlying137 rfl (u, x) (.agg #[.int .i64 (u : Int), .string x]) (.int .i64 (n : Int)) rfl rfl hp (key162 hp) ?_)
   intro w3 hm3 ht3
   have hT3 := grown_tch ht3.grown
   have hLd := HL2.out.ext ((Ext.refl W2).drew)
   have hR3 := hLd.row.tch hT3 hLd.apart.1.2.1
   have hO3 := hLd.list.tch hT3 fun b hb => (hLd.apart.2.1 b hb).2.2.1
   obtain ⟨yy, _⟩ := hT3.cells (b := w.heap.size) (show W2.drew.heap[w.heap.size]? = _ from HB2.out) (fun e => (off_new (w' := w) HL.out (Nat.le_refl _)).1 (e ▸ HL.out.inX.2.2.1))
   have a0 := yy 0
   have a1 := yy 1
   have a6 := hR3.c6
   have g6 := hR3.frozen 6
   rw [HVL.out] at a6
   have HM3 := Lib.hid hm3
   have HT3 := Lib.hid hT3
   have HR3 := Lib.hid hR3
   have HO3 := Lib.hid hO3
   clear hm3 ht3 hT3 hR3 hO3 yy hLd z0 z1 d6 d7
   obtain ⟨Φ, hΦ⟩ : ∃ Φ : World -> Prop, ∀ w', Φ w' ↔ (w'.cell? ⟨g, 6, none⟩ = some (.slice vA n vc) /\ w'.cell? ⟨w.heap.size, 0, none⟩ = some (.int .i64 (u : Int)) /\ w'.cell? ⟨w.heap.size, 1, none⟩ = some (.string x)) := ⟨_, fun _ => Iff.rfl⟩
   have h0 : Φ w3.drew := (hΦ _).2 ⟨a6, a0, a1⟩
   have fx0 : ∀ z : Lat Φ, z.w'.cell? ⟨g, 6, none⟩ = some (.slice vA n vc) := fun z => ((hΦ _).1 z.h).1
   have fx1 : ∀ z : Lat Φ, z.w'.cell? ⟨w.heap.size, 0, none⟩ = some (.int .i64 (u : Int)) := fun z => ((hΦ _).1 z.h).2.1
   have fx2 : ∀ z : Lat Φ, z.w'.cell? ⟨w.heap.size, 1, none⟩ = some (.string x) := fun z => ((hΦ _).1 z.h).2.2
   have hne := Lat.some h0
   have HPhi := Lib.hid hΦ
   obtain ⟨i0, hi0, hz0, hz1, hz2⟩ := info_parts info162
   clear hΦ
   go_upto_region 8 with (fail)
   refine wp_region_tail 10 [6, 7] Φ h0 (by kernel_rfl) (by kernel_rfl) (by kernel_rfl) ?_
   simp only [List.take_succ_cons, List.take_zero, List.drop_succ_cons, List.drop_zero]
   iterate 6 (refine lex_pure rfl rfl rfl ?_; intro K hK; go_big_quiet_op; go_big_quiet_on)
   refine lex_eff rfl ?_
   go_wp2_with fail
   obtain ⟨W4, hW4⟩ : ∃ W4, W4 = (w3.alloc (.cells #[.int .i64 (u : Int), .string x] 162)).drew := ⟨_, rfl⟩
   have E4 : Ext w3 W4 := by rw [hW4]; exact ((Ext.refl w3).alloc _).drew
   have hs4 : ∀ j v, (spotC (u, x))[j]? = some v -> W4.cell? ⟨w3.heap.size, j, none⟩ = some v := by rw [hW4]; exact spot_cells w3 u x 162 _ rfl
   rw [<- hW4]
   clear hW4
   have b6 := E4.keepc a6
   have b0 := E4.keepc a0
   have b1 := E4.keepc a1
   refine ⟨⟨⟨W4, (HPhi.out _).2 ⟨b6, b0, b1⟩⟩, rfl⟩, ?_⟩
   have hownA := HO3.out.ext E4
   rw [HVL.out, <- HN.out] at hownA
   have hbase : base <= W4.heap.size := by
    have h1 := (HL.out.lt _ HL.out.inX.1)
    have h2 := HX2.out.size
    have h3 := HT3.out.size
    have h4 := E4.size
    have h5 : W2.drew.heap.size = W2.heap.size := rfl
    omega
   have HE4 := Lib.hid E4
   clear E4
   refine lex_eff rfl ?_
   go_wp2_with (at_builtin; refine wpList_append_one rfl (.tmp 45) (.tmp 47) 136 rfl Tryz.underlying136 hi0 hz0 hz1 hz2 rfl (by decide) (by decide) rfl hownA (u, x) rfl rfl hs4 (spotC_one _) (by omega) hbase ?_; intro v4 w4 hown4 hg4 hv4)
   obtain ⟨A4, c4, rfl⟩ := hown4.form
   have hne6 : (Value.slice vA n vc).ownBlock ≠ some g := fun e => (HL.out.apart.2.1 g (by rw [HVL.out]; exact e)).1 rfl
   have hneW : (Value.slice vA n vc).ownBlock ≠ some w.heap.size := fun e => (off_new (w' := w) HL.out (Nat.le_refl _)).1 (HL.out.inX.2.2.2.1 _ (by rw [HVL.out]; exact e))
   have e6 := grown_keepc hg4 b6 hne6
   have e0 := grown_keepc hg4 b0 hneW
   have e1 := grown_keepc hg4 b1 hneW
   have HG4 := Lib.hid hg4
   have HO4 := Lib.hid hown4
   have HV4 := Lib.hid hv4
   clear hg4 hown4 hv4 hownA hs4 b6 b0 b1
   refine ⟨⟨⟨w4, (HPhi.out _).2 ⟨e6, e0, e1⟩⟩, rfl⟩, ?_⟩
   iterate 2 (refine lex_pure rfl rfl rfl ?_; intro K hK; go_big_quiet_op; go_big_quiet_on)
   refine lex_nil ?_
   have hp2 := HL2.out.ext ((Ext.refl W2).drew)
   obtain ⟨hLF, hTF, hnew, e6'⟩ := hp2.pushed (p := (u, x)) (by cases hhh : L.has st.1 (u, x); rfl; exact absurd (L.has_iff.1 hhh) HNM.out) (by have h := HM3.out; rw [HN.out] at h; exact h) HT3.out HE4.out (v := .slice A4 (n + 1) c4) (by rw [<- HN.out]; exact HO4.out) (by rw [HVL.out]; exact HG4.out) (by rw [HVL.out]; exact HV4.out)
   clear fx0 fx1 fx2 hne h0
   have HLF := Lib.hid hLF
   have HTF := Lib.hid hTF
   clear hLF hTF hp2
   have HNW := Lib.hid hnew
   clear hnew
   go_wp2_with fail
   go_ret2
   have h1 : Tch X w W2.drew := HX2.out.tch X |>.trans (((Ext.refl W2).drew).tch X)
   refine ⟨h1.trans HTF.out, ?_⟩
   rw [HR.out]
   refine ⟨?_, fun i => X i ∨ (Value.slice A4 (n + 1) c4).ownBlock = some i, _, fun b hb => ?_, HLF.out⟩
   ·rw [L.pos_snoc HNM.out, <- HN.out]
    rfl
   ·rcases hb with hb | hb
    ·exact Or.inl hb
    ·rcases HNW.out b hb with h | h
     ·exact Or.inl h
     ·exact Or.inr (Nat.le_trans HX2.out.size h)
end Go.Proofs.YtfbhchpbflaphaaGreatDoor
