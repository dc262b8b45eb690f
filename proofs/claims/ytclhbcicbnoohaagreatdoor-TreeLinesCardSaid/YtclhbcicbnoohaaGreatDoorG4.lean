/- The texts Pa Pb Pc Ph Pr Ma Mb Mc Md Me Mf Cod Oa Ob of the seat, joined. -/
import Derived.Test.YtclhbcicbnoohaaGreatDoorG3
import Derived.Lib.CountLaws
import Derived.Lib.Replace
import Derived.Lib.ItoaNum
import Derived.IntWalk
import Derived.Lib.AppendIntMem
import Derived.Lib.ConvBytes
import Derived.RegionTactic
import Derived.BigRegion
import Derived.Deep.RegionWith
/- Names of files: tree.part, tree.Path. -/
namespace Go.Proofs.YtclhbcicbnoohaaGreatDoor
open Go.RowKit

/-- The letters of a name. -/
def runeB (n : Int) : Bool := (decide (97 ≤ n) && decide (n ≤ 122)) || (decide (48 ≤ n) && decide (n ≤ 57)) || decide (n = 46) || decide (n = 95) || decide (n = 45)

set_option maxHeartbeats 400000 in
theorem pred56 (w : World) : PredAt Tryz.prog 86 #[] encR (fun r => !runeB (r : Int)) w := by
  intro W x hb
  have hv : Hid (runeB (x : Int) = ((decide (97 ≤ (x : Int)) && decide ((x : Int) ≤ 122)) || (decide (48 ≤ (x : Int)) && decide ((x : Int) ≤ 57)) || decide ((x : Int) = 46) || decide ((x : Int) = 95) || decide ((x : Int) = 45))) := rfl
  unfold FnGives
  by_cases h1 : 97 ≤ (x : Int) ∧ (x : Int) ≤ 122
  · obtain ⟨g1, g2⟩ := h1
    go_enter Tryz.func86, Tryz.ntmps86
    go_wp2_with fail
    go_ret
    exact ⟨ret_bool (by rw [hv.out]; simp; omega), 0, rfl⟩
  · by_cases h2 : 48 ≤ (x : Int) ∧ (x : Int) ≤ 57
    · obtain ⟨g1, g2⟩ := h2
      go_enter Tryz.func86, Tryz.ntmps86
      go_wp2_with fail
      go_ret
      exact ⟨ret_bool (by rw [hv.out]; simp; omega), 0, rfl⟩
    · by_cases h3 : (x : Int) = 46
      · have e1 : ((x : Int) == 46) = true := by simp [h3]
        have g1 : (x : Int) < 48 := by omega
        have g2 : 0 ≤ (x : Int) := by omega
        clear h1 h2
        go_enter Tryz.func86, Tryz.ntmps86
        go_wp2_with fail
        go_ret
        exact ⟨ret_bool (by rw [hv.out]; simp [h3]), 0, rfl⟩
      · have e1 : ((x : Int) == 46) = false := by simp; omega
        have tail : ∀ b2 b3, ((x : Int) == 95) = b2 → ((x : Int) == 45) = b3 → runeB (x : Int) = (b2 || b3) → ((x : Int) < 48 ∨ (57 < (x : Int) ∧ (x : Int) < 97) ∨ 122 < (x : Int)) → Calls Tryz.prog 86 (#[encR x] ++ #[]) W fun e w' => e = Ending.returned (Value.bool ((fun r : Nat => !runeB (r : Int)) x)) ∧ ∃ q, w' = W.drewN q := by
          intro b2 b3 e2 e3 hr hc
          have HR := Lib.hid hr
          clear hr h1 h2 h3 hv
          rcases hc with g | ⟨g, g'⟩ | g <;> cases b2 <;> cases b3
          all_goals
            go_enter Tryz.func86, Tryz.ntmps86
            go_wp2_with fail
            go_ret
            exact ⟨ret_bool (by show _ = !runeB _; rw [HR.out]; first | rfl | (simp; omega)), 0, rfl⟩
        refine tail _ _ rfl rfl ?_ (by omega)
        rw [hv.out]
        have c1 : (decide (97 ≤ (x : Int)) && decide ((x : Int) ≤ 122)) = false := by simp; omega
        have c2 : (decide (48 ≤ (x : Int)) && decide ((x : Int) ≤ 57)) = false := by simp; omega
        have c3 : decide ((x : Int) = 46) = false := by simp; omega
        rw [c1, c2, c3]
        rfl

theorem eg56 : ∀ (args : Array Value) (w : World), (callFunc 86 args).run Tryz.prog w = .ok (.enter 86 args) w := enters_of Tryz.func86 (by kernel_rfl) rfl
/-- Are all letters those of a name? -/
def allRunes (s : ByteArray) : Bool := !decide (0 ≤ Lib.idxFunc (fun r => !runeB (r : Int)) true s)
/-- What a name is. -/
def partB (s : ByteArray) : Bool := if h : 0 < s.size then (if 32 < s.size then false else if s[0] = 46 then false else if s[0] = 45 then false else allRunes s) else false

set_option maxHeartbeats 400000 in
theorem part_any (s : ByteArray) (w : World) (hs : s.size ≤ 9223372036854775807) : Calls Tryz.prog 61 #[.string s] w (Al (.bool (partB s)) w) := by
  by_cases h0 : 0 < s.size
  · have hne : s.toList.isEmpty = false := by
      rw [ByteArray.toList_eq]
      have hl : s.data.toList.length = s.size := by simp
      cases hq : s.data.toList with
      | nil => rw [hq] at hl; simp at hl; omega
      | cons a l => rfl
    have HP : Hid (partB s = if 32 < s.size then false else if s[0] = 46 then false else if s[0] = 45 then false else allRunes s) := by unfold Hid partB; rw [dif_pos h0]
    have hb : s[0].toNat ≤ 255 := by have := s[0].toNat_lt; omega
    by_cases h32 : 32 < s.size
    · have hp : partB s = false := by rw [HP.out, if_pos h32]
      rw [hp]
      go_enter Tryz.func61, Tryz.ntmps61
      go_wp2_with fail
      go_ret
      exact ⟨rfl, Ext.refl _⟩
    · by_cases h46 : s[0] = 46
      · have hp : partB s = false := by rw [HP.out, if_neg h32, if_pos h46]
        have e1 : ((s[0].toNat : Int) == 46) = true := by rw [h46]; rfl
        rw [hp]
        go_enter Tryz.func61, Tryz.ntmps61
        go_wp2_with fail
        go_ret
        exact ⟨rfl, Ext.refl _⟩
      · have e1 : ((s[0].toNat : Int) == 46) = false := by
          simp only [beq_eq_false_iff_ne, ne_eq]
          intro e
          exact h46 (UInt8.toNat_inj.1 (by show s[0].toNat = 46; omega))
        by_cases h45 : s[0] = 45
        · have hp : partB s = false := by rw [HP.out, if_neg h32, if_neg h46, if_pos h45]
          have e2 : ((s[0].toNat : Int) == 45) = true := by rw [h45]; rfl
          rw [hp]
          go_enter Tryz.func61, Tryz.ntmps61
          go_wp2_with fail
          go_ret
          exact ⟨rfl, Ext.refl _⟩
        · have e2 : ((s[0].toNat : Int) == 45) = false := by
            simp only [beq_eq_false_iff_ne, ne_eq]
            intro e
            exact h45 (UInt8.toNat_inj.1 (by show s[0].toNat = 45; omega))
          obtain ⟨R, hR⟩ : ∃ R, decide (0 ≤ Lib.idxFunc (fun r => !runeB (r : Int)) true s) = R := ⟨_, rfl⟩
          have hp : partB s = !R := by rw [HP.out, if_neg h32, if_neg h46, if_neg h45, allRunes, hR]
          have HR := Lib.hid hR
          rw [hp]
          clear hR
          go_enter Tryz.func61, Tryz.ntmps61
          go_wp2_with fail
          refine (Tryz.strings_ContainsFunc 86 #[] eg56 (fun r => !runeB (r : Int)) s _ (pred56 _)).mono ?_
          rw [HR.out]
          rintro e w1 ⟨rfl, d1⟩
          go_wp2_with fail
          go_ret
          exact ⟨rfl, d1⟩
  · have hz : s.size = 0 := by omega
    have hp : partB s = false := by unfold partB; rw [dif_neg h0]
    have hne : s.toList.isEmpty = true := by
      rw [ByteArray.toList_eq]
      have hl : s.data.toList.length = s.size := by simp
      cases hq : s.data.toList with
      | nil => rfl
      | cons a l => rw [hq] at hl; simp at hl; omega
    rw [hp]
    clear h0
    go_enter Tryz.func61, Tryz.ntmps61
    go_wp2_with fail
    go_ret
    exact ⟨rfl, Ext.refl _⟩

end Go.Proofs.YtclhbcicbnoohaaGreatDoor

/- slices.ContainsFunc of strings; tree.Path. -/
namespace Go.Proofs.YtclhbcicbnoohaaGreatDoor
open Go.RowKit

set_option maxHeartbeats 400000 in
theorem notPart_any (s : ByteArray) (w : World) (hs : s.size ≤ 9223372036854775807) : Calls Tryz.prog 60 #[.string s] w (Al (.bool (!partB s)) w) := by
  have h := fun w' => part_any s w' hs
  have HH := Lib.hid h
  clear h
  generalize partB s = B at *
  go_enter Tryz.func60, Tryz.ntmps60
  go_wp2_with (go_at_call 61; refine (HH.out _).mono ?_; rintro e w1 ⟨rfl, d1⟩)
  go_ret
  exact ⟨rfl, d1⟩
theorem eg47 : ∀ (args : Array Value) (w : World), (callFunc 60 args).run Tryz.prog w = .ok (.enter 60 args) w := enters_of Tryz.func60 (by kernel_rfl) rfl

set_option maxHeartbeats 400000 in
theorem IndexStr (l : List ByteArray) (b c L g : Nat) (lb : Array Value) (p : ByteArray → Bool) (w : World) (eg : ∀ args w, (callFunc g args).run Tryz.prog w = .ok (.enter g args) w) (hL : L = l.length) (hL2 : L ≤ 9000000)
    (hc : ∀ j (h : j < l.length), w.cell? ⟨b, j, none⟩ = some (.string l[j])) (hp : ∀ x ∈ l, ∀ w', Calls Tryz.prog g (#[.string x] ++ lb) w' (Al (.bool (p x)) w')) :
    Calls Tryz.prog 84 #[.slice (some ⟨b, 0, none⟩) L c, .func (.func g) #[] lb] w fun e w' => (∃ i : Int, e = .returned (.int .i64 i) ∧ decide (0 ≤ i) = l.any p) ∧ Ext w w' := by
  have HC := Lib.hid hc
  have HP := Lib.hid hp
  have HL := Lib.hid hL
  clear hc hp hL
  go_enter Tryz.func84, Tryz.ntmps84
  go_wp2_with fail
  go_loopw [5, 8] (fun _ i wr => ∃ k : Nat, k ≤ L ∧ i = .int .i64 k ∧ Hid (∀ j (h : j < l.length), j < k → p l[j] = false) ∧ Ext w wr) (fun _ i _ => L - (intOf i).toNat)
  case atStart => exact ⟨0, Nat.zero_le _, rfl, fun j _ hj => absurd hj (Nat.not_lt_zero _), Ext.refl _⟩
  case round =>
    obtain ⟨k, hk, rfl, hno, hd⟩ := hrel
    by_cases hlt : k < L
    · have hkl : k < l.length := by have := HL.out; omega
      have c0 := hd.keepc (HC.out k hkl)
      have hcall := HP.out l[k] (List.getElem_mem hkl) wr
      have hk0 : k ≤ 9000000 := by omega
      cases hpk : p l[k] with
      | true =>
        rw [hpk] at hcall
        have HK := Lib.hid hcall
        have HPK := Lib.hid hpk
        clear hcall hpk
        go_wp2_with (go_at_fn g; refine HK.out.mono ?_; rintro e w1 ⟨rfl, d1⟩)
        go_ret
        refine ⟨⟨_, rfl, ?_⟩, hd.trans d1⟩
        rw [List.any_eq_true.2 ⟨l[k], List.getElem_mem hkl, HPK.out⟩]
        simp
      | false =>
        rw [hpk] at hcall
        have HK := Lib.hid hcall
        have HPK := Lib.hid hpk
        clear hcall hpk
        go_wp2_with (go_at_fn g; refine HK.out.mono ?_; rintro e w1 ⟨rfl, d1⟩)
        go_roundw
        case rel =>
          refine ⟨k + 1, by omega, by go_num, fun j h hj => ?_, hd.trans d1⟩
          by_cases e : j = k
          · subst e; exact HPK.out
          · exact hno.out j h (by omega)
        case measure => simp [intOf]; omega
    · have hkL : k = L := by omega
      go_wp2_with fail
      go_ret
      refine ⟨⟨_, rfl, ?_⟩, hd⟩
      have : l.any p = false := by
        rw [List.any_eq_false]
        intro x hx
        obtain ⟨j, hj, rfl⟩ := List.getElem_of_mem hx
        have := hno.out j hj (by have := HL.out; omega)
        simp [this]
      rw [this]
      rfl

set_option maxHeartbeats 400000 in
theorem ContainsStr (l : List ByteArray) (b c L g : Nat) (lb : Array Value) (p : ByteArray → Bool) (w : World) (eg : ∀ args w, (callFunc g args).run Tryz.prog w = .ok (.enter g args) w) (hL : L = l.length) (hL2 : L ≤ 9000000)
    (hc : ∀ j (h : j < l.length), w.cell? ⟨b, j, none⟩ = some (.string l[j])) (hp : ∀ x ∈ l, ∀ w', Calls Tryz.prog g (#[.string x] ++ lb) w' (Al (.bool (p x)) w')) :
    Calls Tryz.prog 59 #[.slice (some ⟨b, 0, none⟩) L c, .func (.func g) #[] lb] w (Al (.bool (l.any p)) w) := by
  have h := IndexStr l b c L g lb p w eg hL hL2 hc hp
  obtain ⟨B, hB⟩ : ∃ B, B = l.any p := ⟨_, rfl⟩
  rw [← hB] at h ⊢
  have HH := Lib.hid h
  clear h hc hp hB eg hL
  go_enter Tryz.func59, Tryz.ntmps59
  go_wp2_with fail
  refine HH.out.mono ?_
  rintro e w1 ⟨⟨i, rfl, hi⟩, d1⟩
  go_wp2_with fail
  go_ret
  exact ⟨rfl, d1⟩

theorem split_len (sep : ByteArray) (h1 : 1 ≤ sep.size) : ∀ (k : Nat) (s : ByteArray), Lib.countB s sep = k → (Lib.splitB sep 0 k s).length = k + 1
  | 0, s, _ => rfl
  | k + 1, s, h => by
    obtain ⟨i, hi⟩ : ∃ i : Nat, Lib.indexB s sep = i := Lib.index_of_count (show 0 < Lib.count s.data.toList sep.data.toList by have : Lib.count s.data.toList sep.data.toList = k + 1 := h; omega)
    have hc := Lib.countB_hit s sep i h1 hi
    rw [Lib.splitB_hit sep 0 k s i hi, List.length_cons, split_len sep h1 k _ (by omega)]

/-- The parts of a path. -/
def pieces (s : ByteArray) : List ByteArray := Lib.splitB ⟨#[47]⟩ 0 (Lib.countB s ⟨#[47]⟩) s
theorem pieces_len (s : ByteArray) : (pieces s).length = Lib.countB s ⟨#[47]⟩ + 1 := split_len ⟨#[47]⟩ (by decide) _ s rfl
/-- What a path is. -/
def pathB (s : ByteArray) : Bool := decide (s.size ≤ 128) && decide ((pieces s).length ≤ 8) && !((pieces s).any fun x => !partB x)

end Go.Proofs.YtclhbcicbnoohaaGreatDoor

/- tree.Path. -/
namespace Go.Proofs.YtclhbcicbnoohaaGreatDoor
open Go.RowKit

theorem extract_le (s : ByteArray) (i j : Nat) : (s.extract i j).size ≤ s.size := by rw [ByteArray.size_extract]; omega
theorem split_sizes (sep : ByteArray) : ∀ (k : Nat) (s : ByteArray), ∀ x ∈ Lib.splitB sep 0 k s, x.size ≤ s.size
  | 0, s, x, hx => by
    rw [Lib.splitB_zero] at hx
    simp at hx
    rw [hx]; exact Nat.le_refl _
  | k + 1, s, x, hx => by
    unfold Lib.splitB at hx
    split at hx
    · simp at hx
      rw [hx]; exact Nat.le_refl _
    · rcases List.mem_cons.1 hx with rfl | hx
      · exact extract_le _ _ _
      · exact Nat.le_trans (split_sizes sep k _ x hx) (extract_le _ _ _)
theorem pieces_sizes (s : ByteArray) : ∀ x ∈ pieces s, x.size ≤ s.size := split_sizes _ _ s

def pathE (s : ByteArray) : Int := if pathB s = true then 0 else 2
set_option maxHeartbeats 400000 in
theorem Path_any (s : ByteArray) (m : Int) (w : World) (hs : s.size ≤ 1000000) (hm : w.cell? ⟨0, 0, none⟩ = some (.int .i64 m)) : Calls Tryz.prog 27 #[.string s] w (Al (.int .i64 (pathE s)) w) := by
  have hsp := fun w' (h : w'.cell? ⟨0, 0, none⟩ = some (.int .i64 m)) => Tryz.strings_Split s ⟨#[47]⟩ m w' (by omega) h (by decide)
  obtain ⟨L, hL⟩ : ∃ L, L = (pieces s).length := ⟨_, rfl⟩
  obtain ⟨X, hX⟩ : ∃ X, X = (pieces s).any (fun x => !partB x) := ⟨_, rfl⟩
  have hpB : pathE s = if decide (s.size ≤ 128) && decide (L ≤ 8) && !X then 0 else 2 := by unfold pathE pathB; rw [← hL, ← hX]
  have hc : ∀ w' : World, ∀ j (h : j < (pieces s).length), (w'.alloc (.cells ((pieces s).map Value.string).toArray 9)).cell? ⟨w'.heap.size, j, none⟩ = some (.string (pieces s)[j]) := fun w' j h => by
    rw [cell_new]; simp [h]
  have hCF := fun (w' : World) => ContainsStr (pieces s) w'.heap.size L L 60 #[] (fun x => !partB x) (w'.alloc (.cells ((pieces s).map Value.string).toArray 9)) eg47 hL (by rw [hL, pieces_len]; have := Lib.count_le s.data.toList [47]; have e : Lib.countB s ⟨#[47]⟩ = Lib.count s.data.toList [47] := rfl; simp at this; omega) (hc w') (fun x hx w'' => by
    have := pieces_sizes s x hx
    exact notPart_any x w'' (by omega))
  rw [← hX] at hCF
  have hLL : Lib.countB s ⟨#[47]⟩ + 1 = L := by rw [hL, pieces_len]
  have hLb : L ≤ 1000002 := by rw [hL, pieces_len]; have := Lib.count_le s.data.toList [47]; have e : Lib.countB s ⟨#[47]⟩ = Lib.count s.data.toList [47] := rfl; simp at this; omega
  have HSP := Lib.hid hsp
  have HCF := Lib.hid hCF
  have HPB := Lib.hid hpB
  have HLL := Lib.hid hLL
  have HM := Lib.hid hm
  clear hsp hCF hpB hLL hm hL hX hc
  by_cases h128 : s.size ≤ 128
  · by_cases h8 : L ≤ 8
    · have he : pathE s = if X then 2 else 0 := by rw [HPB.out]; cases X <;> simp [h128, h8]
      clear HPB
      cases X
      · rw [he]
        clear he
        rw [if_neg (by simp)]
        go_enter Tryz.func27, Tryz.ntmps27
        go_wp2_with fail
        refine (HSP.out _ HM.out).mono ?_
        rw [HLL.out]
        rintro e w1 ⟨rfl, rfl⟩
        go_wp2_with fail
        refine (HCF.out w).mono ?_
        rintro e w2 ⟨rfl, d2⟩
        go_wp2_with fail
        go_ret
        exact ⟨rfl, ((Ext.refl w).alloc _).trans d2⟩
      · rw [he]
        clear he
        rw [if_pos rfl]
        go_enter Tryz.func27, Tryz.ntmps27
        go_wp2_with fail
        refine (HSP.out _ HM.out).mono ?_
        rw [HLL.out]
        rintro e w1 ⟨rfl, rfl⟩
        go_wp2_with fail
        refine (HCF.out w).mono ?_
        rintro e w2 ⟨rfl, d2⟩
        go_wp2_with fail
        go_ret
        exact ⟨rfl, ((Ext.refl w).alloc _).trans d2⟩
    · have he : pathE s = 2 := by rw [HPB.out]; simp [h8]
      rw [he]
      clear he HPB
      go_enter Tryz.func27, Tryz.ntmps27
      go_wp2_with fail
      refine (HSP.out _ HM.out).mono ?_
      rw [HLL.out]
      rintro e w1 ⟨rfl, rfl⟩
      go_wp2_with fail
      go_ret
      exact ⟨rfl, (Ext.refl w).alloc _⟩
  · have he : pathE s = 2 := by rw [HPB.out]; simp [h128]
    rw [he]
    clear he HPB
    go_enter Tryz.func27, Tryz.ntmps27
    go_wp2_with fail
    refine (HSP.out _ HM.out).mono ?_
    rw [HLL.out]
    rintro e w1 ⟨rfl, rfl⟩
    go_wp2_with fail
    go_ret
    exact ⟨rfl, (Ext.refl w).alloc _⟩

end Go.Proofs.YtclhbcicbnoohaaGreatDoor

/- The reference's names of paths. -/
namespace Go.Proofs.YtclhbcicbnoohaaGreatDoor
open Go.RowKit

theorem take_snoc (s : ByteArray) (k : Nat) (h : k < s.size) : s.data.toList.take (k + 1) = s.data.toList.take k ++ [s[k]] := by
  rw [List.take_succ_eq_append_getElem (by simpa using h)]; rfl
/-- The letters of a name. -/
def okc (c : UInt8) : Bool := runeB (c.toNat : Int)
/-- A name, by its bytes. -/
def nameB (l : List UInt8) : Bool := decide (1 ≤ l.length) && decide (l.length ≤ 32) && l.head? != some 46 && l.head? != some 45 && l.all okc

theorem head_get (s : ByteArray) (h : 0 < s.size) : s.data.toList.head? = some s[0] := by
  have hl : 0 < s.data.toList.length := by simpa using h
  rw [List.head?_eq_getElem?, List.getElem?_eq_getElem hl]
  rfl
theorem name_of (s : ByteArray) (h : 0 < s.size) : nameB s.data.toList = (decide (s.size ≤ 32) && decide (¬ (s[0].toNat : Int) = 46) && decide (¬ (s[0].toNat : Int) = 45) && s.data.toList.all okc) := by
  have e1 : ∀ n : UInt8, (s.data.toList.head? != some n) = decide (¬ (s[0].toNat : Int) = (n.toNat : Int)) := by
    intro n
    rw [head_get s h, Bool.eq_iff_iff]
    have : s[0] = n ↔ s[0].toNat = n.toNat := UInt8.toNat_inj.symm
    simp [this]
    omega
  unfold nameB
  rw [e1 46, e1 45]
  have h1 : 1 ≤ s.size := h
  simp [h1]
theorem all_take_snoc (s : ByteArray) (k : Nat) (h : k < s.size) (p : UInt8 → Bool) : (s.data.toList.take (k + 1)).all p = ((s.data.toList.take k).all p && p s[k]) := by
  rw [take_snoc s k h, List.all_append]
  simp

/-- The ways of a letter through the tests. -/
theorem rune_ways (n : Int) : (runeB n = true ∧ ((97 ≤ n ∧ n ≤ 122) ∨ (48 ≤ n ∧ n ≤ 57) ∨ (n = 46 ∧ (n != 46) = false) ∨ (n = 95 ∧ (n != 46) = true ∧ (n != 95) = false) ∨ (n = 45 ∧ (n != 46) = true ∧ (n != 95) = true ∧ (n != 45) = false))) ∨
    (runeB n = false ∧ (n != 46) = true ∧ (n != 95) = true ∧ (n != 45) = true ∧ (122 < n ∨ (57 < n ∧ n < 97) ∨ n < 48)) := by
  unfold runeB
  simp
  omega
theorem all_miss {s : ByteArray} {k : Nat} {p : UInt8 → Bool} (h : k < s.size) (hp : p s[k] = false) : s.data.toList.all p = false := by
  rw [List.all_eq_false]
  exact ⟨s[k], by have : s[k] = s.data.toList[k]'(by simpa using h) := rfl
                  rw [this]; exact List.getElem_mem _, by simp [hp]⟩

/-- All letters up to k are those of a name. -/
def okTo (s : ByteArray) (k : Nat) : Prop := (s.data.toList.take k).all okc = true

set_option maxRecDepth 8000 in
set_option maxHeartbeats 1000000 in
theorem name_any (s : ByteArray) (w : World) (hs : s.size ≤ 9223372036854775807) : Calls Tryz.prog 63 #[.string s] w fun e w' => e = .returned (.bool (nameB s.data.toList)) ∧ w = w' := by
  by_cases h1 : 1 ≤ s.size
  · by_cases h2 : s.size ≤ 32
    · have hb : s[0].toNat ≤ 255 := by have := s[0].toNat_lt; omega
      have HN := Lib.hid (name_of s h1)
      go_enter Tryz.func63, Tryz.ntmps63
      go_wp2_with fail
      · have g : (s[0].toNat : Int) = 46 := by assumption
        go_ret
        exact ⟨ret_bool (by rw [HN.out]; simp [g]), rfl⟩
      · have g : (((s.size : Int) < 1 ∨ (32 : Int) < s.size) ∨ ((s[0].toNat : Int) == 46) = true) ∨ ((s[0].toNat : Int) == 45) = true := by assumption
        have g2 : (s[0].toNat : Int) = 46 ∨ (s[0].toNat : Int) = 45 := by simp at g; omega
        go_ret
        exact ⟨ret_bool (by rw [HN.out]; rcases g2 with g2 | g2 <;> simp [g2]), rfl⟩
      · have g : (((1 : Int) ≤ s.size ∧ (s.size : Int) ≤ 32) ∧ ((s[0].toNat : Int) == 46) = false) ∧ ((s[0].toNat : Int) == 45) = false := by assumption
        have g2 : ¬ (s[0].toNat : Int) = 46 ∧ ¬ (s[0].toNat : Int) = 45 := by simp at g; omega
        have G2 := Lib.hid g2
        clear g g2
        go_loop [3] (fun i => ∃ k : Nat, k ≤ s.size ∧ i = .int .i64 k ∧ okTo s k) (fun i => s.size - (intOf i).toNat)
        case atStart => exact ⟨0, Nat.zero_le _, rfl, rfl⟩
        case round =>
          obtain ⟨k, hk, rfl, HK⟩ := hrel
          by_cases hlt : k < s.size
          · have hx : s[k].toNat ≤ 255 := by have := s[k].toNat_lt; omega
            have HT := Lib.hid (all_take_snoc s k hlt okc)
            rcases rune_ways (s[k].toNat : Int) with ⟨ho, hw⟩ | ⟨ho, h46, h95, h45, hw⟩
            · have HS : okTo s (k + 1) := by unfold okTo at HK ⊢; rw [HT.out, HK]; exact ho
              clear ho HT
              rcases hw with ⟨g1, g2⟩ | ⟨g1, g2⟩ | ⟨g1, g2⟩ | ⟨g1, g2, g3⟩ | ⟨g1, g2, g3, g4⟩
              all_goals
                go_wp2_with fail
                go_round
                case rel => exact ⟨k + 1, by omega, by go_num, HS⟩
                case measure => simp [intOf]; omega
            · have HS : Hid (s.data.toList.all okc = false) := all_miss hlt ho
              clear ho HT
              rcases hw with g1 | ⟨g1, g2⟩ | g1
              all_goals
                go_wp2_with fail
                go_ret
                exact ⟨ret_bool (by rw [HN.out, HS.out]; simp), rfl⟩
          · have hks : k = s.size := by omega
            have HF : Hid (s.data.toList.all okc = true) := by unfold Hid; unfold okTo at HK; rwa [hks, List.take_of_length_le (by simp)] at HK
            go_wp2_with fail
            go_ret
            exact ⟨ret_bool (by rw [HN.out, HF.out]; simp [G2.out.1, G2.out.2, h2]), rfl⟩
    · have hn : nameB s.data.toList = false := by rw [name_of s h1]; simp [h2]
      rw [hn]
      clear hn
      go_enter Tryz.func63, Tryz.ntmps63
      go_wp2_with fail
      go_ret
      exact ⟨rfl, rfl⟩
  · have hn : nameB s.data.toList = false := by unfold nameB; have : decide (1 ≤ s.data.toList.length) = false := by simpa using h1
                                                rw [this]; rfl
    rw [hn]
    clear hn
    go_enter Tryz.func63, Tryz.ntmps63
    go_wp2_with fail
    go_ret
    exact ⟨rfl, rfl⟩
end Go.Proofs.YtclhbcicbnoohaaGreatDoor

/- Strings of the call's own; the reference's Split and Path; they are the program's. -/
namespace Go.Proofs.YtclhbcicbnoohaaGreatDoor
open Go.RowKit

theorem str_info : (Tryz.prog.info? 9).map (fun i => (i.zero, i.size, i.bytes)) = some (some (.string ⟨#[]⟩), 1, 16) := by kernel_rfl
def strs (l : List ByteArray) : List Value := l.map Value.string
theorem strs_one (l : List ByteArray) : ∀ u ∈ strs l, u.oneCell' = true := by intro u hu; obtain ⟨n, _, rfl⟩ := List.mem_map.1 hu; rfl
theorem strs_append (l m : List ByteArray) : strs (l ++ m) = strs l ++ strs m := List.map_append
theorem cells_new_strs (w : World) (l : List ByteArray) : ∀ j u, (strs l)[j]? = some u → (w.alloc (.cells (strs l).toArray 9)).cell? ((⟨w.heap.size, 0, none⟩ : Addr).add j) = some u := by
  intro j u hj
  rw [Addr.add_lit, Nat.zero_add, cell_new]
  simpa using hj
/-- A slice of the call's own holds these strings. -/
def OwnStrs (w : World) (base : Nat) (v : Value) (l : List ByteArray) : Prop := OwnAt w base 9 1 v l.length (strs l)
theorem own_strs_nil (w : World) (b : Nat) : OwnStrs w b (.slice none 0 0) [] := OwnAt.nil _ _ _ _
theorem own_strs_snoc {w : World} {base : Nat} {v : Value} {l : List ByteArray} {x : ByteArray} {n : Nat} (hn : n = l.length) (h : OwnAt w base 9 1 v (n + 1) (strs l ++ strs [x])) : OwnStrs w base v (l ++ [x]) := by
  subst hn
  unfold OwnStrs
  rw [strs_append, List.length_append]
  exact h
/-- n strings at A. -/
def StrsAt (w : World) (A : Option Addr) (n : Nat) (l : List ByteArray) : Prop :=
  n = l.length ∧ n ≤ 9223372036854775807 ∧ ∀ j (h : j < l.length), ∃ b off, A = some ⟨b, off, none⟩ ∧ ∀ w', Ext w w' → w'.cell? ⟨b, off + j, none⟩ = some (.string l[j])
theorem StrsAt.ext {w w' : World} {A : Option Addr} {n : Nat} {l : List ByteArray} (h : StrsAt w A n l) (he : Ext w w') : StrsAt w' A n l :=
  ⟨h.1, h.2.1, fun j hj => by obtain ⟨b, off, e, hc⟩ := h.2.2 j hj; exact ⟨b, off, e, fun w2 h2 => hc w2 (he.trans h2)⟩⟩
theorem StrsAt.of_own {w : World} {base : Nat} {v : Value} {l : List ByteArray} (h : OwnStrs w base v l) : ∃ A c, v = .slice A l.length c ∧ StrsAt w A l.length l := by
  by_cases hl : l = []
  · subst hl
    obtain ⟨_, ⟨rfl, _⟩ | ⟨g, off, cap, cur, rfl, _, _, hn, hc, _⟩⟩ := h
    · exact ⟨none, 0, rfl, rfl, by simp, fun j hj => by simp at hj⟩
    · exact ⟨_, cap, rfl, rfl, by simp, fun j hj => by simp at hj⟩
  · obtain ⟨g, off, cap, rfl, _, _, hn, hc, hcell⟩ := OwnAt.cells h (List.length_pos_iff.2 hl)
    exact ⟨_, cap, rfl, rfl, by omega, fun j hj => ⟨g, off, rfl, fun w' hw' => hw'.keepc (hcell j _ (by simp [strs, hj]))⟩⟩

/-- The parts of a string between bytes. -/
def mkB (l : List UInt8) : ByteArray := ⟨l.toArray⟩
theorem mkB_ext (s : ByteArray) (f k : Nat) : s.extract f k = mkB ((s.data.toList.drop f).take (k - f)) := by
  apply ByteArray.ext
  apply Array.toList_inj.1
  rw [Lib.extract_data]
  rfl
def partsB (c : UInt8) (s : ByteArray) : List ByteArray := (Seg.segs c s.data.toList).map mkB
/-- The loop's state: D is cut off, from place f on the byte has not stood. -/
def cutSt (c : UInt8) (s : ByteArray) (D : List ByteArray) (f k : Nat) : Prop :=
  f ≤ k ∧ k ≤ s.data.toList.length ∧ (∀ j (_ : j < s.data.toList.length), f ≤ j → j < k → s.data.toList[j] ≠ c) ∧ partsB c s = D ++ (Seg.segs c (s.data.toList.drop f)).map mkB ∧ D.length ≤ k
theorem cut_start (c : UInt8) (s : ByteArray) : cutSt c s [] 0 0 := ⟨Nat.le_refl _, Nat.zero_le _, fun _ _ _ h => absurd h (Nat.not_lt_zero _), rfl, Nat.zero_le _⟩
theorem cut_on {c : UInt8} {s : ByteArray} {D : List ByteArray} {f k : Nat} (h : cutSt c s D f k) (hk : k < s.data.toList.length) (hc : s.data.toList[k] ≠ c) : cutSt c s D f (k + 1) := by
  obtain ⟨h1, h2, h3, h4, h5⟩ := h
  refine ⟨by omega, by omega, fun j hj hfj hjk => ?_, h4, by omega⟩
  by_cases e : j = k
  · subst e; exact hc
  · exact h3 j hj hfj (by omega)
theorem cut_hit {c : UInt8} {s : ByteArray} {D : List ByteArray} {f k : Nat} (h : cutSt c s D f k) (hk : k < s.data.toList.length) (hc : s.data.toList[k] = c) : cutSt c s (D ++ [s.extract f k]) (k + 1) (k + 1) := by
  obtain ⟨h1, h2, h3, h4, h5⟩ := h
  refine ⟨Nat.le_refl _, by omega, fun _ _ h6 h7 => by omega, ?_, by simp; omega⟩
  rw [h4, Seg.segs_at c s.data.toList f k h1 hk h3 hc, mkB_ext]
  simp
theorem cut_end {c : UInt8} {s : ByteArray} {D : List ByteArray} {f : Nat} (h : cutSt c s D f s.size) : partsB c s = D ++ [s.extract f s.size] := by
  obtain ⟨h1, h2, h3, h4, h5⟩ := h
  have hl : s.data.toList.length = s.size := by simp
  rw [h4, Seg.segs_end c s.data.toList f (fun j hj hfj => h3 j hj hfj (by omega)), mkB_ext, List.take_of_length_le (by simp)]
  rfl
def RetStrs (w : World) (L : List ByteArray) (e : Ending) (w' : World) : Prop := ∃ v, e = .returned v ∧ OwnStrs w' w.heap.size v L ∧ Ext w w'

set_option maxRecDepth 8000 in
set_option maxHeartbeats 1000000 in
theorem refSplit_any (s : ByteArray) (c : UInt8) (w : World) (hs : s.size ≤ 9000000) : Calls Tryz.prog 62 #[.string s, .int .u8 (c.toNat : Int)] w (RetStrs w (partsB c s)) := by
  obtain ⟨i0, hi, hz0, hz1, hz2⟩ := info_parts str_info
  have hl : s.data.toList.length = s.size := by simp
  have HL := Lib.hid hl
  have hcb : c.toNat ≤ 255 := by have := c.toNat_lt; omega
  have H0 := cut_start c s
  clear hl
  go_enter Tryz.func62, Tryz.ntmps62
  go_wp2_with fail
  go_loopw [5, 6, 7] (fun v a i wr => ∃ (D : List ByteArray) (f k : Nat), f ≤ k ∧ k ≤ s.size ∧ a = .int .i64 f ∧ i = .int .i64 k ∧ cutSt c s D f k ∧ OwnStrs wr w.heap.size v D ∧ Ext w wr) (fun _ _ i _ => s.size - (intOf i).toNat)
  case atStart => exact ⟨[], 0, 0, Nat.le_refl _, Nat.zero_le _, rfl, rfl, H0, own_strs_nil _ _, Ext.refl _⟩
  case round =>
    obtain ⟨D, f, k, hfk, hk, rfl, rfl, HC, hown, hd⟩ := hrel
    have hdl : D.length ≤ k := HC.2.2.2.2
    unfold OwnStrs at hown
    by_cases hlt : k < s.size
    · have hb : s[k].toNat ≤ 255 := by have := s[k].toNat_lt; omega
      by_cases hc : s[k] = c
      · have e1 : ((s[k].toNat : Int) == (c.toNat : Int)) = true := by rw [hc]; simp
        have HH := cut_hit HC (by rw [HL.out]; exact hlt) hc
        obtain ⟨q, hq⟩ : ∃ q, q = D.length := ⟨_, rfl⟩
        rw [← hq] at hown hdl
        have HQ := Lib.hid hq
        have HBS : Hid (w.heap.size ≤ (wr.alloc (.cells #[.string (s.extract f k)] 9)).heap.size) := Nat.le_trans hd.size ((Ext.refl wr).alloc _).size
        clear hc hq
        go_wp2_with (at_builtin; refine wpList_append_ownAt _ rfl (.tmp 19) (.tmp 24) 43 rfl w.heap.size 9 i0 (.string ⟨#[]⟩) 1 16 Tryz.underlying43 hi hz0 hz1 hz2 rfl (by decide) _ _ _ rfl (hown.alloc _) ⟨wr.heap.size, 0, none⟩ 1 1 (strs [s.extract f k]) rfl rfl (cells_new_strs wr _) (strs_one _) (by unfold maxLen; omega) (by omega) HBS.out (by decide) ?_; intro v4 w4 hown4 hg4 _ _)
        go_roundw
        case rel => exact ⟨D ++ [s.extract f k], k + 1, k + 1, Nat.le_refl _, by omega, by go_num, by go_num, HH, own_strs_snoc HQ.out hown4, (hd.alloc _).grown hown hg4⟩
        case measure => simp [intOf]; omega
      · have e1 : ((s[k].toNat : Int) == (c.toNat : Int)) = false := by
          rw [beq_eq_false_iff_ne]
          intro e
          exact hc (UInt8.toNat_inj.1 (by omega))
        have HH := cut_on HC (by rw [HL.out]; exact hlt) hc
        clear hc
        go_wp2_with fail
        go_roundw
        case rel => exact ⟨D, f, k + 1, by omega, by omega, rfl, by go_num, HH, hown, hd⟩
        case measure => simp [intOf]; omega
    · obtain rfl : k = s.size := by omega
      have he := cut_end HC
      have HE := Lib.hid he
      obtain ⟨q, hq⟩ : ∃ q, q = D.length := ⟨_, rfl⟩
      rw [← hq] at hown hdl
      have HQ := Lib.hid hq
      have HBS : Hid (w.heap.size ≤ (wr.alloc (.cells #[.string (s.extract f s.size)] 9)).heap.size) := Nat.le_trans hd.size ((Ext.refl wr).alloc _).size
      clear he hq
      go_wp2_with (at_builtin; refine wpList_append_ownAt _ rfl (.tmp 28) (.tmp 32) 43 rfl w.heap.size 9 i0 (.string ⟨#[]⟩) 1 16 Tryz.underlying43 hi hz0 hz1 hz2 rfl (by decide) _ _ _ rfl (hown.alloc _) ⟨wr.heap.size, 0, none⟩ 1 1 (strs [s.extract f s.size]) rfl rfl (cells_new_strs wr _) (strs_one _) (by unfold maxLen; omega) (by omega) HBS.out (by decide) ?_; intro v4 w4 hown4 hg4 _ _)
      go_ret
      exact ⟨_, rfl, by rw [HE.out]; exact own_strs_snoc HQ.out hown4, (hd.alloc _).grown hown hg4⟩

/-- A path, by its bytes. -/
def pathL (l : List UInt8) : Bool := decide (l.length ≤ 128) && (Seg.segs 47 l).all nameB && decide ((Seg.segs 47 l).length ≤ 8)
theorem parts_path (s : ByteArray) : pathL s.data.toList = (decide (s.size ≤ 128) && decide ((partsB 47 s).length ≤ 8) && (partsB 47 s).all fun x => nameB x.data.toList) := by
  unfold pathL partsB
  rw [List.all_map, List.length_map]
  have e : ((fun x : ByteArray => nameB x.data.toList) ∘ mkB) = nameB := by funext x; rfl
  have hl : s.data.toList.length = s.size := by simp
  rw [e, hl]
  simp [Bool.and_assoc, Bool.and_comm, Bool.and_left_comm]
theorem parts_sizes (c : UInt8) (s : ByteArray) : ∀ x ∈ partsB c s, x.size ≤ s.size := by
  have key : ∀ l : List UInt8, ∀ x ∈ Seg.segs c l, x.length ≤ l.length := by
    intro l
    induction l with
    | nil => intro x hx; simp [Seg.segs] at hx; simp [hx]
    | cons a l ih =>
      intro x hx
      rw [Seg.segs_cons] at hx
      by_cases ha : a = c
      · rw [if_pos ha] at hx
        rcases List.mem_cons.1 hx with rfl | hx
        · simp
        · have := ih x hx; simp; omega
      · rw [if_neg ha] at hx
        cases hseg : Seg.segs c l with
        | nil => rw [hseg] at hx; simp at hx; simp [hx]
        | cons y r =>
          rw [hseg] at hx ih
          simp only at hx
          rcases List.mem_cons.1 hx with rfl | hx
          · have := ih y List.mem_cons_self; simp; omega
          · have := ih x (List.mem_cons_of_mem _ hx); simp; omega
  intro x hx
  obtain ⟨y, hy, rfl⟩ := List.mem_map.1 hx
  have := key _ y hy
  have hl : s.data.toList.length = s.size := by simp
  rw [hl] at this
  show (mkB y).size ≤ s.size
  have e : (mkB y).size = y.length := by simp [mkB, ByteArray.size]
  omega
theorem name_is (s : ByteArray) (b : Bool) (w : World) (hs : s.size ≤ 9223372036854775807) (h : nameB s.data.toList = b) : Calls Tryz.prog 63 #[.string s] w fun e w' => e = .returned (.bool b) ∧ w = w' := h ▸ name_any s w hs
def pathErr (b : Bool) : Int := if b then 0 else 2
def allTo (l : List ByteArray) (k : Nat) : Prop := (l.take k).all (fun x => nameB x.data.toList) = true

set_option maxRecDepth 8000 in
set_option maxHeartbeats 1000000 in
theorem refPath_any (s : ByteArray) (w : World) (hs : s.size ≤ 9000000) : Calls Tryz.prog 28 #[.string s] w (Al (.int .i64 (pathErr (pathL s.data.toList))) w) := by
  have hp := parts_path s
  by_cases h1 : s.size ≤ 128
  · rw [decide_eq_true h1, Bool.true_and] at hp
    have HS := Lib.hid (fun w' => refSplit_any s 47 w' hs)
    have hsz := parts_sizes 47 s
    generalize partsB 47 s = L at hp HS hsz
    have HSZ := Lib.hid hsz
    obtain ⟨n, hn⟩ : ∃ n, n = L.length := ⟨_, rfl⟩
    have HN := Lib.hid hn
    rw [← hn] at hp
    clear hsz hn
    by_cases h8 : n ≤ 8
    · rw [decide_eq_true h8, Bool.true_and] at hp
      generalize pathL s.data.toList = R at hp ⊢
      have HP := Lib.hid hp
      clear hp
      go_enter Tryz.func28, Tryz.ntmps28
      go_wp2_with fail
      refine (HS.out _).mono ?_
      rintro e w1 ⟨v1, rfl, o1, d1⟩
      obtain ⟨A1, c1, rfl, i1⟩ := StrsAt.of_own o1
      rw [← HN.out] at i1 ⊢
      have I1 := Lib.hid i1.2.2
      clear o1 i1
      go_wp2_with fail
      go_loopw [16] (fun i wr => ∃ k : Nat, k ≤ n ∧ i = .int .i64 k ∧ allTo L k ∧ Ext w1 wr) (fun i _ => n - (intOf i).toNat)
      case atStart => exact ⟨0, Nat.zero_le _, rfl, rfl, Ext.refl _⟩
      case round =>
        obtain ⟨k, hk, rfl, HA, hd⟩ := hrel
        by_cases hlt : k < n
        · have hkl : k < L.length := by rw [← HN.out]; exact hlt
          obtain ⟨b, off, rfl, hc⟩ := I1.out k hkl
          have c0 := hc wr hd
          have hx := HSZ.out L[k] (List.getElem_mem hkl)
          have ht : (L.take (k + 1)).all (fun x => nameB x.data.toList) = ((L.take k).all (fun x => nameB x.data.toList) && nameB L[k].data.toList) := by
            rw [List.take_succ_eq_append_getElem hkl, List.all_append]; simp
          have hm : nameB L[k].data.toList = false → L.all (fun x => nameB x.data.toList) = false := fun h => by
            rw [List.all_eq_false]
            exact ⟨L[k], List.getElem_mem hkl, by simp [h]⟩
          generalize L[k] = x at c0 hx ht hm
          obtain ⟨bb, hbb⟩ : ∃ bb, nameB x.data.toList = bb := ⟨_, rfl⟩
          have NM := Lib.hid (fun w' => name_is x bb w' (by omega) hbb)
          rw [hbb] at ht hm
          clear hbb hc
          cases bb
          · have HF : Hid (R = false) := by unfold Hid; rw [HP.out]; exact hm rfl
            clear ht hm
            go_wp2_with fail
            refine (NM.out _).mono ?_
            rintro e w' ⟨rfl, rfl⟩
            go_wp2_with fail
            go_ret
            exact ⟨ret_int (by rw [HF.out]; rfl), d1.trans hd⟩
          · have HT : allTo L (k + 1) := by unfold allTo at HA ⊢; rw [ht, HA]; rfl
            clear ht hm
            go_wp2_with fail
            refine (NM.out _).mono ?_
            rintro e w' ⟨rfl, rfl⟩
            go_wp2_with fail
            go_roundw
            case rel => exact ⟨k + 1, by omega, by go_num, HT, hd⟩
            case measure => simp [intOf]; omega
        · have HT : Hid (R = true) := by
            have h := HA
            unfold allTo at h
            show R = true
            rw [HP.out]
            rwa [List.take_of_length_le (by have := HN.out; omega)] at h
          go_wp2_with fail
          go_ret
          exact ⟨ret_int (by rw [HT.out]; rfl), d1.trans hd⟩
    · rw [decide_eq_false h8, Bool.false_and] at hp
      rw [hp]
      clear hp
      go_enter Tryz.func28, Tryz.ntmps28
      go_wp2_with fail
      refine (HS.out _).mono ?_
      rintro e w1 ⟨v1, rfl, o1, d1⟩
      obtain ⟨A1, c1, rfl, i1⟩ := StrsAt.of_own o1
      rw [← HN.out] at i1 ⊢
      have i12 := i1.2.1
      clear o1 i1
      go_wp2_with fail
      go_ret
      exact ⟨rfl, d1⟩
  · rw [decide_eq_false h1, Bool.false_and, Bool.false_and] at hp
    rw [hp]
    clear hp
    go_enter Tryz.func28, Tryz.ntmps28
    go_wp2_with fail
    go_ret
    exact ⟨rfl, Ext.refl _⟩

/-! ### The program's -/
theorem rune_high (n : Nat) (h : 128 ≤ n) : runeB (n : Int) = false := by unfold runeB; simp; omega
theorem allRunes_all (s : ByteArray) : allRunes s = s.data.toList.all okc := by
  unfold allRunes
  rw [Seg.idxFunc_all (fun r => !runeB (r : Int)) (fun n h => by simp [rune_high n h]) s, List.any_eq_not_all_not, Bool.not_not]
  congr 1
  funext c
  simp [okc]
theorem part_name (s : ByteArray) : partB s = nameB s.data.toList := by
  unfold partB
  by_cases h : 0 < s.size
  · rw [dif_pos h, name_of s h, allRunes_all]
    have h46 : s[0] = 46 ↔ (s[0].toNat : Int) = 46 := by
      rw [← UInt8.toNat_inj]; show s[0].toNat = 46 ↔ _; omega
    have h45 : s[0] = 45 ↔ (s[0].toNat : Int) = 45 := by
      rw [← UInt8.toNat_inj]; show s[0].toNat = 45 ↔ _; omega
    by_cases h1 : 32 < s.size
    · rw [if_pos h1]; simp [Nat.not_le.2 h1]
    · rw [if_neg h1]
      by_cases h2 : s[0] = 46
      · rw [if_pos h2]; simp [h46.1 h2]
      · rw [if_neg h2]
        by_cases h3 : s[0] = 45
        · rw [if_pos h3]; simp [h45.1 h3]
        · rw [if_neg h3]
          have g2 := mt h46.2 h2
          have g3 := mt h45.2 h3
          simp [g2, g3, Nat.not_lt.1 h1]
  · rw [dif_neg h]
    have : decide (1 ≤ s.data.toList.length) = false := by
      have hl : s.data.toList.length = s.size := by simp
      rw [hl]
      exact decide_eq_false (by omega)
    unfold nameB
    rw [this]
    rfl
theorem path_same (s : ByteArray) : pathB s = pathL s.data.toList := by
  have e := Seg.splitB_segs 47 s
  unfold pathB pathL
  have e1 : (pieces s).map (·.data.toList) = Seg.segs 47 s.data.toList := e
  have e2 : (pieces s).length = (Seg.segs 47 s.data.toList).length := by rw [← e1, List.length_map]
  have e3 : (!((pieces s).any fun x => !partB x)) = (Seg.segs 47 s.data.toList).all nameB := by
    rw [← e1, List.all_map, List.any_eq_not_all_not, Bool.not_not]
    congr 1
    funext x
    simp [part_name]
  rw [e2, e3]
  simp [Bool.and_assoc, Bool.and_comm, Bool.and_left_comm]
theorem path_is (s : ByteArray) (m : Int) (w : World) (hs : s.size ≤ 1000000) (hm : w.cell? ⟨0, 0, none⟩ = some (.int .i64 m)) : Calls Tryz.prog 27 #[.string s] w (Al (.int .i64 (pathErr (pathL s.data.toList))) w) := by
  have h := Path_any s m w hs hm
  have e : pathE s = pathErr (pathL s.data.toList) := by unfold pathE pathErr; rw [path_same]
  rwa [e] at h

end Go.Proofs.YtclhbcicbnoohaaGreatDoor

/- Paths below paths: below. -/
namespace Go.Proofs.YtclhbcicbnoohaaGreatDoor
open Go.RowKit
theorem below_any (p d : ByteArray) (w : World) (hd : d.size ≤ 1000000000) : Calls Tryz.prog 47 #[.string p, .string d] w fun e w' => e = .returned (.bool (T.below p.data.toList d.data.toList)) ∧ w = w' := by
  obtain ⟨R, hR⟩ : ∃ R, R = T.below p.data.toList d.data.toList := ⟨_, rfl⟩
  rw [← hR]
  have HC : Hid (∀ W, Calls Tryz.prog 73 #[.string p, .string (d ++ ⟨#[47]⟩)] W fun e w' => e = .returned (.bool R) ∧ w' = W) := fun W => by
    have := Tryz.strings_HasPrefix p (d ++ ⟨#[47]⟩) W
    have e : Lib.hasPrefix p.data.toList (d ++ ⟨#[47]⟩ : ByteArray).data.toList = R := by
      rw [hR, ByteArray.data_append, Array.toList_append]
      rfl
    rwa [e] at this
  clear hR
  go_enter Tryz.func47, Tryz.ntmps47
  go_wp2_with fail
  refine (HC.out _).mono ?_
  rintro e w1 ⟨rfl, rfl⟩
  go_wp2_with fail
  go_ret
  exact ⟨rfl, rfl⟩
theorem below_cases (p d : ByteArray) : T.below p.data.toList d.data.toList = (if h : d.size < p.size then ((p.extract 0 d.size).toList == d.toList) && (((p[d.size].toNat : Nat) : Int) == 47) else false) := by
  have hpl : p.data.toList.length = p.size := Array.length_toList
  have hdl : d.data.toList.length = d.size := Array.length_toList
  have hx : (p.extract 0 d.size).data.toList = p.data.toList.take d.size := by
    simp [ByteArray.data_extract]
  rw [Bool.eq_iff_iff, T.below_iff]
  by_cases h : d.size < p.size
  · rw [dif_pos h, Bool.and_eq_true, beq_iff_eq, beq_iff_eq, ByteArray.toList_eq, ByteArray.toList_eq, hx]
    have hg : p[d.size] = p.data.toList[d.size]'(by rw [hpl]; exact h) := rfl
    rw [hg]
    constructor
    · rintro ⟨r, hr⟩
      refine ⟨by rw [hr, ← hdl, List.take_left], ?_⟩
      have : p.data.toList[d.size]'(by rw [hpl]; exact h) = 47 := by
        have h3 : p.data.toList[d.size]? = some 47 := by rw [hr, ← hdl, List.getElem?_append_right (Nat.le_refl _), Nat.sub_self]; rfl
        rw [List.getElem?_eq_getElem (by rw [hpl]; exact h)] at h3
        exact Option.some.inj h3
      rw [this]
      rfl
    · rintro ⟨h1, h2⟩
      refine ⟨p.data.toList.drop (d.size + 1), ?_⟩
      have h3 : p.data.toList[d.size]'(by rw [hpl]; exact h) = 47 := UInt8.toNat_inj.1 (by have : (47 : UInt8).toNat = 47 := rfl; omega)
      conv => lhs; rw [← List.take_append_drop d.size p.data.toList, h1, List.drop_eq_getElem_cons (by rw [hpl]; exact h), h3]
  · rw [dif_neg h]
    constructor
    · rintro ⟨r, hr⟩
      have := congrArg List.length hr
      rw [List.length_append, List.length_cons, hpl, hdl] at this
      omega
    · intro h; cases h
theorem refBelow_any (p d : ByteArray) (w : World) : Calls Tryz.prog 53 #[.string p, .string d] w fun e w' => e = .returned (.bool (T.below p.data.toList d.data.toList)) ∧ w = w' := by
  have hR := below_cases p d
  generalize T.below p.data.toList d.data.toList = R at hR
  by_cases h1 : d.size < p.size
  · rw [dif_pos h1] at hR
    cases hq : ((p.extract 0 d.size).toList == d.toList)
    · rw [hq, Bool.false_and] at hR
      have HR := Lib.hid hR
      clear hR
      go_enter Tryz.func53, Tryz.ntmps53
      go_wp2_with fail
      go_ret
      exact ⟨by rw [HR.out]; rfl, rfl⟩
    · rw [hq, Bool.true_and] at hR
      have HR := Lib.hid hR
      clear hR
      go_enter Tryz.func53, Tryz.ntmps53
      go_wp2_with fail
      go_ret
      exact ⟨by rw [HR.out]; rfl, rfl⟩
  · rw [dif_neg h1] at hR
    have hd : decide (d.size < p.size) = false := decide_eq_false h1
    have HR := Lib.hid hR
    clear hR
    go_enter Tryz.func53, Tryz.ntmps53
    go_wp2_with fail
    go_ret
    exact ⟨by rw [HR.out]; rfl, rfl⟩
end Go.Proofs.YtclhbcicbnoohaaGreatDoor

/- Files as they lie in memory. -/
namespace Go.Proofs.YtclhbcicbnoohaaGreatDoor
open Go.RowKit

/-- A file: path, data. -/
def fileR : Rep T.File := prodR strR strR
theorem fileR_size : fileR.size = 2 := rfl
theorem fileR_is {w : World} {B : Nat → Prop} {f : T.File} {us : List Value} (h : fileR.is w B f us) : us = [.string f.1, .string f.2] ∧ f.1.size ≤ 9223372036854775807 ∧ f.2.size ≤ 9223372036854775807 := by
  obtain ⟨x, y, rfl, ⟨rfl, h1⟩, ⟨rfl, h2⟩⟩ := h
  exact ⟨rfl, h1, h2⟩
/-- File k's cells. -/
theorem file_get {w : World} {B : Nat → Prop} {A : Option Addr} {c : Nat} {t : T.Tr} (h : SliceAt fileR w B A c t) {k : Nat} (hk : k < t.length) :
    ∃ b off, A = some ⟨b, off, none⟩ ∧ B b ∧ w.cell? ⟨b, off + k * 2, none⟩ = some (.string t[k].1) ∧ w.cell? ⟨b, off + (k * 2 + 1), none⟩ = some (.string t[k].2) ∧ t[k].1.size ≤ 9223372036854775807 ∧ t[k].2.size ≤ 9223372036854775807 := by
  obtain ⟨_, _, h3⟩ := h
  obtain ⟨b, off, hA, hb, hr⟩ := h3 (by intro e; rw [e] at hk; exact absurd hk (Nat.not_lt_zero _))
  obtain ⟨us, hu, hc⟩ := hr k hk
  obtain ⟨rfl, h1, h2⟩ := fileR_is hu
  exact ⟨b, off, hA, hb, hc 0 _ rfl, hc 1 _ rfl, h1, h2⟩
end Go.Proofs.YtclhbcicbnoohaaGreatDoor

/- The reference's Find. -/
namespace Go.Proofs.YtclhbcicbnoohaaGreatDoor
open Go.RowKit

/-- What Find gives. -/
def findV (t : T.Tr) (p : ByteArray) : Value := match T.findT t p.data.toList with
  | some f => .tuple #[.string f.2, .bool true]
  | none => .tuple #[.string ⟨#[]⟩, .bool false]
set_option maxRecDepth 100000 in
theorem rFind_any (t : T.Tr) (A : Option Addr) (c n : Nat) (p : ByteArray) (w : World) (hn : n = t.length) (hA : SliceAt fileR w (Old w) A c t) : Calls Tryz.prog 14 #[.slice A n c, .string p] w (Al (findV t p) w) := by
  obtain ⟨R, hR⟩ : ∃ R, R = findV t p := ⟨_, rfl⟩
  rw [← hR]
  have HR := Lib.hid hR
  have HN := Lib.hid hn
  have HA := Lib.hid hA
  clear hR hn
  have hn63 : n ≤ 9223372036854775807 := by have := hA.1; have := hA.2.1; have := HN.out; omega
  clear hA
  go_enter Tryz.func14, Tryz.ntmps14
  go_wp2_with fail
  go_loopw [10] (fun i wr => ∃ k : Nat, k ≤ n ∧ i = .int .i64 k ∧ Hid (T.noTo t p.data.toList k ∧ Ext w wr)) (fun i _ => n - (intOf i).toNat)
  case atStart => exact ⟨0, Nat.zero_le _, rfl, T.noTo_zero _ _, Ext.refl _⟩
  case round =>
    obtain ⟨k, hk, rfl, HK⟩ := hrel
    by_cases hlt : k < n
    · have hkl : k < t.length := by rw [← HN.out]; exact hlt
      obtain ⟨b, off, hAe, hb, c0, c1, h1, h2⟩ := file_get (HA.out.ext HK.out.2) hkl
      subst hAe
      rw [← Nat.add_assoc] at c1
      cases hq : (t[k].1.toList == p.toList)
      · have HX : Hid (T.noTo t p.data.toList (k + 1) ∧ Ext w wr) := ⟨T.noTo_succ HK.out.1 hkl (fun e => by
          have : t[k].1.toList = p.toList := by rw [ByteArray.toList_eq, ByteArray.toList_eq]; exact e
          rw [this] at hq
          simp at hq), HK.out.2⟩
        clear HK
        generalize t[k] = f at *
        obtain ⟨fp, fd⟩ := f
        simp only at c0 c1 h1 h2 hq
        go_wp2_with fail
        exact ⟨⟨k + 1, by omega, by go_num, HX.out.1, HX.out.2.alloc _⟩, by simp [intOf]; omega⟩
      · have HF : Hid (R = .tuple #[.string t[k].2, .bool true]) := by
          unfold Hid
          rw [HR.out, findV, T.findT_at HK.out.1 hkl (by
            have : t[k].1.toList = p.toList := by simpa using hq
            rw [ByteArray.toList_eq, ByteArray.toList_eq] at this
            exact this)]
        have HX := Lib.hid HK.out.2
        clear HK
        generalize t[k] = f at *
        obtain ⟨fp, fd⟩ := f
        simp only at c0 c1 h1 h2 hq HF
        go_wp2_with fail
        go_ret2
        exact ⟨by rw [HF.out]; rfl, HX.out.alloc _⟩
    · have hdk : decide (k < n) = false := decide_eq_false hlt
      have HF : Hid (R = .tuple #[.string ⟨#[]⟩, .bool false]) := by
        unfold Hid
        have h1 : T.noTo t p.data.toList t.length := by
          have := HK.out.1
          rwa [show k = t.length by have := HN.out; omega] at this
        rw [HR.out, findV, T.findT_none h1]
      have HX := Lib.hid HK.out.2
      clear HK hk
      go_wp2_with fail
      go_ret2
      exact ⟨by rw [HF.out]; rfl, HX.out⟩
end Go.Proofs.YtclhbcicbnoohaaGreatDoor

/- tree.index and Find. -/
namespace Go.Proofs.YtclhbcicbnoohaaGreatDoor
open Go.RowKit Go.Maps Go.ChangeMaps

def fileV (f : T.File) : Value := .agg #[.string f.1, .string f.2]
theorem eg72 : ∀ (args : Array Value) (w : World), (callFunc 72 args).run Tryz.prog w = .ok (.enter 72 args) w := enters_of Tryz.func72 (by kernel_rfl) rfl
theorem ispath_any (s d x : ByteArray) (bp : Nat) (w : World) (c1 : w.cell? ⟨bp, 0, none⟩ = some (.string x)) :
    Calls Tryz.prog 72 #[.agg #[.string s, .string d], .pointer (some ⟨bp, 0, none⟩)] w (Al (.bool (s.toList == x.toList)) w) := by
  have d1 := alloc_keepc (.cells #[.string s, .string d] 25) c1
  clear c1
  generalize hb : (s.toList == x.toList) = b
  go_enter Tryz.func72, Tryz.ntmps72
  go_wp2_with fail
  go_ret
  exact ⟨rfl, (Ext.refl w).alloc _⟩
def idxI (o : Option Nat) : Int := match o with | some i => i | none => -1
set_option maxRecDepth 8000 in
set_option maxHeartbeats 2000000 in
theorem IndexFunc_any (t : T.Tr) (A : Option Addr) (c n bp : Nat) (x : ByteArray) (w : World) (hn : n = t.length) (hA : SliceAt fileR w (Old w) A c t) (c1 : w.cell? ⟨bp, 0, none⟩ = some (.string x)) :
    Calls Tryz.prog 71 #[.slice A n c, .func (.func 72) #[] #[.pointer (some ⟨bp, 0, none⟩)]] w (Al (.int .i64 (idxI (T.idxT t x.data.toList))) w) := by
  have hn2 : n ≤ 9223372036854775807 := by have := hA.1; have := hA.2.1; omega
  have HN := Lib.hid hn
  have HA := Lib.hid hA
  obtain ⟨R, hR⟩ : ∃ R, R = idxI (T.idxT t x.data.toList) := ⟨_, rfl⟩
  rw [← hR]
  have HR := Lib.hid hR
  have HC1 := Lib.hid c1
  clear hn hA c1 hR
  have eg := eg72
  go_enter Tryz.func71, Tryz.ntmps71
  go_wp2_with fail
  go_loopw [5, 8] (fun _ i wr => ∃ k : Nat, k ≤ n ∧ i = .int .i64 k ∧ Hid (T.noTo t x.data.toList k ∧ Ext w wr)) (fun _ i _ => n - (intOf i).toNat)
  case atStart => exact ⟨0, Nat.zero_le _, rfl, T.noTo_zero _ _, Ext.refl w⟩
  case round =>
    obtain ⟨k, hk, rfl, HK⟩ := hrel
    by_cases hlt : k < n
    · have hkl : k < t.length := by rw [← HN.out]; exact hlt
      obtain ⟨b, off, hAe, hb, c0, c1, h1, h2⟩ := file_get (HA.out.ext HK.out.2) hkl
      subst hAe
      rw [← Nat.add_assoc] at c1
      have HY : Hid ((t[k].1.toList == x.toList) = true → R = (k : Int)) := fun he => by
        have := eq_of_beq he
        rw [ByteArray.toList_eq, ByteArray.toList_eq] at this
        rw [HR.out, T.idxT_at HK.out.1 hkl this]
        rfl
      have HNO : Hid ((t[k].1.toList == x.toList) = false → T.noTo t x.data.toList (k + 1)) := fun he => T.noTo_succ HK.out.1 hkl (fun e => by
        have e' : t[k].1.data.toList = x.data.toList := e
        rw [ByteArray.toList_eq, ByteArray.toList_eq, e'] at he
        simp at he)
      have HX := Lib.hid HK.out.2
      have HCALL := Lib.hid (ispath_any t[k].1 t[k].2 x bp wr (HK.out.2.keepc HC1.out))
      clear HK
      generalize t[k] = f at *
      obtain ⟨fp, fd⟩ := f
      simp only at c0 c1 h1 h2
      cases he : (fp.toList == x.toList)
      · have HQ := Lib.hid (HNO.out he)
        have HC : Hid (Calls Tryz.prog 72 #[.agg #[.string fp, .string fd], .pointer (some ⟨bp, 0, none⟩)] wr (Al (.bool false) wr)) := by rw [← he]; exact HCALL.out
        clear HCALL HY HNO he
        go_wp2_with (go_at_fn 72; refine HC.out.mono ?_; rintro e w1 ⟨rfl, d1⟩)
        go_roundw
        case rel => exact ⟨k + 1, by omega, by go_num, HQ.out, HX.out.trans d1⟩
        case measure => simp [intOf]; omega
      · have HQ := Lib.hid (HY.out he)
        have HC : Hid (Calls Tryz.prog 72 #[.agg #[.string fp, .string fd], .pointer (some ⟨bp, 0, none⟩)] wr (Al (.bool true) wr)) := by rw [← he]; exact HCALL.out
        clear HCALL HY HNO he
        go_wp2_with (go_at_fn 72; refine HC.out.mono ?_; rintro e w1 ⟨rfl, d1⟩)
        go_ret
        exact ⟨by rw [HQ.out]; rfl, HX.out.trans d1⟩
    · have HQ : Hid (R = -1) := by
        unfold Hid
        have h1 : T.noTo t x.data.toList t.length := by
          have := HK.out.1
          rwa [show k = t.length by have := HN.out; omega] at this
        rw [HR.out, T.idxT_none h1]
        rfl
      have HX := Lib.hid HK.out.2
      have hdk : decide (k < n) = false := decide_eq_false hlt
      clear HK hk
      go_wp2_with fail
      go_ret
      exact ⟨by rw [HQ.out]; rfl, HX.out⟩
end Go.Proofs.YtclhbcicbnoohaaGreatDoor

/- tree.index, tree.Find. -/
namespace Go.Proofs.YtclhbcicbnoohaaGreatDoor
open Go.RowKit

set_option maxRecDepth 8000 in
theorem index_any (t : T.Tr) (A : Option Addr) (c n : Nat) (x : ByteArray) (w : World) (hn : n = t.length) (hA : SliceAt fileR w (Old w) A c t) :
    Calls Tryz.prog 44 #[.slice A n c, .string x] w (Al (.int .i64 (idxI (T.idxT t x.data.toList))) w) := by
  have HI : Hid (∀ (w' : World) (bp : Nat), Ext w w' → w'.cell? ⟨bp, 0, none⟩ = some (.string x) → Calls Tryz.prog 71 #[.slice A n c, .func (.func 72) #[] #[.pointer (some ⟨bp, 0, none⟩)]] w' (Al (.int .i64 (idxI (T.idxT t x.data.toList))) w')) := fun w' bp h hc => IndexFunc_any t A c n bp x w' hn (hA.ext h) hc
  clear hn hA
  generalize idxI (T.idxT t x.data.toList) = R at HI ⊢
  go_enter Tryz.func44, Tryz.ntmps44
  go_wp2_with fail
  refine (HI.out _ _ ((Ext.refl w).alloc _) (cell_new w #[.string x] 9 0)).mono ?_
  rintro e w1 ⟨rfl, d1⟩
  have X1 : Hid (Ext w w1) := ((Ext.refl w).alloc _).trans d1
  clear d1
  go_wp2_with fail
  go_ret
  exact ⟨rfl, X1.out⟩
set_option maxRecDepth 8000 in
theorem Find_any (t : T.Tr) (A : Option Addr) (c n : Nat) (p : ByteArray) (w : World) (hn : n = t.length) (hA : SliceAt fileR w (Old w) A c t) : Calls Tryz.prog 13 #[.slice A n c, .string p] w (Al (findV t p) w) := by
  have HI := Lib.hid (index_any t A c n p w hn hA)
  obtain ⟨R, hR⟩ : ∃ R, R = findV t p := ⟨_, rfl⟩
  rw [← hR]
  have HR := Lib.hid hR
  have HN := Lib.hid hn
  have HA := Lib.hid hA
  clear hR hn hA
  cases hi : T.idxT t p.data.toList with
  | none =>
    rw [hi] at HI
    have HF : Hid (R = .tuple #[.string ⟨#[]⟩, .bool false]) := by unfold Hid; rw [HR.out, findV, (T.idxT_no hi).2]
    have hz : idxI none = -1 := rfl
    rw [hz] at HI
    clear hi hz
    go_enter Tryz.func13, Tryz.ntmps13
    go_wp2_with fail
    refine HI.out.mono ?_
    rintro e w1 ⟨rfl, d1⟩
    have X1 := Lib.hid d1
    clear d1
    go_wp2_with fail
    go_ret2
    exact ⟨by rw [HF.out]; rfl, X1.out⟩
  | some i =>
    rw [hi] at HI
    obtain ⟨hk, h1, h2, h3⟩ := T.idxT_some hi
    have HF : Hid (R = .tuple #[.string t[i].2, .bool true]) := by unfold Hid; rw [HR.out, findV, h3]
    have hz : idxI (some i) = (i : Int) := rfl
    rw [hz] at HI
    have HC : Hid (∀ W, Ext w W → ∃ b off, A = some ⟨b, off, none⟩ ∧ W.cell? ⟨b, off + i * 2 + 1, none⟩ = some (.string t[i].2)) := fun W hW => by
      obtain ⟨b, off, hAe, hb, c0, c1, _, _⟩ := file_get (HA.out.ext hW) hk
      rw [← Nat.add_assoc] at c1
      exact ⟨b, off, hAe, c1⟩
    have hin : i < n := by rw [HN.out]; exact hk
    have hn63 : n ≤ 9223372036854775807 := by have := HA.out.1; have := HA.out.2.1; have := HN.out; omega
    obtain ⟨b, off, hAe, hb, _, _, _, _⟩ := file_get HA.out hk
    subst hAe
    clear hi hz h1 h2 h3
    generalize t[i].2 = fd at HF HC
    go_enter Tryz.func13, Tryz.ntmps13
    go_wp2_with fail
    refine HI.out.mono ?_
    rintro e w1 ⟨rfl, d1⟩
    have X1 := Lib.hid d1
    obtain ⟨b', off', hAe', c1⟩ := HC.out w1 d1
    simp only [Option.some.injEq, Addr.mk.injEq] at hAe'
    obtain ⟨rfl, rfl, _⟩ := hAe'
    clear d1
    go_wp2_with fail
    go_ret2
    exact ⟨by rw [HF.out]; rfl, X1.out⟩
end Go.Proofs.YtclhbcicbnoohaaGreatDoor

/- The reference's Check. -/
namespace Go.Proofs.YtclhbcicbnoohaaGreatDoor
open Go.RowKit

/-- Whether a string is a path. -/
def okB (s : ByteArray) : Bool := pathL s.data.toList
theorem pathErr_ok {s : ByteArray} (h : okB s = true) : pathErr (pathL s.data.toList) = 0 := by unfold okB at h; rw [h]; rfl
theorem pathErr_no {s : ByteArray} (h : okB s = false) : pathErr (pathL s.data.toList) = 2 := by unfold okB at h; rw [h]; rfl
theorem fileE_path {t : T.Tr} {k : Nat} {f : T.File} (h : okB f.1 = false) : T.fileE okB t k f = 2 := by unfold T.fileE; rw [h]; rfl
theorem fileE_size {t : T.Tr} {k : Nat} {f : T.File} (h : okB f.1 = true) (h2 : 65536 < f.2.size) : T.fileE okB t k f = 10 := by unfold T.fileE; rw [h, if_pos rfl, if_pos h2]
theorem fileE_ord {t : T.Tr} {k : Nat} {f : T.File} (h : okB f.1 = true) (h2 : ¬ 65536 < f.2.size) (h3 : T.ordE t k f = true) : T.fileE okB t k f = 5 := by unfold T.fileE; rw [h, if_pos rfl, if_neg h2, if_pos h3]
theorem fileE_two {t : T.Tr} {k : Nat} {f : T.File} (h : okB f.1 = true) (h2 : ¬ 65536 < f.2.size) (h3 : T.ordE t k f = false) (h4 : (t.take k).any (fun g => T.below (T.pth f) (T.pth g)) = true) : T.fileE okB t k f = 6 := by
  unfold T.fileE
  rw [h, if_pos rfl, if_neg h2, h3, h4]
  rfl
theorem fileE_ok {t : T.Tr} {k : Nat} {f : T.File} (h : okB f.1 = true) (h2 : ¬ 65536 < f.2.size) (h3 : T.ordE t k f = false) (h4 : (t.take k).any (fun g => T.below (T.pth f) (T.pth g)) = false) : T.fileE okB t k f = 0 := by
  unfold T.fileE
  rw [h, if_pos rfl, if_neg h2, h3, h4]
  rfl
theorem bytesLess_dec : ∀ (x y : List UInt8), Op.bytesLess x y = decide (x < y)
  | [], [] => by simp [Op.bytesLess]
  | _ :: _, [] => by simp [Op.bytesLess]
  | [], _ :: _ => by simp [Op.bytesLess]
  | a :: x, b :: y => by
    rw [Op.bytesLess, bytesLess_dec x y]
    simp only [List.cons_lt_cons_iff]
    by_cases h1 : a < b <;> by_cases h2 : a = b <;> by_cases h3 : x < y <;> simp [h1, h2, h3]
theorem less_dec (x y : ByteArray) : Op.bytesLess x.toList y.toList = decide (x.data.toList < y.data.toList) := by
  rw [bytesLess_dec, ByteArray.toList_eq, ByteArray.toList_eq]
theorem less_le (x y : ByteArray) : (!Op.bytesLess x.toList y.toList) = decide (y.data.toList ≤ x.data.toList) := by
  rw [less_dec]
  generalize x.data.toList = a
  generalize y.data.toList = b
  by_cases h : b ≤ a
  · rw [decide_eq_false (T.not_le_of_lt · h), decide_eq_true h]; rfl
  · rw [decide_eq_true (T.lt_of_not_le h), decide_eq_false h]; rfl
theorem eq_dec (x y : ByteArray) : (x.toList == y.toList) = decide (x.data.toList = y.data.toList) := by
  rw [ByteArray.toList_eq, ByteArray.toList_eq]
  generalize x.data.toList = a
  generalize y.data.toList = b
  by_cases h : a = b <;> simp [h]
/-- The first j of some files: none is a place above p. -/
def noBel (t : T.Tr) (p : T.Bs) (j : Nat) : Prop := ∀ i (h : i < t.length), i < j → T.below p (T.pth t[i]) = false
theorem noBel_succ {t : T.Tr} {p : T.Bs} {j : Nat} (h : noBel t p j) (hj : j < t.length) (h1 : T.below p (T.pth t[j]) = false) : noBel t p (j + 1) := by
  intro i hi hik
  by_cases e : i = j
  · subst e; exact h1
  · exact h i hi (by omega)
theorem noBel_any {t : T.Tr} {p : T.Bs} {k : Nat} (h : noBel t p k) : (t.take k).any (fun g => T.below p (T.pth g)) = false := by
  rw [List.any_eq_false]
  intro g hg
  obtain ⟨i, hi, hik, rfl⟩ := T.mem_take hg
  rw [h i hi hik]
  exact Bool.false_ne_true
theorem bel_any {t : T.Tr} {p : T.Bs} {k j : Nat} (hj : j < t.length) (hjk : j < k) (h1 : T.below p (T.pth t[j]) = true) : (t.take k).any (fun g => T.below p (T.pth g)) = true := by
  rw [List.any_eq_true]
  refine ⟨t[j], ?_, h1⟩
  have : (t.take k)[j]'(by simp; omega) = t[j] := by simp
  rw [← this]
  exact List.getElem_mem _
/-- The ways of 'x <= y' as the walk tests it. -/
theorem le_ways (x y : ByteArray) : (Op.bytesLess x.toList y.toList || (x.toList == y.toList)) = decide (x.data.toList ≤ y.data.toList) := by
  rw [less_dec, eq_dec, Bool.eq_iff_iff]
  simp only [Bool.or_eq_true, decide_eq_true_eq]
  exact List.le_iff_lt_or_eq.symm
end Go.Proofs.YtclhbcicbnoohaaGreatDoor

/- Plain facts on encodings: numbers, texts; what is printed is read, what is read was printed. No program in sight. -/
namespace Go.Proofs.YtclhbcicbnoohaaGreatDoor.C

abbrev Bs := List UInt8
/-- The bytes of a number, of a text. -/
def dec (n : Nat) : Bs := Lib.decDigits n
def num (n : Nat) : Bs := dec n ++ [59]
def txt (s : Bs) : Bs := dec s.length ++ 58 :: (s ++ [44])
theorem dec_small {n : Nat} (h : n < 10) : dec n = [UInt8.ofNat (48 + n)] := by unfold dec; rw [Lib.decDigits, dif_pos h]
theorem dec_big {n : Nat} (h : ¬ n < 10) : dec n = dec (n / 10) ++ [UInt8.ofNat (48 + n % 10)] := by unfold dec; rw [Lib.decDigits, dif_neg h]

/-- Reading a number that a byte ends: i bytes were read, of value n. -/
def cnt (e : UInt8) (most : Nat) : Bs → Nat → Nat → Option (Nat × Bs)
  | [], _, _ => none
  | c :: l, i, n => if c = e ∧ 0 < i then some (n, l) else if c.toNat < 48 ∨ 57 < c.toNat ∨ (i = 1 ∧ n = 0) then none else if most < 10 * n + (c.toNat - 48) then none else cnt e most l (i + 1) (10 * n + (c.toNat - 48))
def pNum (low high : Int) (l : Bs) : Option (Nat × Bs) :=
  match cnt 59 281474976710656 l 0 0 with
  | some (n, r) => if low ≤ (n : Int) ∧ (n : Int) ≤ high then some (n, r) else none
  | none => none
def pTxt (most : Nat) (l : Bs) : Option (Bs × Bs) :=
  match cnt 58 65536 l 0 0 with
  | some (n, r) => if r.length ≤ n then none else if r[n]? ≠ some 44 then none else if most < n then none else some (r.take n, r.drop (n + 1))
  | none => none

theorem digit_back {d : Nat} (h : d < 10) : (UInt8.ofNat (48 + d)).toNat = 48 + d := by
  simp [UInt8.toNat_ofNat']
  omega
theorem digit_of (c : UInt8) (h : ¬ (c.toNat < 48 ∨ 57 < c.toNat)) : UInt8.ofNat (48 + (c.toNat - 48)) = c := by
  apply UInt8.toNat_inj.1
  rw [digit_back (by omega)]
  omega

/-- What was read is the numeral, and what ends it. -/
theorem cnt_more {e : UInt8} {most : Nat} : ∀ (l : Bs) (i n m : Nat) (r : Bs), 0 < i → (i = 1 → True) → n ≤ most → (n = 0 → i = 1) → cnt e most l i n = some (m, r) → dec n ++ l = dec m ++ e :: r ∧ m ≤ most
  | [], i, n, m, r, _, _, _, _, h => by simp [cnt] at h
  | c :: l, i, n, m, r, hi, _, hn, h0, h => by
    rw [cnt] at h
    by_cases he : c = e ∧ 0 < i
    · rw [if_pos he] at h
      cases h
      rw [he.1]
      exact ⟨rfl, hn⟩
    · rw [if_neg he] at h
      by_cases hc : c.toNat < 48 ∨ 57 < c.toNat ∨ (i = 1 ∧ n = 0)
      · rw [if_pos hc] at h; cases h
      · rw [if_neg hc] at h
        by_cases hm : most < 10 * n + (c.toNat - 48)
        · rw [if_pos hm] at h; cases h
        · rw [if_neg hm] at h
          have hn0 : n ≠ 0 := fun hz => hc (.inr (.inr ⟨h0 hz, hz⟩))
          have ih := cnt_more l (i + 1) (10 * n + (c.toNat - 48)) m r (by omega) (fun _ => trivial) (by omega) (fun h => by omega) h
          have hd : dec (10 * n + (c.toNat - 48)) = dec n ++ [c] := by
            rw [dec_big (by omega), show (10 * n + (c.toNat - 48)) / 10 = n by omega, show (10 * n + (c.toNat - 48)) % 10 = c.toNat - 48 by omega, digit_of c (by omega)]
          rw [hd] at ih
          exact ⟨by rw [← ih.1]; simp, ih.2⟩
theorem cnt_read {e : UInt8} {most : Nat} {l : Bs} {m : Nat} {r : Bs} (h : cnt e most l 0 0 = some (m, r)) : l = dec m ++ e :: r ∧ m ≤ most := by
  cases l with
  | nil => simp [cnt] at h
  | cons c l =>
    rw [cnt, if_neg (by omega)] at h
    by_cases hc : c.toNat < 48 ∨ 57 < c.toNat ∨ ((0 : Nat) = 1 ∧ (0 : Nat) = 0)
    · rw [if_pos hc] at h; cases h
    · rw [if_neg hc] at h
      by_cases hm : most < 10 * 0 + (c.toNat - 48)
      · rw [if_pos hm] at h; cases h
      · rw [if_neg hm] at h
        have ih := cnt_more l (0 + 1) (10 * 0 + (c.toNat - 48)) m r (by omega) (fun _ => trivial) (by omega) (fun _ => rfl) h
        rw [show 10 * 0 + (c.toNat - 48) = c.toNat - 48 by omega, dec_small (by omega), digit_of c (by omega)] at ih
        exact ⟨ih.1, ih.2⟩
/-- The numeral, and a byte that is no digit behind it, is read. -/
theorem cnt_digits {e : UInt8} {most : Nat} (he : e.toNat < 48 ∨ 57 < e.toNat) (l : Bs) : ∀ (k m : Nat), m ≤ k → m ≤ most → (cnt e most (dec m ++ l) 0 0 = cnt e most l (dec m).length m) ∧ 0 < (dec m).length ∧ (1 < (dec m).length → m ≠ 0)
  | k, m, hk, hm => by
    by_cases h : m < 10
    · rw [dec_small h]
      have hb := digit_back h
      refine ⟨?_, by simp, by simp⟩
      show cnt e most (UInt8.ofNat (48 + m) :: l) 0 0 = _
      rw [cnt, if_neg (by omega), if_neg (by rw [hb]; omega), hb, if_neg (by omega)]
      congr 1
      omega
    · obtain ⟨k, rfl⟩ : ∃ q, k = q + 1 := ⟨k - 1, by omega⟩
      have ih := cnt_digits (most := most) he (UInt8.ofNat (48 + m % 10) :: l) k (m / 10) (by omega) (by omega)
      have hb := digit_back (show m % 10 < 10 by omega)
      rw [dec_big h]
      refine ⟨?_, by simp, fun _ => by omega⟩
      rw [List.append_assoc]
      show cnt e most (dec (m / 10) ++ UInt8.ofNat (48 + m % 10) :: l) 0 0 = _
      rw [ih.1, cnt, if_neg (by
        rintro ⟨h1, _⟩
        rw [← h1, hb] at he
        omega), if_neg (by
        rw [hb]
        rintro (h1 | h1 | ⟨h1, h2⟩) <;> omega), hb, if_neg (by omega), List.length_append, List.length_singleton, show 10 * (m / 10) + (48 + m % 10 - 48) = m by omega]
theorem cnt_print {e : UInt8} {most m : Nat} (he : e.toNat < 48 ∨ 57 < e.toNat) (hm : m ≤ most) (r : Bs) : cnt e most (dec m ++ e :: r) 0 0 = some (m, r) := by
  have h := cnt_digits he (e :: r) m m (Nat.le_refl _) hm (most := most)
  rw [h.1, cnt, if_pos ⟨rfl, h.2.1⟩]

theorem pNum_read {low high : Int} {l : Bs} {n : Nat} {r : Bs} (h : pNum low high l = some (n, r)) : l = num n ++ r ∧ low ≤ (n : Int) ∧ (n : Int) ≤ high := by
  unfold pNum at h
  cases hc : cnt 59 281474976710656 l 0 0 with
  | none => rw [hc] at h; cases h
  | some x =>
    obtain ⟨m, q⟩ := x
    rw [hc] at h
    simp only at h
    by_cases hb : low ≤ (m : Int) ∧ (m : Int) ≤ high
    · rw [if_pos hb] at h
      cases h
      have := (cnt_read hc).1
      exact ⟨by rw [this]; simp [num], hb.1, hb.2⟩
    · rw [if_neg hb] at h; cases h
theorem pNum_print {low high : Int} {n : Nat} (h1 : low ≤ (n : Int)) (h2 : (n : Int) ≤ high) (h3 : n ≤ 281474976710656) (r : Bs) : pNum low high (num n ++ r) = some (n, r) := by
  unfold pNum num
  rw [List.append_assoc, show ([59] : Bs) ++ r = 59 :: r from rfl, cnt_print (by decide) h3]
  simp only
  rw [if_pos ⟨h1, h2⟩]
theorem pTxt_read {most : Nat} {l s r : Bs} (h : pTxt most l = some (s, r)) : l = txt s ++ r ∧ s.length ≤ most ∧ s.length ≤ 65536 := by
  unfold pTxt at h
  cases hc : cnt 58 65536 l 0 0 with
  | none => rw [hc] at h; cases h
  | some x =>
    obtain ⟨m, q⟩ := x
    rw [hc] at h
    simp only at h
    by_cases h1 : q.length ≤ m
    · rw [if_pos h1] at h; cases h
    · rw [if_neg h1] at h
      by_cases h2 : q[m]? = some 44
      · rw [if_neg (by simpa using h2)] at h
        by_cases h3 : most < m
        · rw [if_pos h3] at h; cases h
        · rw [if_neg h3] at h
          cases h
          obtain ⟨hr, hm⟩ := cnt_read hc
          have hl : (q.take m).length = m := by simp; omega
          refine ⟨?_, by omega, by omega⟩
          unfold txt
          rw [hl, hr]
          have e : q = q.take m ++ 44 :: q.drop (m + 1) := by
            conv => lhs; rw [← List.take_append_drop m q]
            have hg : q[m]'(by omega) = 44 := by rw [List.getElem?_eq_getElem (by omega)] at h2; exact Option.some.inj h2
            rw [List.drop_eq_getElem_cons (show m < q.length by omega), hg]
          conv => lhs; rw [e]
          simp
      · rw [if_pos (by simpa using h2)] at h; cases h
theorem pTxt_print {most : Nat} {s : Bs} (h1 : s.length ≤ most) (h2 : s.length ≤ 65536) (r : Bs) : pTxt most (txt s ++ r) = some (s, r) := by
  unfold pTxt txt
  rw [List.append_assoc, show (58 :: (s ++ [44])) ++ r = 58 :: (s ++ 44 :: r) by simp, cnt_print (by decide) h2]
  simp only
  rw [if_neg (by simp), if_neg (by simp), if_neg (by omega)]
  simp

end Go.Proofs.YtclhbcicbnoohaaGreatDoor.C

/- The library's variables; numbers and texts as bytes: codec and its reference. -/
namespace Go.Proofs.YtclhbcicbnoohaaGreatDoor
open Go.RowKit

/-- The library's variables hold what they were laid. -/
def Gl (w : World) : Prop := (∃ m, w.cell? ⟨0, 0, none⟩ = some (.int .i64 m)) ∧ Lib.TabIs Tryz.prog w "internal/strconv.uint64pow10" .u64 Lib.pow10Tab
theorem tab_ext {w w' : World} {name : String} {k : IntKind} {zs : List Int} (h : Lib.TabIs Tryz.prog w name k zs) (he : Ext w w') : Lib.TabIs Tryz.prog w' name k zs := by
  unfold Lib.TabIs World.var? at *
  cases hg : Tryz.prog.globalNamed name with
  | none => rw [hg] at h; cases h
  | some g =>
    rw [hg] at h
    simp only [Option.bind_some] at h ⊢
    have hlt : g < w.heap.size := by
      rcases Nat.lt_or_ge g w.heap.size with h' | h'
      · exact h'
      · rw [Array.getElem?_eq_none h'] at h; cases h
    rw [he.block g hlt]
    exact h
theorem Gl.ext {w w' : World} (h : Gl w) (he : Ext w w') : Gl w' := by
  obtain ⟨⟨m, hm⟩, ht⟩ := h
  exact ⟨⟨m, he.keepc hm⟩, tab_ext ht he⟩
theorem Itoa_any (n : Int) (w : World) (h0 : 0 ≤ n) (h1 : n ≤ 9223372036854775807) (hg : Gl w) : Calls Tryz.prog 122 #[.int .i64 n] w (Al (.string (mkB (C.dec n.toNat))) w) := by
  refine (Tryz.strconv_Itoa n (by omega) h1 w hg.2).mono ?_
  rintro e w' ⟨rfl, k, os, rfl⟩
  refine ⟨?_, Lib.below_grow _ _ (Nat.le_refl _) k os⟩
  unfold Lib.itoa
  rw [if_neg (by omega)]
  rfl
theorem dec_len : ∀ (k n : Nat), n < 10 ^ (k + 1) → (C.dec n).length ≤ k + 1
  | 0, n, h => by rw [C.dec_small (by omega)]; simp
  | k + 1, n, h => by
    by_cases hn : n < 10
    · rw [C.dec_small hn]; simp
    · rw [C.dec_big hn, List.length_append]
      have := dec_len k (n / 10) (by rw [Nat.pow_succ] at h; omega)
      simp; omega
theorem mkB_size (l : List UInt8) : (mkB l).size = l.length := by simp [mkB, ByteArray.size]
theorem mkB_data (l : List UInt8) : (mkB l).data.toList = l := rfl
theorem mkB_self (s : ByteArray) : mkB s.data.toList = s := by cases s; rfl
theorem mkB_add (l m : List UInt8) : mkB l ++ mkB m = mkB (l ++ m) := by
  apply ByteArray.ext
  apply Array.toList_inj.1
  rw [ByteArray.data_append, Array.toList_append]
  rfl

/-- What Number gives, what Text gives. -/
def numV (n : Int) : Value := if 0 ≤ n ∧ n ≤ 281474976710656 then .tuple #[.string (mkB (C.num n.toNat)), .int .i64 0] else .tuple #[.string ⟨#[]⟩, .int .i64 3]
def txtV (s : ByteArray) : Value := if s.size ≤ 65536 then .tuple #[.string (mkB (C.txt s.data.toList)), .int .i64 0] else .tuple #[.string ⟨#[]⟩, .int .i64 10]
theorem numS (n : Nat) : mkB (C.dec n) ++ ⟨#[59]⟩ = mkB (C.num n) := mkB_add _ [59]
theorem txtS (s : ByteArray) : mkB (C.dec s.size) ++ ⟨#[58]⟩ ++ s ++ ⟨#[44]⟩ = mkB (C.txt s.data.toList) := by
  have e1 : mkB (C.dec s.size) ++ ⟨#[58]⟩ = mkB (C.dec s.size ++ [58]) := mkB_add _ [58]
  have e2 : mkB (C.dec s.size ++ [58]) ++ s = mkB (C.dec s.size ++ [58] ++ s.data.toList) := by
    have := mkB_add (C.dec s.size ++ [58]) s.data.toList
    rwa [mkB_self] at this
  have e3 : mkB (C.dec s.size ++ [58] ++ s.data.toList) ++ ⟨#[44]⟩ = mkB (C.dec s.size ++ [58] ++ s.data.toList ++ [44]) := mkB_add _ [44]
  have hl : s.data.toList.length = s.size := by simp
  rw [e1, e2, e3]
  unfold C.txt
  rw [hl]
  simp

set_option maxHeartbeats 400000 in
theorem Text_any' (s : ByteArray) (w : World) (hs : s.size ≤ 9223372036854775807) (hg : Gl w) : Calls Tryz.prog 103 #[.string s] w (Al (txtV s) w) := by
  unfold txtV
  by_cases h1 : s.size ≤ 65536
  · rw [if_pos h1, ← txtS]
    have HI := Lib.hid (Itoa_any (s.size : Int) w (by omega) (by omega) hg)
    rw [Int.toNat_natCast] at HI
    have hl : (mkB (C.dec s.size)).size ≤ 16 := by rw [mkB_size]; exact dec_len 15 _ (by omega)
    generalize mkB (C.dec s.size) = t at HI hl ⊢
    clear hg
    go_enter Tryz.func103, Tryz.ntmps103
    go_wp2_with fail
    refine HI.out.mono ?_
    rintro e w1 ⟨rfl, d1⟩
    go_wp2_with fail
    go_ret2
    exact ⟨rfl, d1⟩
  · rw [if_neg h1]
    go_enter Tryz.func103, Tryz.ntmps103
    go_wp2_with fail
    go_ret2
    exact ⟨rfl, Ext.refl _⟩

end Go.Proofs.YtclhbcicbnoohaaGreatDoor

/- The reference's numbers and texts. -/
namespace Go.Proofs.YtclhbcicbnoohaaGreatDoor
open Go.RowKit

/-- A digit's string. -/
def chr (d : Nat) : ByteArray := mkB [UInt8.ofNat (48 + d)]
theorem chr_size (d : Nat) : (chr d).size = 1 := rfl
theorem one_byte (d : Nat) (hd : d < 10) (w' : World) (v : Int) (hv : v = 48 + (d : Int)) (p : Addr) (hc : w'.cell? p = some (.int .u8 v)) : (convert 102 9 (.slice (some p) 1 1)).run Tryz.prog w' = .ok (.string (chr d)) w' := by
  subst hv
  have hb := C.digit_back hd
  have := run_convert_bytes_back (P := Tryz.prog) w' 102 9 5 p 1 [UInt8.ofNat (48 + d)] Tryz.underlying102 Tryz.underlying5 Tryz.underlying9 (by
    intro i hi
    have : i = 0 := by simp at hi; omega
    subst this
    simp only [List.getElem_cons_zero]
    rw [hb]
    simpa [Addr.add] using hc)
  exact this
set_option maxRecDepth 4000 in
set_option maxHeartbeats 400000 in
theorem Decimal_one (n : Nat) (w : World) (h : n < 10) : Calls Tryz.prog 109 #[.int .i64 (n : Int)] w (Al (.string (mkB (C.dec n))) w) := by
  have hd : Hid (mkB (C.dec n) = chr n) := by unfold Hid; rw [C.dec_small h]; rfl
  have hcv : ∀ w' : World, (convert 102 9 (.slice (some ⟨w'.heap.size, 0, none⟩) 1 1)).run Tryz.prog (w'.alloc (.cells #[.int .u8 (48 + (n : Int))] 5)) = .ok (.string (chr n)) (w'.alloc (.cells #[.int .u8 (48 + (n : Int))] 5)) :=
    fun w' => one_byte n h _ _ rfl _ (cell_new w' _ 5 0)
  go_enter Tryz.func109, Tryz.ntmps109
  go_wp2_with fail
  go_ret
  exact ⟨by rw [hd.out]; rfl, (Ext.refl w).alloc _⟩

set_option maxRecDepth 4000 in
set_option maxHeartbeats 800000 in
theorem Decimal_step (n : Nat) (w : World) (h : ¬ n < 10) (hn : n ≤ 9223372036854775807) (ih : ∀ w', Calls Tryz.prog 109 #[.int .i64 ((n / 10 : Nat) : Int)] w' (Al (.string (mkB (C.dec (n / 10)))) w')) : Calls Tryz.prog 109 #[.int .i64 (n : Int)] w (Al (.string (mkB (C.dec n))) w) := by
  have IH := Lib.hid ih
  clear ih
  have hd : Hid (mkB (C.dec n) = mkB (C.dec (n / 10)) ++ chr (n % 10)) := by unfold Hid; rw [C.dec_big h]; exact (mkB_add _ [UInt8.ofNat (48 + n % 10)]).symm
  have hl : (mkB (C.dec (n / 10))).size ≤ 19 := by
    rw [mkB_size]
    exact dec_len 18 (n / 10) (by omega)
  have q1 : (n : Int).tdiv 10 = ((n / 10 : Nat) : Int) := by rw [Int.tdiv_eq_ediv_of_nonneg (by omega)]; omega
  have q5 : (n : Int) / 10 = ((n / 10 : Nat) : Int) := by omega
  have q6 : (n : Int) % 10 = ((n % 10 : Nat) : Int) := by omega
  have q2 : (n : Int).tmod 10 = ((n % 10 : Nat) : Int) := by rw [Int.tmod_eq_emod_of_nonneg (by omega)]; omega
  have q3 : IntKind.i64.wrap (48 + ((n % 10 : Nat) : Int)) = 48 + ((n % 10 : Nat) : Int) := IntWalk.i64_in _ (by omega)
  have q4 : IntKind.u8.wrap (48 + ((n % 10 : Nat) : Int)) = 48 + ((n % 10 : Nat) : Int) := IntWalk.u8_in _ (by omega)
  have q7 : IntKind.i64.wrap ((n / 10 : Nat) : Int) = ((n / 10 : Nat) : Int) := IntWalk.i64_in _ (by omega)
  have hm : n % 10 < 10 := by omega
  have OB := Lib.hid (one_byte (n % 10) hm)
  go_enter Tryz.func109, Tryz.ntmps109
  go_wp2_with fail
  generalize mkB (C.dec (n / 10)) = t at IH hd hl
  generalize n / 10 = a at IH q1 q5 q7
  generalize n % 10 = b at hd q2 q3 q4 q6 hm OB
  have hcv : ∀ w' : World, (convert 102 9 (.slice (some ⟨w'.heap.size, 0, none⟩) 1 1)).run Tryz.prog (w'.alloc (.cells #[.int .u8 (48 + (b : Int))] 5)) = .ok (.string (chr b)) (w'.alloc (.cells #[.int .u8 (48 + (b : Int))] 5)) :=
    fun w' => OB.out _ _ rfl _ (cell_new w' _ 5 0)
  have hcd : ∀ w' : World, (convert 102 9 (.slice (some ⟨w'.heap.size, 0, none⟩) 1 1)).run Tryz.prog (w'.alloc (.cells #[.int .u8 (48 + (b : Int))] 5)).drew = .ok (.string (chr b)) (w'.alloc (.cells #[.int .u8 (48 + (b : Int))] 5)).drew :=
    fun w' => OB.out _ _ rfl _ (cell_new w' _ 5 0)
  have hcs := chr_size b
  go_region_with (go_at_call 109; ((with_reducible refine (IH.out _).mono ?_); rintro e w1 ⟨rfl, d1⟩; first | (have hc1 := OB.out w1 _ rfl ⟨w.heap.size, 0, none⟩ (d1.keepc (p := ⟨w.heap.size, 0, none⟩) (v := .int .u8 (48 + (b : Int))) (cell_new w #[.int .u8 (48 + (b : Int))] 5 0))) | skip))
  all_goals
    go_wp2_with fail
    go_ret
    refine ⟨by rw [hd.out]; rfl, ?_⟩
    first
      | exact (((Ext.refl w).alloc _).drew).trans (by assumption)
      | exact ((Ext.refl w).drew.trans (by assumption)).alloc _
      | exact (Ext.refl w).drew.trans (by assumption)

theorem Decimal_any : ∀ (k n : Nat) (w : World), n < 10 ^ (k + 1) → n ≤ 9223372036854775807 → Calls Tryz.prog 109 #[.int .i64 (n : Int)] w (Al (.string (mkB (C.dec n))) w) := by
  intro k
  induction k with
  | zero => intro n w hk hn; exact Decimal_one n w (by simpa using hk)
  | succ k ih =>
    intro n w hk hn
    by_cases h : n < 10
    · exact Decimal_one n w h
    · exact Decimal_step n w h hn fun w' => ih (n / 10) w' (by rw [Nat.pow_succ] at hk; omega) (by omega)
theorem Dec_any (n : Nat) (w : World) (hn : n ≤ 9223372036854775807) : Calls Tryz.prog 109 #[.int .i64 (n : Int)] w (Al (.string (mkB (C.dec n))) w) :=
  Decimal_any 18 n w (by omega) hn

set_option maxHeartbeats 400000 in
theorem refText_any' (s : ByteArray) (w : World) (hs : s.size ≤ 9223372036854775807) : Calls Tryz.prog 110 #[.string s] w (Al (txtV s) w) := by
  unfold txtV
  by_cases h1 : s.size ≤ 65536
  · rw [if_pos h1, ← txtS]
    have HI := Lib.hid (Dec_any s.size w (by omega))
    have hl : (mkB (C.dec s.size)).size ≤ 16 := by rw [mkB_size]; exact dec_len 15 _ (by omega)
    generalize mkB (C.dec s.size) = t at HI hl ⊢
    go_enter Tryz.func110, Tryz.ntmps110
    go_wp2_with fail
    refine HI.out.mono ?_
    rintro e w1 ⟨rfl, d1⟩
    go_wp2_with fail
    go_ret2
    exact ⟨rfl, d1⟩
  · rw [if_neg h1]
    go_enter Tryz.func110, Tryz.ntmps110
    go_wp2_with fail
    go_ret2
    exact ⟨rfl, Ext.refl _⟩
/-- What the words of the encodings are. -/
def numB (n : Int) : ByteArray := if 0 ≤ n ∧ n ≤ 281474976710656 then mkB (C.num n.toNat) else ⟨#[]⟩
def txtB (s : ByteArray) : ByteArray := if s.size ≤ 65536 then mkB (C.txt s.data.toList) else ⟨#[]⟩
def numE (n : Int) : Int := if 0 ≤ n ∧ n ≤ 281474976710656 then 0 else 3
def txtE (s : ByteArray) : Int := if s.size ≤ 65536 then 0 else 10
theorem numV_is (n : Int) : numV n = .tuple #[.string (numB n), .int .i64 (numE n)] := by unfold numV numB numE; split <;> rfl
theorem txtV_is (s : ByteArray) : txtV s = .tuple #[.string (txtB s), .int .i64 (txtE s)] := by unfold txtV txtB txtE; split <;> rfl
end Go.Proofs.YtclhbcicbnoohaaGreatDoor
