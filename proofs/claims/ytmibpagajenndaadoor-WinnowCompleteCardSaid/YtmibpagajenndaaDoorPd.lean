/- Blanks; slices.ContainsFunc of bytes. -/
import Derived.Test.YtmibpagajenndaaDoorPc
namespace Go.Proofs.YtmibpagajenndaaDoor
open Go.RowKit

def blankN (n : Int) : Bool := decide (n ≤ 32) || decide (n = 127)
set_option maxHeartbeats 400000 in
theorem blank_any (n : Int) (w : World) : Calls Tryd.prog 33 #[.int .u8 n] w (Al (.bool (blankN n)) w) := by
  have hv : Hid (blankN n = (decide (n ≤ 32) || decide (n = 127))) := rfl
  by_cases h1 : n ≤ 32
  · have he : blankN n = true := by rw [hv.out]; simp [h1]
    rw [he]
    go_enter Tryd.func33, Tryd.ntmps33
    go_wp2_with fail
    go_ret
    exact ⟨rfl, Ext.refl _⟩
  · by_cases h2 : n = 127
    · subst h2
      go_enter Tryd.func33, Tryd.ntmps33
      go_wp2_with fail
      go_ret
      exact ⟨rfl, Ext.refl _⟩
    · have e1 : (n == 127) = false := by simpa using h2
      have he : blankN n = false := by rw [hv.out]; simp [h2]; omega
      rw [he]
      go_enter Tryd.func33, Tryd.ntmps33
      go_wp2_with fail
      go_ret
      exact ⟨rfl, Ext.refl _⟩
theorem eg33 : ∀ (args : Array Value) (w : World), (callFunc 33 args).run Tryd.prog w = .ok (.enter 33 args) w := enters_of Tryd.func33 (by kernel_rfl) rfl

set_option maxHeartbeats 400000 in
theorem IndexBytes (l : List UInt8) (b c L g : Nat) (lb : Array Value) (p : UInt8 → Bool) (w : World) (eg : ∀ args w, (callFunc g args).run Tryd.prog w = .ok (.enter g args) w) (hL : L = l.length) (hL2 : L ≤ 9000000)
    (hc : ∀ j (h : j < l.length), w.cell? ⟨b, j, none⟩ = some (.int .u8 (l[j].toNat : Int))) (hp : ∀ x ∈ l, ∀ w', Calls Tryd.prog g (#[.int .u8 (x.toNat : Int)] ++ lb) w' (Al (.bool (p x)) w')) :
    Calls Tryd.prog 49 #[.slice (some ⟨b, 0, none⟩) L c, .func (.func g) #[] lb] w fun e w' => (∃ i : Int, e = .returned (.int .i64 i) ∧ decide (0 ≤ i) = l.any p) ∧ Ext w w' := by
  have HC := Lib.hid hc
  have HP := Lib.hid hp
  have HL := Lib.hid hL
  clear hc hp hL
  go_enter Tryd.func49, Tryd.ntmps49
  go_wp2_with fail
  go_loopw [5, 8] (fun _ i wr => ∃ k : Nat, k ≤ L ∧ i = .int .i64 k ∧ Hid (∀ j (h : j < l.length), j < k → p l[j] = false) ∧ Ext w wr) (fun _ i _ => L - (intOf i).toNat)
  case atStart => exact ⟨0, Nat.zero_le _, rfl, fun j _ hj => absurd hj (Nat.not_lt_zero _), Ext.refl _⟩
  case round =>
    obtain ⟨k, hk, rfl, hno, hd⟩ := hrel
    by_cases hlt : k < L
    · have hkl : k < l.length := by have := HL.out; omega
      have c0 := hd.keepc (HC.out k hkl)
      have hcall := HP.out l[k] (List.getElem_mem hkl) wr
      have hk0 : k ≤ 9000000 := by omega
      cases hpk : p l[k] with
      | true =>
        rw [hpk] at hcall
        have HK := Lib.hid hcall
        have HPK := Lib.hid hpk
        clear hcall hpk
        go_wp2_with (go_at_fn g; refine HK.out.mono ?_; rintro e w1 ⟨rfl, d1⟩)
        go_ret
        refine ⟨⟨_, rfl, ?_⟩, hd.trans d1⟩
        rw [List.any_eq_true.2 ⟨l[k], List.getElem_mem hkl, HPK.out⟩]
        simp
      | false =>
        rw [hpk] at hcall
        have HK := Lib.hid hcall
        have HPK := Lib.hid hpk
        clear hcall hpk
        go_wp2_with (go_at_fn g; refine HK.out.mono ?_; rintro e w1 ⟨rfl, d1⟩)
        go_roundw
        case rel =>
          refine ⟨k + 1, by omega, by go_num, fun j h hj => ?_, hd.trans d1⟩
          by_cases e : j = k
          · subst e; exact HPK.out
          · exact hno.out j h (by omega)
        case measure => simp [intOf]; omega
    · have hkL : k = L := by omega
      go_wp2_with fail
      go_ret
      refine ⟨⟨_, rfl, ?_⟩, hd⟩
      have : l.any p = false := by
        rw [List.any_eq_false]
        intro x hx
        obtain ⟨j, hj, rfl⟩ := List.getElem_of_mem hx
        have := hno.out j hj (by have := HL.out; omega)
        simp [this]
      rw [this]
      rfl

set_option maxHeartbeats 400000 in
theorem ContainsBytes (l : List UInt8) (b c L g : Nat) (lb : Array Value) (p : UInt8 → Bool) (w : World) (eg : ∀ args w, (callFunc g args).run Tryd.prog w = .ok (.enter g args) w) (hL : L = l.length) (hL2 : L ≤ 9000000)
    (hc : ∀ j (h : j < l.length), w.cell? ⟨b, j, none⟩ = some (.int .u8 (l[j].toNat : Int))) (hp : ∀ x ∈ l, ∀ w', Calls Tryd.prog g (#[.int .u8 (x.toNat : Int)] ++ lb) w' (Al (.bool (p x)) w')) :
    Calls Tryd.prog 32 #[.slice (some ⟨b, 0, none⟩) L c, .func (.func g) #[] lb] w (Al (.bool (l.any p)) w) := by
  have h := IndexBytes l b c L g lb p w eg hL hL2 hc hp
  obtain ⟨B, hB⟩ : ∃ B, B = l.any p := ⟨_, rfl⟩
  rw [← hB] at h ⊢
  have HH := Lib.hid h
  clear h hc hp hB eg hL
  go_enter Tryd.func32, Tryd.ntmps32
  go_wp2_with fail
  refine HH.out.mono ?_
  rintro e w1 ⟨⟨i, rfl, hi⟩, d1⟩
  go_wp2_with fail
  go_ret
  exact ⟨rfl, d1⟩

end Go.Proofs.YtmibpagajenndaaDoor
