/- slices.ContainsFunc of strings; tree.Path. -/
import Derived.Test.YtmibpagajenndaaDoorPa
import Derived.Lib.CountLaws
import Derived.Lib.Replace
namespace Go.Proofs.YtmibpagajenndaaDoor
open Go.RowKit

set_option maxHeartbeats 400000 in
theorem notPart_any (s : ByteArray) (w : World) (hs : s.size ≤ 9223372036854775807) : Calls Tryd.prog 47 #[.string s] w (Al (.bool (!partB s)) w) := by
  have h := fun w' => part_any s w' hs
  have HH := Lib.hid h
  clear h
  generalize partB s = B at *
  go_enter Tryd.func47, Tryd.ntmps47
  go_wp2_with (go_at_call 48; refine (HH.out _).mono ?_; rintro e w1 ⟨rfl, d1⟩)
  go_ret
  exact ⟨rfl, d1⟩
theorem eg47 : ∀ (args : Array Value) (w : World), (callFunc 47 args).run Tryd.prog w = .ok (.enter 47 args) w := enters_of Tryd.func47 (by kernel_rfl) rfl

set_option maxHeartbeats 400000 in
theorem IndexStr (l : List ByteArray) (b c L g : Nat) (lb : Array Value) (p : ByteArray → Bool) (w : World) (eg : ∀ args w, (callFunc g args).run Tryd.prog w = .ok (.enter g args) w) (hL : L = l.length) (hL2 : L ≤ 9000000)
    (hc : ∀ j (h : j < l.length), w.cell? ⟨b, j, none⟩ = some (.string l[j])) (hp : ∀ x ∈ l, ∀ w', Calls Tryd.prog g (#[.string x] ++ lb) w' (Al (.bool (p x)) w')) :
    Calls Tryd.prog 54 #[.slice (some ⟨b, 0, none⟩) L c, .func (.func g) #[] lb] w fun e w' => (∃ i : Int, e = .returned (.int .i64 i) ∧ decide (0 ≤ i) = l.any p) ∧ Ext w w' := by
  have HC := Lib.hid hc
  have HP := Lib.hid hp
  have HL := Lib.hid hL
  clear hc hp hL
  go_enter Tryd.func54, Tryd.ntmps54
  go_wp2_with fail
  go_loopw [5, 8] (fun _ i wr => ∃ k : Nat, k ≤ L ∧ i = .int .i64 k ∧ Hid (∀ j (h : j < l.length), j < k → p l[j] = false) ∧ Ext w wr) (fun _ i _ => L - (intOf i).toNat)
  case atStart => exact ⟨0, Nat.zero_le _, rfl, fun j _ hj => absurd hj (Nat.not_lt_zero _), Ext.refl _⟩
  case round =>
    obtain ⟨k, hk, rfl, hno, hd⟩ := hrel
    by_cases hlt : k < L
    · have hkl : k < l.length := by have := HL.out; omega
      have c0 := hd.keepc (HC.out k hkl)
      have hcall := HP.out l[k] (List.getElem_mem hkl) wr
      have hk0 : k ≤ 9000000 := by omega
      cases hpk : p l[k] with
      | true =>
        rw [hpk] at hcall
        have HK := Lib.hid hcall
        have HPK := Lib.hid hpk
        clear hcall hpk
        go_wp2_with (go_at_fn g; refine HK.out.mono ?_; rintro e w1 ⟨rfl, d1⟩)
        go_ret
        refine ⟨⟨_, rfl, ?_⟩, hd.trans d1⟩
        rw [List.any_eq_true.2 ⟨l[k], List.getElem_mem hkl, HPK.out⟩]
        simp
      | false =>
        rw [hpk] at hcall
        have HK := Lib.hid hcall
        have HPK := Lib.hid hpk
        clear hcall hpk
        go_wp2_with (go_at_fn g; refine HK.out.mono ?_; rintro e w1 ⟨rfl, d1⟩)
        go_roundw
        case rel =>
          refine ⟨k + 1, by omega, by go_num, fun j h hj => ?_, hd.trans d1⟩
          by_cases e : j = k
          · subst e; exact HPK.out
          · exact hno.out j h (by omega)
        case measure => simp [intOf]; omega
    · have hkL : k = L := by omega
      go_wp2_with fail
      go_ret
      refine ⟨⟨_, rfl, ?_⟩, hd⟩
      have : l.any p = false := by
        rw [List.any_eq_false]
        intro x hx
        obtain ⟨j, hj, rfl⟩ := List.getElem_of_mem hx
        have := hno.out j hj (by have := HL.out; omega)
        simp [this]
      rw [this]
      rfl

set_option maxHeartbeats 400000 in
theorem ContainsStr (l : List ByteArray) (b c L g : Nat) (lb : Array Value) (p : ByteArray → Bool) (w : World) (eg : ∀ args w, (callFunc g args).run Tryd.prog w = .ok (.enter g args) w) (hL : L = l.length) (hL2 : L ≤ 9000000)
    (hc : ∀ j (h : j < l.length), w.cell? ⟨b, j, none⟩ = some (.string l[j])) (hp : ∀ x ∈ l, ∀ w', Calls Tryd.prog g (#[.string x] ++ lb) w' (Al (.bool (p x)) w')) :
    Calls Tryd.prog 46 #[.slice (some ⟨b, 0, none⟩) L c, .func (.func g) #[] lb] w (Al (.bool (l.any p)) w) := by
  have h := IndexStr l b c L g lb p w eg hL hL2 hc hp
  obtain ⟨B, hB⟩ : ∃ B, B = l.any p := ⟨_, rfl⟩
  rw [← hB] at h ⊢
  have HH := Lib.hid h
  clear h hc hp hB eg hL
  go_enter Tryd.func46, Tryd.ntmps46
  go_wp2_with fail
  refine HH.out.mono ?_
  rintro e w1 ⟨⟨i, rfl, hi⟩, d1⟩
  go_wp2_with fail
  go_ret
  exact ⟨rfl, d1⟩

theorem split_len (sep : ByteArray) (h1 : 1 ≤ sep.size) : ∀ (k : Nat) (s : ByteArray), Lib.countB s sep = k → (Lib.splitB sep 0 k s).length = k + 1
  | 0, s, _ => rfl
  | k + 1, s, h => by
    obtain ⟨i, hi⟩ : ∃ i : Nat, Lib.indexB s sep = i := Lib.index_of_count (show 0 < Lib.count s.data.toList sep.data.toList by have : Lib.count s.data.toList sep.data.toList = k + 1 := h; omega)
    have hc := Lib.countB_hit s sep i h1 hi
    rw [Lib.splitB_hit sep 0 k s i hi, List.length_cons, split_len sep h1 k _ (by omega)]

/-- The parts of a path. -/
def pieces (s : ByteArray) : List ByteArray := Lib.splitB ⟨#[47]⟩ 0 (Lib.countB s ⟨#[47]⟩) s
theorem pieces_len (s : ByteArray) : (pieces s).length = Lib.countB s ⟨#[47]⟩ + 1 := split_len ⟨#[47]⟩ (by decide) _ s rfl
/-- What a path is. -/
def pathB (s : ByteArray) : Bool := decide (s.size ≤ 128) && decide ((pieces s).length ≤ 8) && !((pieces s).any fun x => !partB x)

end Go.Proofs.YtmibpagajenndaaDoor
