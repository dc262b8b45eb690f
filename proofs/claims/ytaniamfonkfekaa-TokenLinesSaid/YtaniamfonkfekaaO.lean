/- The walks of TokenWords and TokenNumbers. -/
import Derived.Test.YtaniamfonkfekaaN
namespace Go.Proofs.Ytaniamfonkfekaa
open Go.RowKit Go.Lib

set_option maxHeartbeats 1000000 in
theorem tokenWords_walk (v0 : Value) (a0 : ByteArray) {w : World} (r0 : strR.val w a0 v0) : Calls Try.prog 5 #[v0] w (Al (.bool true) w) := by
  obtain ⟨rfl, hs⟩ := val_str r0
  clear r0
  by_cases h0 : 100 < a0.size
  · go_enter Try.func5, Try.ntmps5
    go_wp2_with (go_at_call 9; refine (awake05 _).mono ?_; rintro e w1 ⟨rfl, d1⟩)
    go_ret
    exact ⟨rfl, d1⟩
  · obtain ⟨n, er, hn⟩ : ∃ n er, K.number a0.data.toList = (n, er) := ⟨_, _, rfl⟩
    obtain ⟨b, hb⟩ : ∃ b, K.name a0.data.toList = b := ⟨_, rfl⟩
    have HN := Lib.hid hn
    have HB := Lib.hid hb
    clear hn hb
    go_enter Try.func5, Try.ntmps5
    go_wp2_with (go_at_call 9; refine (awake05 _).mono ?_; rintro e w1 ⟨rfl, d1⟩)
    refine (Number_any a0 _ hs).mono ?_
    rw [HN.out]
    rintro e w2 ⟨rfl, d2⟩
    go_wp2_with fail
    refine (refNumber_any a0 _ hs).mono ?_
    rw [HN.out]
    rintro e w' ⟨rfl, rfl⟩
    go_wp2_with fail
    refine (Name_any a0 _ hs).mono ?_
    rw [HB.out]
    rintro e w3 ⟨rfl, d3⟩
    go_wp2_with fail
    refine (refName_any a0 _ hs).mono ?_
    rw [HB.out]
    rintro e w4 ⟨rfl, d4⟩
    go_wp2_with fail
    go_ret
    exact ⟨ret_bool (by simp), ((d1.trans d2).trans d3).trans d4⟩

namespace K
/-- Digits. -/
def Digs (D : List UInt8) : Prop := ∀ c ∈ D, digit c = true
theorem run_digs (D : List UInt8) (h : Digs D) : run false D = D.length := by
  refine run_eq false D _ (Nat.le_refl _) (fun j hj _ => ?_) (fun h2 => absurd h2 (Nat.lt_irrefl _))
  have := h D[j] (List.getElem_mem hj)
  unfold digit at this
  simp [word, wordN, this]
theorem val_cons (c : UInt8) (D : List UInt8) : val (c :: D) = (c.toNat - 48) * 10 ^ D.length + val D := by
  have key : ∀ (D : List UInt8) (n : Nat), D.foldl (fun n c => 10 * n + (c.toNat - 48)) n = n * 10 ^ D.length + D.foldl (fun n c => 10 * n + (c.toNat - 48)) 0 := by
    intro D
    induction D with
    | nil => intro n; simp
    | cons d D ih =>
      intro n
      rw [List.foldl_cons, List.foldl_cons, ih (10 * n + (d.toNat - 48)), ih (10 * 0 + (d.toNat - 48)), List.length_cons, Nat.pow_succ]
      generalize 10 ^ D.length = p
      rw [Nat.add_mul, Nat.mul_zero, Nat.zero_add, show n * (p * 10) = 10 * n * p by rw [Nat.mul_comm p 10, ← Nat.mul_assoc, Nat.mul_comm n 10]]
      omega
  unfold val
  rw [List.foldl_cons, key]
  simp
/-- A number as it is written. -/
theorem number_digs (c : UInt8) (D : List UInt8) (h : Digs (c :: D)) (hz : D ≠ [] → c ≠ 48) (hv : val (c :: D) ≤ 4294967295) : number (c :: D) = (val (c :: D), 0) := by
  have hok : numOk (c :: D) = true := by
    unfold numOk
    rw [run_digs _ h]
    simp only [ne_eq, reduceCtorEq, not_false_eq_true, decide_true, Bool.true_and, List.length_cons, List.getElem?_cons_zero, Option.some.injEq, Bool.not_eq_true', Bool.and_eq_false_iff, decide_eq_false_iff_not]
    cases D with
    | nil => left; simp
    | cons d D => right; exact hz (by simp)
  unfold number
  rw [if_pos hok, if_neg (by omega)]
theorem nxt_digs (c : UInt8) (D : List UInt8) (h : Digs (c :: D)) (hn : (number (c :: D)).2 = 0) : nxt (c :: D) = (2, (c :: D).length, 0) := by
  have hr := run_digs _ h
  have hc := h c List.mem_cons_self
  have hl : ¬ letter c = true := by
    unfold digit digitN at hc
    unfold letter letterN
    simp at hc ⊢
    omega
  rw [nxt, if_neg hl, if_pos hc, hr, List.take_length, if_neg (by rw [hn]; simp), List.drop_length, if_neg (by simp)]
theorem tk_blanks (l : List UInt8) (acc : List Tk) : ∀ n, tk (List.replicate n 32 ++ l) acc = tk l acc
  | 0 => rfl
  | n + 1 => by rw [List.replicate_succ, List.cons_append, tk_blank, tk_blanks l acc n]
theorem tk_digs (c : UInt8) (D : List UInt8) (n : Nat) (h : Digs (c :: D)) (hn : (number (c :: D)).2 = 0) : tk (List.replicate n 32 ++ (c :: D) ++ [32]) [] = ([(2, str (c :: D))], 0) := by
  rw [List.append_assoc, tk_blanks]
  have := tk_tok (2, str (c :: D)) [32] [] (.inr ⟨[], rfl⟩) (by show valid 2 (c :: D) = true; unfold valid; rw [nxt_digs c D h hn]; simp) (by simp)
  rw [show (2, str (c :: D)).2.data.toList = c :: D from rfl] at this
  rw [this, tk_blank]
  rfl
/-- The digits so far: m stands before them. -/
structure Num (n m : Nat) (D : List UInt8) : Prop where
  digs : Digs D
  eq : n = m * 10 ^ D.length + val D
  pos : D ≠ [] → 0 < m
theorem Num.start (n : Nat) : Num n n [] := ⟨fun c h => by simp at h, by simp [val], fun h => absurd rfl h⟩
theorem dig_at (m : Nat) : ((48 + m % 10).toUInt8).toNat = 48 + m % 10 := by
  rw [Nat.toUInt8_eq, UInt8.toNat_ofNat', Nat.mod_eq_of_lt (by omega)]
theorem dig_ok (m : Nat) : digit ((48 + m % 10).toUInt8) = true := by
  unfold digit digitN
  rw [dig_at]
  simp
  omega
theorem Num.digs2 {n m : Nat} {D : List UInt8} (h : Num n m D) : Digs ((48 + m % 10).toUInt8 :: D) := by
  intro c hc
  rcases List.mem_cons.1 hc with rfl | hc
  · exact dig_ok m
  · exact h.digs c hc
theorem Num.step {n m : Nat} {D : List UInt8} (h : Num n m D) (hm : 10 ≤ m) : Num n (m / 10) ((48 + m % 10).toUInt8 :: D) := by
  refine ⟨h.digs2, ?_, fun _ => by omega⟩
  rw [val_cons, dig_at, List.length_cons, h.eq, Nat.pow_succ]
  generalize 10 ^ D.length = p
  have e : m = 10 * (m / 10) + m % 10 := (Nat.div_add_mod m 10).symm
  generalize m / 10 = q at *
  generalize m % 10 = r at *
  subst e
  rw [show 48 + r - 48 = r by omega, Nat.add_mul, show q * (p * 10) = 10 * q * p by rw [Nat.mul_comm p 10, ← Nat.mul_assoc, Nat.mul_comm q 10]]
  omega
theorem Num.done {n m : Nat} {D : List UInt8} (h : Num n m D) (hm : m < 10) (hn : n ≤ 4294967295) : number ((48 + m % 10).toUInt8 :: D) = (n, 0) := by
  have hv : val ((48 + m % 10).toUInt8 :: D) = n := by
    rw [val_cons, dig_at, h.eq, Nat.mod_eq_of_lt hm]
    rw [show 48 + m - 48 = m by omega]
  rw [number_digs _ _ h.digs2 (fun hD hc => ?_) (by omega), hv]
  have := congrArg UInt8.toNat hc
  rw [dig_at] at this
  have := h.pos hD
  have e : (48 : UInt8).toNat = 48 := rfl
  omega
theorem Num.len {n m : Nat} {D : List UInt8} (h : Num n m D) (hn : n ≤ 4294967295) : D.length ≤ 9 := by
  rcases Nat.lt_or_ge D.length 10 with h1 | h1
  · omega
  · have hp : 10 ^ 10 ≤ 10 ^ D.length := Nat.pow_le_pow_right (by omega) h1
    have hm := h.pos (by rintro rfl; simp at h1)
    have : 1 * 10 ^ D.length ≤ m * 10 ^ D.length := Nat.mul_le_mul_right _ hm
    have := h.eq
    omega
end K

theorem wf_u32 {n : Int} (h : (Lit.int .u32 n).wf = true) : 0 ≤ n ∧ n ≤ 4294967295 := by
  have h' : IntKind.u32.min ≤ n ∧ n ≤ IntKind.u32.max := by simpa [Lit.wf] using h
  have e1 : IntKind.u32.min = 0 := by decide
  have e2 : IntKind.u32.max = 4294967295 := by decide
  omega
theorem enc_dig (k : Nat) (D : List UInt8) : Utf8.encode (48 + (k : Int) % 10) ++ str D = str ((48 + k % 10).toUInt8 :: D) := by
  have e : (48 + (k : Int) % 10) = ((48 + k % 10 : Nat) : Int) := by omega
  rw [e]
  generalize hm : 48 + k % 10 = m
  have hlt : m < 128 := by omega
  have : Utf8.encode (m : Int) = ⟨#[m.toUInt8]⟩ := by
    have hv : Utf8.valid (m : Int) = true := by
      unfold Utf8.valid
      simp
      omega
    unfold Utf8.encode
    simp only [hv, if_true, Int.toNat_natCast]
    rw [if_pos (by omega)]
  rw [this]
  apply WideShapes.bytes_inj
  simp [str]
theorem line_eq (n : Nat) (D : List UInt8) : (⟨(repeatL [32] n).toArray⟩ ++ str D ++ ⟨#[32]⟩ : ByteArray) = str (List.replicate n 32 ++ D ++ [32]) := by
  apply WideShapes.bytes_inj
  have : repeatL [32] n = List.replicate n 32 := by
    induction n with
    | zero => rfl
    | succ n ih => rw [repeatL, ih, List.replicate_succ]; rfl
  simp [str, this]
set_option maxRecDepth 4000 in
set_option maxHeartbeats 1000000 in
theorem tokenNumbers_walk (v0 v1 : Value) (a0 a1 : Int) {w : World} (r0 : (intR .u32).val w a0 v0) (r1 : (intR .u8).val w a1 v1) : Calls Try.prog 8 #[v0, v1] w (Al (.bool true) w) := by
  obtain ⟨rfl, h0⟩ := val_int r0
  obtain ⟨rfl, h1⟩ := val_int r1
  clear r0 r1
  have b0 := wf_u32 h0
  have b1 := wf_u8 h1
  clear h0 h1
  obtain ⟨n, rfl⟩ := Int.eq_ofNat_of_zero_le b0.1
  obtain ⟨bl, rfl⟩ := Int.eq_ofNat_of_zero_le b1.1
  have hn : n ≤ 4294967295 := by omega
  have hbl : bl ≤ 255 := by omega
  clear b0 b1
  go_enter Try.func8, Try.ntmps8
  go_wp2_with (go_at_call 9; refine (awake05 _).mono ?_; rintro e w1 ⟨rfl, d1⟩)
  go_loop [5, 6] (fun t m => ∃ (k : Nat) (D : List UInt8), k ≤ 4294967295 ∧ t = .string (str D) ∧ m = .int .u32 (k : Int) ∧ K.Num n k D) (fun _ m => (intOf m).toNat)
  case atStart => exact ⟨n, [], hn, rfl, rfl, K.Num.start n⟩
  case round =>
    obtain ⟨k, D, hk, rfl, rfl, hN⟩ := hrel
    have hen := enc_dig k D
    have hlen := hN.len hn
    have hsz : (Utf8.encode (48 + (k : Int) % 10)).size + (str D).size ≤ 10 := by
      have h1 := congrArg ByteArray.size hen
      rw [ByteArray.size_append, str_size ((48 + k % 10).toUInt8 :: D), List.length_cons] at h1
      omega
    by_cases h10 : k < 10
    · skip
      have hnum := hN.done h10 hn
      have htk := K.tk_digs _ D bl hN.digs2 (by rw [hnum])
      have hval : K.val ((48 + k % 10).toUInt8 :: D) = n := by
        have := hnum
        unfold K.number at this
        split at this
        · split at this
          · simp at this
          · simp only [Prod.mk.injEq] at this; exact this.1
        · simp at this
      generalize hE : (48 + k % 10).toUInt8 :: D = E at *
      have hEl : E.length ≤ 10 := by rw [← hE]; simp; omega
      have HNUM := Lib.hid hnum
      rw [List.append_assoc] at htk
      have HTK := Lib.hid htk
      have HLE := Lib.hid (line_eq bl E)
      clear hE hnum htk hval hN
      go_wp2_with fail
      refine (Try.strings_Repeat ⟨#[32]⟩ bl _ (by omega) (by show 1 * bl ≤ _; omega)).mono ?_
      rintro e w2 ⟨rfl, d2⟩
      have hrs : ({ data := (repeatL ({ data := #[32] } : ByteArray).data.toList bl).toArray } : ByteArray).size ≤ 255 := by
        rw [show ({ data := (repeatL ({ data := #[32] } : ByteArray).data.toList bl).toArray } : ByteArray) = str (repeatL [32] bl) from rfl, str_size, repeatL_length]
        simp
        omega
      have hse : (str E).size ≤ 10 := by rw [str_size]; omega
      have hrl : (repeatL [32] bl).length ≤ 255 := by rw [repeatL_length]; simp; omega
      have hl2 : ({ data := (repeatL ({ data := #[32] } : ByteArray).data.toList bl).toArray } : ByteArray) ++ str E ++ { data := #[32] } = str (List.replicate bl 32 ++ E ++ [32]) := HLE.out
      go_wp2_with fail
      refine (Tokens_is _ _ _ HTK.out (by simp; omega)).mono ?_
      rintro e w3 ⟨v3, rfl, o3, d3⟩
      obtain ⟨A3, c3, e3, i3⟩ := ToksAt.of_own o3 (by intro t ht; rw [List.mem_singleton] at ht; subst ht; rw [str_size]; omega)
      obtain rfl : v3 = .slice A3 1 c3 := e3
      obtain ⟨b, off, rfl, hc⟩ := i3.cells (by simp)
      obtain ⟨k0, k1, _⟩ := hc 0 (by simp)
      have HK0 := Lib.hid (show w3.cell? ⟨b, off, none⟩ = some (.int .i64 2) from k0)
      have HK1 := Lib.hid (show w3.cell? ⟨b, off + 1, none⟩ = some (.string (str E)) from k1)
      clear k0 k1 hc i3 o3
      go_wp2_with fail
      refine (Number_is E n 0 _ HNUM.out (by omega)).mono ?_
      rintro e w4 ⟨rfl, d4⟩
      have k0 := d4.keepc HK0.out
      have k1 := d4.keepc HK1.out
      go_wp2_with fail
      go_ret
      exact ⟨rfl, ((d1.trans d2).trans d3).trans d4⟩
    · have hst := hN.step (by omega)
      generalize (48 + k % 10).toUInt8 :: D = E at *
      have HST := Lib.hid hst
      clear hst hN
      go_wp2_with fail
      go_round
      case rel => exact ⟨k / 10, _, by omega, rfl, rfl, HST.out⟩
      case measure => simp [intOf]; omega

end Go.Proofs.Ytaniamfonkfekaa
