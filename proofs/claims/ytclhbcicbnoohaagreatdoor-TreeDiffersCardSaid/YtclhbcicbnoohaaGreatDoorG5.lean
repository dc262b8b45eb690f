/- The texts Kec Ka LexT Kb Kc Kd of the seat, joined. -/
import Derived.Test.YtclhbcicbnoohaaGreatDoorG4
import Derived.Lib.ItoaNum
import Derived.KernelRfl
import Derived.Laws.Bits64
import Derived.Laws.Bits64b
import Derived.StillTail
import Derived.Deep.WholeRow
/- SHA3-256 in plain numbers: the rounds as both texts compute them, blocks, digests. No program in sight. -/
namespace Go.Proofs.YtclhbcicbnoohaaGreatDoor.D

abbrev Bs := List UInt8
def W64 : Nat := 18446744073709551616
def rot (w n : Nat) : Nat := (w * 2 ^ n) % W64 ||| w / 2 ^ (64 - n)
def offs : List Nat := [0, 1, 62, 28, 27, 36, 44, 6, 55, 20, 3, 10, 43, 25, 39, 41, 45, 15, 21, 8, 18, 2, 61, 56, 14]
def consts : List Nat := [0x0000000000000001, 0x0000000000008082, 0x800000000000808a, 0x8000000080008000, 0x000000000000808b, 0x0000000080000001, 0x8000000080008081, 0x8000000000008009,
  0x000000000000008a, 0x0000000000000088, 0x0000000080008009, 0x000000008000000a, 0x000000008000808b, 0x800000000000008b, 0x8000000000008089, 0x8000000000008003,
  0x8000000000008002, 0x8000000000000080, 0x000000000000800a, 0x800000008000000a, 0x8000000080008081, 0x8000000000008080, 0x0000000080000001, 0x8000000080008008]
def col (s : List Nat) (x : Nat) : Nat := s.getD x 0 ^^^ s.getD (x + 5) 0 ^^^ s.getD (x + 10) 0 ^^^ s.getD (x + 15) 0 ^^^ s.getD (x + 20) 0
def dlt (s : List Nat) (x : Nat) : Nat := col s ((x + 4) % 5) ^^^ rot (col s ((x + 1) % 5)) 1
def pv (s : List Nat) (i : Nat) : Nat := rot (s.getD i 0 ^^^ dlt s (i % 5)) (offs.getD i 0)
def pi (i : Nat) : Nat := i / 5 + 5 * ((2 * (i % 5) + 3 * (i / 5)) % 5)
def inv (j : Nat) : Nat := (3 * (j / 5) + j % 5) % 5 + 5 * (j % 5)
def moved (s : List Nat) : List Nat := (List.range 25).map fun j => pv s (inv j)
def not64 (a : Nat) : Nat := W64 - 1 - a
def chi (t : List Nat) (i : Nat) : Nat := t.getD i 0 ^^^ (not64 (t.getD (i - i % 5 + (i + 1) % 5) 0) &&& t.getD (i - i % 5 + (i + 2) % 5) 0)
def chis (t : List Nat) : List Nat := (List.range 25).map fun i => chi t i
def round (s : List Nat) (c : Nat) : List Nat := let l := chis (moved s); l.set 0 (l.getD 0 0 ^^^ c)
def perm (s : List Nat) : List Nat := consts.foldl round s

/-! ### The loops -/
/-- The sums of columns behind k words. -/
def csum (s : List Nat) : Nat → List Nat
  | 0 => List.replicate 5 0
  | k + 1 => (csum s k).set (k % 5) ((csum s k).getD (k % 5) 0 ^^^ s.getD k 0)
theorem csum_end (s : List Nat) : csum s 25 = (List.range 5).map fun x => col s x := by
  have e : csum s 25 = [0 ^^^ s.getD 0 0 ^^^ s.getD 5 0 ^^^ s.getD 10 0 ^^^ s.getD 15 0 ^^^ s.getD 20 0, 0 ^^^ s.getD 1 0 ^^^ s.getD 6 0 ^^^ s.getD 11 0 ^^^ s.getD 16 0 ^^^ s.getD 21 0,
      0 ^^^ s.getD 2 0 ^^^ s.getD 7 0 ^^^ s.getD 12 0 ^^^ s.getD 17 0 ^^^ s.getD 22 0, 0 ^^^ s.getD 3 0 ^^^ s.getD 8 0 ^^^ s.getD 13 0 ^^^ s.getD 18 0 ^^^ s.getD 23 0,
      0 ^^^ s.getD 4 0 ^^^ s.getD 9 0 ^^^ s.getD 14 0 ^^^ s.getD 19 0 ^^^ s.getD 24 0] := by kernel_rfl
  rw [e]
  simp only [Nat.zero_xor]
  rfl
/-- The moved words behind k of them. -/
def tset (s : List Nat) : Nat → List Nat
  | 0 => List.replicate 25 0
  | k + 1 => (tset s k).set (pi k) (pv s k)
theorem tset_end (s : List Nat) : tset s 25 = moved s := by kernel_rfl
/-- In the other order: m = 5 x + y. -/
def tset2 (s : List Nat) : Nat → List Nat
  | 0 => List.replicate 25 0
  | m + 1 => (tset2 s m).set (pi (m / 5 + 5 * (m % 5))) (pv s (m / 5 + 5 * (m % 5)))
theorem tset2_end (s : List Nat) : tset2 s 25 = moved s := by kernel_rfl
/-- The words behind chi, in that other order. -/
def cset (t : List Nat) : Nat → List Nat
  | 0 => List.replicate 25 0
  | m + 1 => (cset t m).set (m / 5 + 5 * (m % 5)) (chi t (m / 5 + 5 * (m % 5)))
theorem cset_end (t : List Nat) : cset t 25 = chis t := by kernel_rfl
theorem cset_length (t : List Nat) : ∀ k, (cset t k).length = 25
  | 0 => rfl
  | k + 1 => by rw [cset, List.length_set, cset_length t k]
/-- A list that is filled from the front. -/
def fillL (f : Nat → Nat) (s : List Nat) : Nat → List Nat
  | 0 => s
  | k + 1 => (fillL f s k).set k (f k)
theorem fillL_length (f : Nat → Nat) (s : List Nat) : ∀ k, (fillL f s k).length = s.length
  | 0 => rfl
  | k + 1 => by rw [fillL, List.length_set, fillL_length f s k]
theorem fillL_get (f : Nat → Nat) (s : List Nat) : ∀ (k i : Nat), i < s.length → (fillL f s k).getD i 0 = if i < k then f i else s.getD i 0
  | 0, i, _ => by simp [fillL]
  | k + 1, i, hi => by
    have ih := fillL_get f s k i hi
    have hl := fillL_length f s k
    rw [fillL]
    by_cases e : k = i
    · subst e
      rw [if_pos (by omega)]
      simp [hl, hi]
    · rw [List.getD_eq_getElem?_getD, List.getElem?_set_ne e, ← List.getD_eq_getElem?_getD, ih]
      by_cases h : i < k
      · rw [if_pos h, if_pos (by omega)]
      · rw [if_neg h, if_neg (by omega)]
theorem fillL_end (f : Nat → Nat) (s : List Nat) (n : Nat) (h : s.length = n) : fillL f s n = (List.range n).map f := by
  refine List.ext_getElem (by simp [fillL_length, h]) fun i h1 h2 => ?_
  have := fillL_get f s n i (by rw [fillL_length] at h1; exact h1)
  rw [if_pos (by rw [fillL_length] at h1; omega), List.getD_eq_getElem?_getD, List.getElem?_eq_getElem h1] at this
  simpa using this

/-! ### Sizes -/
theorem rot_lt {w n : Nat} (h : w < W64) (_hn : n ≤ 64) : rot w n < W64 := by
  unfold rot
  have e : W64 = 2 ^ 64 := rfl
  rw [e] at h ⊢
  exact Nat.or_lt_two_pow (Nat.mod_lt _ (by decide)) (Nat.lt_of_le_of_lt (Nat.div_le_self _ _) h)
def Small (s : List Nat) : Prop := ∀ a ∈ s, a < W64
theorem Small.get {s : List Nat} (h : Small s) (i : Nat) : s.getD i 0 < W64 := by
  rw [List.getD_eq_getElem?_getD]
  cases hi : s[i]? with
  | none => exact show 0 < W64 by decide
  | some a => exact h a (List.mem_of_getElem? hi)
theorem xor_lt {a b : Nat} (ha : a < W64) (hb : b < W64) : a ^^^ b < W64 := by
  have e : W64 = 2 ^ 64 := rfl
  rw [e] at *
  exact Nat.xor_lt_two_pow ha hb
theorem and_lt {a b : Nat} (hb : b < W64) : a &&& b < W64 := Nat.lt_of_le_of_lt Nat.and_le_right hb
theorem not_lt64 (a : Nat) : not64 a < W64 := by unfold not64 W64; omega
theorem col_lt {s : List Nat} (h : Small s) (x : Nat) : col s x < W64 := xor_lt (xor_lt (xor_lt (xor_lt (h.get _) (h.get _)) (h.get _)) (h.get _)) (h.get _)
theorem offs_le (i : Nat) : offs.getD i 0 ≤ 64 := by
  have h : ∀ a ∈ offs, a ≤ 64 := by decide
  rw [List.getD_eq_getElem?_getD]
  cases hi : offs[i]? with
  | none => exact Nat.zero_le _
  | some a => exact h a (List.mem_of_getElem? hi)
theorem dlt_lt {s : List Nat} (h : Small s) (x : Nat) : dlt s x < W64 := xor_lt (col_lt h _) (rot_lt (col_lt h _) (by decide))
theorem pv_lt {s : List Nat} (h : Small s) (i : Nat) : pv s i < W64 := rot_lt (xor_lt (h.get _) (dlt_lt h _)) (offs_le i)
theorem chi_lt {t : List Nat} (h : Small t) (i : Nat) : chi t i < W64 := xor_lt (h.get _) (and_lt (h.get _))
theorem Small.set {s : List Nat} (h : Small s) (i : Nat) {a : Nat} (ha : a < W64) : Small (s.set i a) := fun b hb => by
  rcases List.mem_or_eq_of_mem_set hb with h1 | h1
  · exact h b h1
  · rw [h1]; exact ha
theorem small_zero (n : Nat) : Small (List.replicate n 0) := fun a ha => by rw [(List.mem_replicate.1 ha).2]; decide
theorem csum_small {s : List Nat} (h : Small s) : ∀ k, Small (csum s k)
  | 0 => small_zero 5
  | k + 1 => (csum_small h k).set _ (xor_lt ((csum_small h k).get _) (h.get _))
theorem csum_length (s : List Nat) : ∀ k, (csum s k).length = 5
  | 0 => rfl
  | k + 1 => by rw [csum, List.length_set, csum_length s k]
theorem tset_small {s : List Nat} (h : Small s) : ∀ k, Small (tset s k)
  | 0 => small_zero 25
  | k + 1 => (tset_small h k).set _ (pv_lt h k)
theorem tset_length (s : List Nat) : ∀ k, (tset s k).length = 25
  | 0 => rfl
  | k + 1 => by rw [tset, List.length_set, tset_length s k]
theorem tset2_small {s : List Nat} (h : Small s) : ∀ k, Small (tset2 s k)
  | 0 => small_zero 25
  | k + 1 => (tset2_small h k).set _ (pv_lt h _)
theorem tset2_length (s : List Nat) : ∀ k, (tset2 s k).length = 25
  | 0 => rfl
  | k + 1 => by rw [tset2, List.length_set, tset2_length s k]
theorem fillL_small {f : Nat → Nat} {s : List Nat} (h : Small s) (hf : ∀ i, f i < W64) : ∀ k, Small (fillL f s k)
  | 0 => h
  | k + 1 => (fillL_small h hf k).set _ (hf k)
theorem moved_length (s : List Nat) : (moved s).length = 25 := by simp [moved]
theorem moved_small {s : List Nat} (h : Small s) : Small (moved s) := by rw [← tset_end]; exact tset_small h 25
theorem chis_length (t : List Nat) : (chis t).length = 25 := by simp [chis]
theorem chis_small {t : List Nat} (h : Small t) : Small (chis t) := fun a ha => by
  obtain ⟨i, _, rfl⟩ := List.mem_map.1 ha
  exact chi_lt h i
theorem round_length (s : List Nat) (c : Nat) : (round s c).length = 25 := by simp [round, chis_length]
theorem round_small {s : List Nat} (h : Small s) {c : Nat} (hc : c < W64) : Small (round s c) := (chis_small (moved_small h)).set _ (xor_lt ((chis_small (moved_small h)).get _) hc)
/-- The state behind k rounds. -/
def permK (s : List Nat) (k : Nat) : List Nat := (consts.take k).foldl round s
theorem permK_succ (s : List Nat) {k : Nat} (h : k < 24) : permK s (k + 1) = round (permK s k) (consts.getD k 0) := by
  have hl : k < consts.length := h
  unfold permK
  rw [List.take_succ_eq_append_getElem hl, List.foldl_append, List.getD_eq_getElem?_getD, List.getElem?_eq_getElem hl]
  rfl
theorem permK_end (s : List Nat) : permK s 24 = perm s := rfl
theorem consts_lt (k : Nat) : consts.getD k 0 < W64 := Small.get (s := consts) (by unfold Small; decide) k
theorem permK_small {s : List Nat} (h : Small s) : ∀ k, k ≤ 24 → Small (permK s k)
  | 0, _ => h
  | k + 1, hk => by rw [permK_succ s (by omega)]; exact round_small (permK_small h k (by omega)) (consts_lt k)
theorem permK_length {s : List Nat} (h : s.length = 25) : ∀ k, k ≤ 24 → (permK s k).length = 25
  | 0, _ => h
  | k + 1, hk => by rw [permK_succ s (by omega), round_length]
theorem perm_small {s : List Nat} (h : Small s) : Small (perm s) := permK_small h 24 (by decide)
theorem perm_length {s : List Nat} (h : s.length = 25) : (perm s).length = 25 := permK_length h 24 (by decide)

/-! ### Blocks -/
/-- A block's first k bytes are taken in. -/
def mixK (s : List Nat) (b : Bs) : Nat → List Nat
  | 0 => s
  | k + 1 => (mixK s b k).set (k / 8) ((mixK s b k).getD (k / 8) 0 ^^^ ((b.getD k 0).toNat * 2 ^ (8 * (k % 8))) % W64)
theorem mixK_length (s : List Nat) (b : Bs) : ∀ k, (mixK s b k).length = s.length
  | 0 => rfl
  | k + 1 => by rw [mixK, List.length_set, mixK_length s b k]
theorem mixK_small {s : List Nat} (h : Small s) (b : Bs) : ∀ k, Small (mixK s b k)
  | 0 => h
  | k + 1 => (mixK_small h b k).set _ (xor_lt ((mixK_small h b k).get _) (Nat.mod_lt _ (by decide)))
def take1 (s : List Nat) (b : Bs) : List Nat := perm (mixK s b 136)
theorem take1_length {s : List Nat} (h : s.length = 25) (b : Bs) : (take1 s b).length = 25 := perm_length ((mixK_length s b 136).trans h)
theorem take1_small {s : List Nat} (h : Small s) (b : Bs) : Small (take1 s b) := perm_small (mixK_small h b 136)
theorem mixK_congr (s : List Nat) {a b : Bs} : ∀ k, (∀ i, i < k → a.getD i 0 = b.getD i 0) → mixK s a k = mixK s b k
  | 0, _ => rfl
  | k + 1, h => by rw [mixK, mixK, mixK_congr s k fun i hi => h i (by omega), h k (by omega)]
/-- n blocks are taken in. -/
def takeN (s : List Nat) : Nat → Bs → List Nat
  | 0, _ => s
  | n + 1, b => takeN (take1 s (b.take 136)) n (b.drop 136)
def outB (s : List Nat) : Bs := (List.range 32).map fun i => UInt8.ofNat (s.getD (i / 8) 0 / 2 ^ (8 * (i % 8)) % 256)
/-- The last block: what is left, a 6, zeros, and 128 on the last byte. -/
def lastB (r : Bs) : Bs := (r ++ 6 :: List.replicate (135 - r.length) 0).set 135 (((r ++ 6 :: List.replicate (135 - r.length) 0).getD 135 0) ||| 128)
def sha (m : Bs) : Bs := outB (take1 (takeN (List.replicate 25 0) (m.length / 136) m) (lastB (m.drop (m.length / 136 * 136))))
theorem outB_length (s : List Nat) : (outB s).length = 32 := by simp [outB]
theorem sha_length (m : Bs) : (sha m).length = 32 := outB_length _

/-! ### Computed by the kernel -/
def seqN {α : Type} (n : Nat) (k : Nat → α) : α := Nat.rec (k 0) (fun m _ => k (m + 1)) n
theorem seqN_eq {α : Type} (n : Nat) (k : Nat → α) : seqN n k = k n := by cases n <;> rfl
def force {α : Type} : List Nat → (List Nat → α) → α
  | [], k => k []
  | a :: l, k => seqN a fun a' => force l fun l' => k (a' :: l')
theorem force_eq {α : Type} : ∀ (l : List Nat) (k : List Nat → α), force l k = k l
  | [], k => rfl
  | a :: l, k => by rw [force, seqN_eq, force_eq l]
def roundF {α : Type} (s : List Nat) (c : Nat) (k : List Nat → α) : α := force (moved s) fun t => force (chis t) fun l => force (l.set 0 (l.getD 0 0 ^^^ c)) k
theorem roundF_eq {α : Type} (s : List Nat) (c : Nat) (k : List Nat → α) : roundF s c k = k (round s c) := by
  unfold roundF round
  rw [force_eq, force_eq, force_eq]
def permF {α : Type} : List Nat → List Nat → (List Nat → α) → α
  | [], s, k => k s
  | c :: cs, s, k => roundF s c fun s' => permF cs s' k
theorem permF_eq {α : Type} : ∀ (cs s : List Nat) (k : List Nat → α), permF cs s k = k (cs.foldl round s)
  | [], _, _ => rfl
  | c :: cs, s, k => by rw [permF, roundF_eq, permF_eq cs]; rfl
def mixF {α : Type} (b : Bs) : Nat → Nat → List Nat → (List Nat → α) → α
  | 0, _, s, k => k s
  | n + 1, i, s, k => force (s.set (i / 8) (s.getD (i / 8) 0 ^^^ ((b.getD i 0).toNat * 2 ^ (8 * (i % 8))) % W64)) fun s' => mixF b n (i + 1) s' k
theorem mixF_eq {α : Type} (s : List Nat) (b : Bs) (k : List Nat → α) : ∀ n i, mixF b n i (mixK s b i) k = k (mixK s b (i + n))
  | 0, _ => rfl
  | n + 1, i => by
    rw [mixF, force_eq]
    have := mixF_eq s b k n (i + 1)
    rw [mixK] at this
    rw [this, show i + 1 + n = i + (n + 1) by omega]
def takeF {α : Type} (s : List Nat) (b : Bs) (k : List Nat → α) : α := mixF b 136 0 s fun s' => permF consts s' k
theorem takeF_eq {α : Type} (s : List Nat) (b : Bs) (k : List Nat → α) : takeF s b k = k (take1 s b) := by
  have := mixF_eq s b (fun s' => permF consts s' k) 136 0
  unfold takeF
  rw [show mixK s b 0 = s from rfl] at this
  rw [this, permF_eq]
  rfl
/-- The digest of less than a block. -/
def shaF (m : Bs) : Bs := takeF (List.replicate 25 0) (lastB m) outB
theorem shaF_eq {m : Bs} (h : m.length < 136) : shaF m = sha m := by
  unfold shaF sha
  rw [takeF_eq, Nat.div_eq_of_lt h]
  rfl

end Go.Proofs.YtclhbcicbnoohaaGreatDoor.D

/- Rotations: bits.RotateLeft64 and the reference's Rot. -/
namespace Go.Proofs.YtclhbcicbnoohaaGreatDoor
open Go.RowKit
set_option linter.unusedVariables false
theorem and63 {n : Nat} (hn : n ≤ 63) : bits .and .u64 (n : Int) 63 = (n : Int) := by
  have := bits_and_u64_nat n 63 (by omega) (by omega)
  rw [show ((63 : Nat) : Int) = 63 from rfl] at this
  rw [this, Nat.and_two_pow_sub_one_eq_mod n 6, Nat.mod_eq_of_lt (by omega)]
theorem rot_val {a n : Nat} (ha : a < 18446744073709551616) (hn : n ≤ 64) : bits .or .u64 (IntKind.u64.wrap ((a : Int) * 2 ^ n)) ((a : Int) / 2 ^ (64 - n)) = ((D.rot a n : Nat) : Int) := by
  have e1 : IntKind.u64.wrap ((a : Int) * 2 ^ n) = ((a * 2 ^ n % D.W64 : Nat) : Int) := by
    rw [IntKind.wrap_u64]
    rfl
  have e2 : (a : Int) / 2 ^ (64 - n) = ((a / 2 ^ (64 - n) : Nat) : Int) := rfl
  rw [e1, e2]
  exact bits_or_u64_nat (a * 2 ^ n % D.W64) (a / 2 ^ (64 - n)) (show _ < D.W64 from Nat.mod_lt _ (by decide)) (Nat.lt_of_le_of_lt (Nat.div_le_self _ _) ha)
theorem Rotl_any (a n : Nat) (w : World) (ha : a < 18446744073709551616) (hn : n ≤ 63) : Calls Tryz.prog 164 #[.int .u64 (a : Int), .int .i64 (n : Int)] w fun e w' => e = .returned (.int .u64 ((D.rot a n : Nat) : Int)) ∧ w = w' := by
  have HV := Lib.hid (rot_val ha (show n ≤ 64 by omega))
  have h63 := and63 hn
  go_enter Tryz.func164, Tryz.ntmps164
  go_wp2_with fail
  go_ret
  exact ⟨ret_int HV.out, rfl⟩
theorem Rot_any (a n : Nat) (w : World) (ha : a < 18446744073709551616) (hn : n ≤ 63) : Calls Tryz.prog 147 #[.int .u64 (a : Int), .int .i64 (n : Int)] w fun e w' => e = .returned (.int .u64 ((D.rot a n : Nat) : Int)) ∧ w = w' := by
  have HV := Lib.hid (rot_val ha (show n ≤ 64 by omega))
  go_enter Tryz.func147, Tryz.ntmps147
  go_wp2_with fail
  go_ret
  exact ⟨ret_int HV.out, rfl⟩
theorem Rot_one (a : Nat) (w : World) (ha : a < 18446744073709551616) : Calls Tryz.prog 147 #[.int .u64 (a : Int), .int .i64 1] w fun e w' => e = .returned (.int .u64 ((D.rot a 1 : Nat) : Int)) ∧ w = w' := Rot_any a 1 w ha (by decide)
end Go.Proofs.YtclhbcicbnoohaaGreatDoor

/- A region that draws its order and ends in operations whose order is forced: the head walked once in the text's order, then the tail. For any program. -/
namespace Go.Proofs.YtclhbcicbnoohaaGreatDoor
open Go.RowKit

section
variable {P : Program} {ops : Array Oper} {md : Region.Mode} {C : World → Prop} {E : List Nat}

def wpAnyT (P : Program) (md : Region.Mode) (ops : Array Oper) (C : World → Prop) (E : List Nat) (n : Nat) (L : Array Bool → Act → World → Prop) : Nat → Array Bool → Act → World → Prop
  | 0, listed, a, w => L listed a w
  | fuel + 1, listed, a, w =>
    Region.ready md ops listed ≠ [] ∧ ∀ i ∈ Region.ready md ops listed, i < n ∧ xOp P ops C E i (wpAnyT P md ops C E n L fuel (listed.setIfInBounds i true)) a w

theorem T_first {n i : Nat} {oi : Oper} {L : Array Bool → Act → World → Prop} (hi : ops[i]? = some oi) (hsel : ∀ (j : Nat) (o : Oper) cs b, ops[j]? = some o → o.op ≠ .select cs b)
    (hs : Region.sinkB md ops n = true) (hc : Region.chainB md ops n = true) (hn : n < ops.size) (hin : i < n)
    (hdone : ∀ listed a w, L listed a w → ∀ j ∈ Region.ready md ops listed, n ≤ j) :
    ∀ (fuel : Nat) (listed : Array Bool) (a : Act) (w : World), C w → HeadInv md ops n listed →
      (∀ j oj, ops[j]? = some oj → j ≠ i → listed.getD j true = false → (∀ e ∈ oj.after, Region.binds md e = true → e.on ≠ i) → oi.apart ops oj = true) →
      (i ∈ E → ∀ j, j ∈ E → j ≠ i → listed.getD j true = false → j ∈ waiters md ops i ops.size) →
      i ∈ Region.ready md ops listed → xOp P ops C E i (wpAnyT P md ops C E n L fuel (listed.setIfInBounds i true)) a w → wpAnyT P md ops C E n L (fuel + 1) listed a w := by
  intro fuel
  induction fuel with
  | zero =>
    intro listed a w _ inv _ _ hr H
    have hun := (mem_ready.1 hr).1
    refine ⟨fun h => (by rw [h] at hr; cases hr), fun j hj => ?_⟩
    have hjn : j < n := by
      rcases Nat.lt_or_ge j n with h | h
      · exact h
      · exact absurd hj (tail_waits hs hc hn inv _ i rfl hin hun j h)
    refine ⟨hjn, ?_⟩
    by_cases hji : j = i
    · subst hji; exact H
    · obtain ⟨a', w', h0⟩ := xOp_some H
      have := hdone _ _ _ h0 j (ready_mono hj hji)
      omega
  | succ fuel ih =>
    intro listed a w hC inv hfree heff hr H
    have hun := (mem_ready.1 hr).1
    refine ⟨fun h => (by rw [h] at hr; cases hr), fun j hj => ?_⟩
    have hjn : j < n := by
      rcases Nat.lt_or_ge j n with h | h
      · exact h
      · exact absurd hj (tail_waits hs hc hn inv _ i rfl hin hun j h)
    refine ⟨hjn, ?_⟩
    by_cases hji : j = i
    · subst hji; exact H
    · obtain ⟨hjun, oj, hoj, hall⟩ := mem_ready.1 hj
      have hif : listed.getD i false = false := getD_both hun
      have hnot : ∀ e ∈ oj.after, Region.binds md e = true → e.on ≠ i := fun e he hb heq => by
        have h1 := hall e he hb
        rw [heq, hif] at h1
        cases h1
      have hE : ¬ (i ∈ E ∧ j ∈ E) := fun ⟨h1, h2⟩ => by
        have := waiters_spec inv.closed _ j oj hoj (heff h1 j h2 hji hjun) hall
        rw [hif] at this
        cases this
      have h1 : xOp P ops C E i (fun a1 w1 => xOp P ops C E j (wpAnyT P md ops C E n L fuel ((listed.setIfInBounds i true).setIfInBounds j true)) a1 w1) a w :=
        xOp_mono hC (fun a1 w1 _ h => (h.2 j (ready_mono hj hji)).2) H
      have h2 := xOp_swap hi hoj (hfree j oj hoj hji hjun hnot) (fun cs b => hsel i oi cs b hi) (fun cs b => hsel j oj cs b hoj) hE hC h1
      refine xOp_mono hC (fun a1 w1 hC1 h3 => ih (listed.setIfInBounds j true) a1 w1 hC1 (inv.set hj hjn) ?_ ?_ (ready_mono hr (Ne.symm hji)) ?_) h2
      · intro k ok hk hki hun' hno
        refine hfree k ok hk hki ?_ hno
        by_cases hjk : j = k
        · subst hjk; exact hjun
        · rw [getD_set_ne true hjk] at hun'; exact hun'
      · intro h1 k hk hki hun'
        refine heff h1 k hk hki ?_
        by_cases hjk : j = k
        · subst hjk; exact hjun
        · rw [getD_set_ne true hjk] at hun'; exact hun'
      · rw [Array.setIfInBounds_comm _ _ hji]
        exact h3

theorem wpAnyT_lex {n g : Nat} {R : Act → World → Prop} (hsel : Region.noSelect ops = true) (hE : effOk md ops E = true) (hs : Region.sinkB md ops n = true) (hc : Region.chainB md ops n = true) (hn : n < ops.size) :
    ∀ (l : List Oper) (k : Nat) (listed : Array Bool) (a : Act) (w : World), C w → (∀ j, j < k → listed.getD j true = true) → (∀ j, j < l.length → l[j]? = ops[k + j]?) → k + l.length = n → HeadInv md ops n listed →
    Region.lexHead md ops g l.length k listed = true → wpLex P ops C E R k l a w →
    wpAnyT P md ops C E n (fun listed' a' w' => Region.seqB md ops g n listed' = true ∧ R a' w') l.length listed a w
  | [], k, listed, a, w, _, _, _, hk, _, hB, h => by
    have : k = n := by simpa using hk
    subst this
    exact ⟨by simpa [Region.lexHead] using hB, h⟩
  | o :: l, k, listed, a, w, hC, hlt, hl, hk, inv, hB, h => by
    have h0 : ops[k]? = some o := by simpa using (hl 0 (by simp)).symm
    simp only [List.length_cons, Region.lexHead, Bool.and_eq_true] at hB
    obtain ⟨⟨hr, hf⟩, hB'⟩ := hB
    have hkn : k < n := by simp only [List.length_cons] at hk; omega
    have hr' : k ∈ Region.ready md ops listed := by simpa using hr
    refine T_first h0 (Region.noSelect_spec hsel) hs hc hn hkn (fun listed' a' w' hL => seqB_ready hL.1) l.length listed a w hC inv (Region.free_spec h0 hf) ?_ hr' ?_
    · intro hk j hj hjk hun
      have h1 := List.all_eq_true.1 (List.all_eq_true.1 hE k hk) j hj
      simp only [Bool.or_eq_true, decide_eq_true_eq, List.contains_iff_mem] at h1
      rcases h1 with h1 | h1
      · rw [hlt j (by omega)] at hun; cases hun
      · exact h1
    · have hx : xOp P ops C E k (wpLex P ops C E R (k + 1) l) a w := by unfold xOp; simp only [h0]; exact h
      refine xOp_mono hC (fun a1 w1 hC1 h1 => wpAnyT_lex hsel hE hs hc hn l (k + 1) _ a1 w1 hC1 ?_ (fun j hj => by have := hl (j + 1) (by simp; omega); simpa [Nat.add_assoc, Nat.add_comm 1 j] using this) (by simp only [List.length_cons] at hk; omega) (inv.set hr' hkn) hB' h1) hx
      intro j hj
      by_cases hjk : k = j
      · subst hjk
        rcases Nat.lt_or_ge k listed.size with h' | h'
        · simp [h']
        · simp
      · rw [getD_set_ne true hjk]; exact hlt j (by omega)

theorem wpAny_of_T {n g : Nat} {L : Array Bool → Act → World → Prop} {Q : Exit → Act → World → Prop} (hL : ∀ listed a w, L listed a w → wpAny P md ops Q g listed a w) :
    ∀ (f : Nat) (listed : Array Bool) (a : Act) (w : World), C w → wpAnyT P md ops C E n L f listed a w → wpAny P md ops Q (f + g) listed a w
  | 0, listed, a, w, _, h => by rw [Nat.zero_add]; exact hL _ _ _ h
  | f + 1, listed, a, w, hC, h => by
    rw [show f + 1 + g = (f + g) + 1 by omega]
    refine ⟨fun h0 => absurd h0 h.1, fun i hi => ?_⟩
    have hx := (h.2 i hi).2
    unfold xOp at hx
    unfold wpOp
    split
    · rename_i ho; simp only [ho] at hx; exact wpAny_of_T hL f _ _ _ hC hx
    · rename_i o ho
      simp only [ho] at hx
      split
      · rename_i hw
        simp only [hw, if_true] at hx
        left
        split at hx
        · exact wp_exits (Oper.wp_mono (fun a' w' ⟨h1, h2⟩ => wpAny_of_T hL f _ a' w' h1 h2) hx)
        · obtain ⟨v, hv, hx⟩ := hx
          have hv := hv _ hC
          unfold pureAt at hv
          unfold Oper.wp
          generalize (execOp _ o).run P _ = r at hv ⊢
          cases r with
          | ok n w' =>
            cases n <;> simp only [pureUpon] at hv <;> simp only [Oper.upon]
            case value u => obtain ⟨rfl, rfl⟩ := hv; exact wpAny_of_T hL f _ _ _ hC hx
            case skip => obtain ⟨rfl, rfl⟩ := hv; exact wpAny_of_T hL f _ _ _ hC hx
          | halt _ _ => simp only [pureUpon] at hv
      · rename_i hw
        simp only [hw] at hx
        exact wpAny_of_T hL f _ _ _ hC hx

theorem wp_region_tail {id : Nat} {Q : Exit → Act → World → Prop} {a : Act} {w : World} {l : List Oper} (n : Nat) (E : List Nat) (Φ : World → Prop) (h0 : Φ w.drew) (hm : P.follows .mixedOrders = true) (hB : Region.lexTailB .any l.toArray n = true) (hE : effOk .any l.toArray E = true)
    (h : wpLex P l.toArray (fun w' => ∃ x : Lat Φ, w' = x.w') E (fun a' w' => wpList P l.toArray Q (l.drop n) a' w') 0 (l.take n) a w.drew) : (Code.region id l.toArray true).wp P Q a w := by
  have hC : (fun w' => ∃ x : Lat Φ, w' = x.w') w.drew := ⟨⟨w.drew, h0⟩, rfl⟩
  simp only [Region.lexTailB, Bool.and_eq_true, decide_eq_true_eq] at hB
  obtain ⟨⟨⟨⟨hsel, hn⟩, hs⟩, hc⟩, hlex⟩ := hB
  have hn' : n < l.length := by simpa using hn
  have htl : (l.take n).length = n := by simp; omega
  have hdl : (l.drop n).length = l.toArray.size - n := by simp
  have inv0 : HeadInv .any l.toArray n (Array.replicate l.toArray.size false) :=
    ⟨by simp, fun j oj _ hl => (by rw [getD_replicate_false] at hl; cases hl), fun t _ ht => getD_in (by simpa using ht) (getD_replicate_false _ _)⟩
  have H := wpAnyT_lex (P := P) (md := .any) (g := l.toArray.size - n) hsel hE hs hc hn (l.take n) 0 _ a w.drew hC (fun j hj => absurd hj (Nat.not_lt_zero _)) (fun j hj => by
    have hj' : j < n := by rw [htl] at hj; exact hj
    simp [hj']) (by simpa using htl) inv0 (by rw [htl]; exact hlex) h
  refine wp_region_any hm ?_
  have := wpAny_of_T (Q := Q) (g := l.toArray.size - n) (fun listed a' w' hL => by
    have := wpAny_of_seq (md := .any) (Q' := Q) (l.drop n) n listed a' w' (fun j => by simp [List.getElem?_drop]) (by rw [hdl]; exact hL.1) hL.2
    rwa [hdl] at this) _ _ _ _ hC H
  rw [htl, show n + (l.toArray.size - n) = l.toArray.size by omega] at this
  exact this
end

end Go.Proofs.YtclhbcicbnoohaaGreatDoor

/- A round of SHA3-256: digest.round. -/
namespace Go.Proofs.YtclhbcicbnoohaaGreatDoor
open Go.RowKit

/-- Words as cells. -/
def rowU (s : List Nat) : Array Value := (s.map fun a => Value.int .u64 ((a : Nat) : Int)).toArray
def offV : Array Value := (D.offs.map fun a => Value.int .i64 ((a : Nat) : Int)).toArray
theorem rowU_size (s : List Nat) : (rowU s).size = s.length := by simp [rowU]
theorem rowU_get (s : List Nat) (i : Nat) (h : i < s.length) : (rowU s)[i]? = some (.int .u64 ((s.getD i 0 : Nat) : Int)) := by
  unfold rowU
  simp [h]
theorem rowU_set (s : List Nat) (i a : Nat) : (rowU s).set! i (.int .u64 ((a : Nat) : Int)) = rowU (s.set i a) := by
  unfold rowU
  apply Array.ext'
  simp [List.map_set]
theorem rowU_one (s : List Nat) : (rowU s).all (·.oneCell') = true := by
  rw [Array.all_eq_true_iff_forall_mem]
  intro v hv
  unfold rowU at hv
  simp at hv
  obtain ⟨a, _, rfl⟩ := hv
  rfl
theorem offV_get (i : Nat) (h : i < 25) : offV[i]? = some (.int .i64 ((D.offs.getD i 0 : Nat) : Int)) := by
  have hl : D.offs.length = 25 := rfl
  unfold offV
  simp [hl, h]
/-- The block g holds these words. -/
def ArrAt (w : World) (g : Nat) (t : TypeId) (s : List Nat) : Prop := w.heap[g]? = some (.cells (rowU s) t (0, 0))
section
variable {w w' : World} {g : Nat} {t : TypeId} {s : List Nat}
theorem ArrAt.lt (h : ArrAt w g t s) : g < w.heap.size := (Array.getElem?_eq_some_iff.1 h).1
theorem ArrAt.ext (h : ArrAt w g t s) (he : Ext w w') : ArrAt w' g t s := (he.block g h.lt).trans h
theorem ArrAt.cell (h : ArrAt w g t s) {i : Nat} (hi : i < s.length) : w.cell? ⟨g, i, none⟩ = some (.int .u64 ((s.getD i 0 : Nat) : Int)) := by
  rw [cell_of_row w g i _ t _ h, rowU_get s i hi]
theorem ArrAt.frozen (h : ArrAt w g t s) (i : Nat) : w.frozen? ⟨g, i, none⟩ = false := Lib.frozen_of_heap h i
theorem ArrAt.set (h : ArrAt w g t s) (i a : Nat) : ArrAt (w.setCell ⟨g, i, none⟩ (.int .u64 ((a : Nat) : Int))) g t (s.set i a) := by
  unfold ArrAt
  rw [heap_setCell_same w g i _ t _ h, ← rowU_set]
  simp
theorem ArrAt.other (h : ArrAt w g t s) {k : Nat} (hk : g ≠ k) (i : Nat) (v : Value) : ArrAt (w.setCell ⟨k, i, none⟩ v) g t s := (heap_setCell_other w _ g v hk).trans h
end
theorem xor_val {a b : Nat} (ha : a < 18446744073709551616) (hb : b < 18446744073709551616) : bits .xor .u64 (a : Int) (b : Int) = ((a ^^^ b : Nat) : Int) := bits_xor_u64_nat a b ha hb

theorem heap_old4 (w : World) (o1 o2 o3 o4 : Obj) : ((((w.alloc o1).alloc o2).alloc o3).alloc o4).heap[w.heap.size]? = some o1 := by
  rw [heap_alloc_old _ _ (by simp; omega), heap_alloc_old _ _ (by simp; omega), heap_alloc_old _ _ (by simp), heap_alloc_new]
theorem heap_old4b (w : World) (o1 o2 o3 o4 : Obj) : ((((w.alloc o1).alloc o2).alloc o3).alloc o4).heap[w.heap.size + 1]? = some o2 := by
  rw [heap_alloc_old _ _ (by simp), heap_alloc_old _ _ (by simp)]
  have := heap_alloc_new (w.alloc o1) o2
  simpa using this
theorem heap_old4c (w : World) (o1 o2 o3 o4 : Obj) : ((((w.alloc o1).alloc o2).alloc o3).alloc o4).heap[w.heap.size + 2]? = some o3 := by
  rw [heap_alloc_old _ _ (by simp)]
  have := heap_alloc_new ((w.alloc o1).alloc o2) o3
  simpa using this
theorem heap_old4d (w : World) (o1 o2 o3 o4 : Obj) : ((((w.alloc o1).alloc o2).alloc o3).alloc o4).heap[w.heap.size + 3]? = some o4 := by
  have := heap_alloc_new (((w.alloc o1).alloc o2).alloc o3) o4
  simpa using this
theorem info121 {s : List Nat} (h : s.length = 25) : (Tryz.prog.info? 121).map (·.size) = some (rowU s).size := by rw [rowU_size, h]; kernel_rfl
/-- The blocks of a round: the state, the offsets, the result, the sums. -/
def RS (w wr : World) (s c : List Nat) : Prop :=
  Ext w wr ∧ ArrAt wr w.heap.size 121 s ∧ wr.heap[w.heap.size + 1]? = some (.cells offV 163 (0, 0)) ∧ ArrAt wr (w.heap.size + 2) 121 (List.replicate 25 0) ∧ ArrAt wr (w.heap.size + 3) 152 c ∧ w.heap.size + 4 ≤ wr.heap.size
theorem RS.setC {w wr : World} {s c : List Nat} (h : RS w wr s c) (i a : Nat) : RS w (wr.setCell ⟨w.heap.size + 3, i, none⟩ (.int .u64 ((a : Nat) : Int))) s (c.set i a) := by
  obtain ⟨h1, h2, h3, h4, h5, h6⟩ := h
  exact ⟨h1.setCell (by simp) _, h2.other (by omega) _ _, (heap_setCell_other _ _ _ _ (by simp)).trans h3, h4.other (by omega) _ _, h5.set i a, by simpa using h6⟩
theorem RS.drewN {w wr : World} {s c : List Nat} (h : RS w wr s c) (n : Nat) : RS w (wr.drewN n) s c := ⟨h.1.drewN n, h.2⟩
/-- .. and the moved words, in the block that came last. -/
def RT (w wr : World) (s c t : List Nat) : Prop := RS w wr s c ∧ ArrAt wr (w.heap.size + 4) 121 t ∧ wr.heap.size = w.heap.size + 5
theorem RS.alloc {w wr : World} {s c : List Nat} (h : RS w wr s c ∧ wr.heap.size = w.heap.size + 4) : RT w (wr.alloc (.cells (rowU (List.replicate 25 0)) 121)) s c (List.replicate 25 0) := by
  obtain ⟨⟨h1, h2, h3, h4, h5, h6⟩, h7⟩ := h
  have e : Ext wr (wr.alloc (.cells (rowU (List.replicate 25 0)) 121)) := (Ext.refl wr).alloc _
  refine ⟨⟨h1.trans e, h2.ext e, (e.block _ (by omega)).trans h3, h4.ext e, h5.ext e, by simp; omega⟩, ?_, by simp; omega⟩
  have := heap_alloc_new wr (.cells (rowU (List.replicate 25 0)) 121)
  rw [h7] at this
  exact this
theorem RT.setT {w wr : World} {s c t : List Nat} (h : RT w wr s c t) (i a : Nat) : RT w (wr.setCell ⟨w.heap.size + 4, i, none⟩ (.int .u64 ((a : Nat) : Int))) s c (t.set i a) := by
  obtain ⟨⟨h1, h2, h3, h4, h5, h6⟩, h7, h8⟩ := h
  exact ⟨⟨h1.setCell (by simp) _, h2.other (by omega) _ _, (heap_setCell_other _ _ _ _ (by simp)).trans h3, h4.other (by omega) _ _, h5.other (by omega) _ _, by simpa using h6⟩, h7.set i a, by simpa using h8⟩
theorem RT.drewN {w wr : World} {s c t : List Nat} (h : RT w wr s c t) (n : Nat) : RT w (wr.drewN n) s c t := ⟨h.1.drewN n, h.2⟩
theorem RT.setS {w wr : World} {s c t : List Nat} (h : RT w wr s c t) (i a : Nat) : RT w (wr.setCell ⟨w.heap.size, i, none⟩ (.int .u64 ((a : Nat) : Int))) (s.set i a) c t := by
  obtain ⟨⟨h1, h2, h3, h4, h5, h6⟩, h7, h8⟩ := h
  exact ⟨⟨h1.setCell (by simp) _, h2.set i a, (heap_setCell_other _ _ _ _ (by simp)).trans h3, h4.other (by omega) _ _, h5.other (by omega) _ _, by simpa using h6⟩, h7.other (by omega) _ _, by simpa using h8⟩
theorem RT.drew' {w wr : World} {s c t : List Nat} (h : RT w wr s c t) : RT w wr.drew s c t := ⟨⟨h.1.1.drew, h.1.2⟩, h.2⟩
theorem not_val {a : Nat} (ha : a < 18446744073709551616) : bits .xor .u64 (if IntKind.u64.signed = true then -1 else IntKind.u64.max) (a : Int) = ((D.not64 a : Nat) : Int) := by
  have e1 : (if IntKind.u64.signed = true then (-1 : Int) else IntKind.u64.max) = ((18446744073709551615 : Nat) : Int) := by decide
  have e2 : D.not64 a = 18446744073709551615 ^^^ a := by
    have h := congrArg BitVec.toNat (BitVec.xor_allOnes (x := BitVec.ofNat 64 a))
    rw [BitVec.toNat_xor, BitVec.toNat_not, BitVec.toNat_ofNat, BitVec.toNat_allOnes, Nat.mod_eq_of_lt (show a < 2 ^ 64 from ha)] at h
    rw [Nat.xor_comm]
    exact h.symm
  rw [e1, xor_val (by decide) ha, e2]
theorem heap_setRow (w : World) (g : Nat) (cs : Array Value) {old : Array Value} {t : TypeId} {fr : Nat × Nat} (h : w.heap[g]? = some (.cells old t fr)) : (w.setRow g cs).heap[g]? = some (.cells cs t fr) := by
  simp only [World.setRow]
  rw [Array.getElem?_modify, if_pos rfl, h]
  rfl
theorem heap_setRow_other (w : World) (g k : Nat) (cs : Array Value) (h : g ≠ k) : (w.setRow g cs).heap[k]? = w.heap[k]? := by
  simp only [World.setRow]
  rw [Array.getElem?_modify, if_neg h]
theorem Ext.setRow {a b : World} (h : Ext a b) {g : Nat} (hg : a.heap.size ≤ g) (cs : Array Value) : Ext a (b.setRow g cs) :=
  ⟨h.os, h.tape, h.output, by rw [size_setRow]; exact h.size, fun k hk => (heap_setRow_other b g k cs (by omega)).trans (h.block k hk)⟩
theorem off_cell {w wr : World} {s c : List Nat} (h : RS w wr s c) {k : Nat} (hk : k < 25) : wr.cell? ⟨w.heap.size + 1, k, none⟩ = some (.int .i64 ((D.offs.getD k 0 : Nat) : Int)) := by
  rw [cell_of_row wr _ k _ 163 _ h.2.2.1, offV_get k hk]
theorem sum_get (s : List Nat) {i : Nat} (h : i < 5) : ((List.range 5).map fun x => D.col s x).getD i 0 = D.col s i := by simp [h]
theorem offs63 (i : Nat) : D.offs.getD i 0 ≤ 63 := by
  have h : ∀ a ∈ D.offs, a ≤ 63 := by decide
  rw [List.getD_eq_getElem?_getD]
  cases hi : D.offs[i]? with
  | none => exact Nat.zero_le _
  | some a => exact h a (List.mem_of_getElem? hi)
theorem Rotl_one (a : Nat) (w : World) (ha : a < 18446744073709551616) : Calls Tryz.prog 164 #[.int .u64 (a : Int), .int .i64 1] w fun e w' => e = .returned (.int .u64 ((D.rot a 1 : Nat) : Int)) ∧ w = w' := Rotl_any a 1 w ha (by decide)
theorem run_index_arr (P : Program) (t e : TypeId) (n : Nat) (cs : Array Value) (i : Nat) (v : Value) (h : P.underlying t = some (.array n e)) (hi : i < n) (hv : cs[i]? = some v) (hz : ∀ w, (sizeOf e).run P w = .ok 1 w) (ha : ∀ w, (isAgg e).run P w = .ok false w) (w : World) : (Instr.index t (.agg cs) (.int .i64 (i : Int))).run P w = .ok v w := by
  have hn : (0 : Int) ≤ (i : Int) ∧ (i : Int) < (n : Int) := by omega
  simp [Instr.index, run_underlying h, asIntOf, hn, hi, hz, ha, hv, go_sem]

set_option maxRecDepth 100000 in
set_option maxHeartbeats 2000000 in
theorem round_any (s : List Nat) (c : Nat) (w : World) (hl : s.length = 25) (hs : D.Small s) (hc : c < 18446744073709551616) : Calls Tryz.prog 158 #[.agg (rowU s), .agg offV, .int .u64 (c : Int)] w (Al (.agg (rowU (D.round s c))) w) := by
  have hi121 := Lib.hid (info121 hl)
  go_enter Tryz.func158, Tryz.ntmps158
  go_upto_region 2 with (fail)
  generalize hW : World.alloc (World.alloc (World.alloc (World.alloc w _) _) _) _ = W
  have hRS : RS w W s (List.replicate 5 0) := by
    rw [← hW]
    exact ⟨((((Ext.refl w).alloc _).alloc _).alloc _).alloc _, heap_old4 w _ _ _ _, heap_old4b w _ _ _ _, heap_old4c w _ _ _ _, heap_old4d w _ _ _ _, by simp⟩
  have HSZ : Hid (W.heap.size = w.heap.size + 4) := by unfold Hid; rw [← hW]; simp
  clear hW
  have hA : W.heap[w.heap.size]? = some (.cells (rowU s) 121 (0, 0)) := hRS.2.1
  have HRS := Lib.hid hRS
  clear hRS
  go_wp2_with (refine wpList_load_row rfl 121 _ rfl w.heap.size rfl 121 _ (0, 0) _ hA Tryz.underlying121 rfl hi121.out ?_)
  clear hA
  go_loopw [18] (fun i wr => ∃ k : Nat, k ≤ 25 ∧ i = .int .i64 k ∧ Hid (RS w wr s (D.csum s k) ∧ wr.heap.size = w.heap.size + 4)) (fun i _ => 25 - (intOf i).toNat)
  case atStart => exact ⟨0, Nat.zero_le _, rfl, HRS.out, HSZ.out⟩
  case round =>
    clear HRS
    obtain ⟨k, hk, rfl, HK⟩ := hrel
    by_cases hlt : k < 25
    · have hix := run_index_arr Tryz.prog 121 120 25 (rowU s) k _ Tryz.underlying121 hlt (rowU_get s k (by omega)) (fun _ => by kernel_rfl) (fun _ => by kernel_rfl)
      obtain ⟨x, hx⟩ : ∃ x, x = k % 5 := ⟨_, rfl⟩
      have hx5 : x < 5 := by omega
      have hxk : (k : Int) % 5 = (x : Int) := by omega
      have hcl := D.csum_length s k
      have hcc := HK.out.1.2.2.2.2.1.cell (i := x) (by omega)
      have hcf := HK.out.1.2.2.2.2.1.frozen x
      have hb1 : (D.csum s k).getD x 0 < 18446744073709551616 := (D.csum_small hs k).get x
      have hb2 : s.getD k 0 < 18446744073709551616 := hs.get k
      have HSET := Lib.hid (HK.out.1.setC x ((D.csum s k).getD x 0 ^^^ s.getD k 0))
      have HN : Hid (D.csum s (k + 1) = (D.csum s k).set x ((D.csum s k).getD x 0 ^^^ s.getD k 0)) := by unfold Hid; rw [hx]; rfl
      rw [← HN.out] at HSET
      generalize (D.csum s k).getD x 0 = a at hcc hb1 HSET HN
      generalize s.getD k 0 = b at hb2 HSET HN hix
      have hxv := xor_val hb1 hb2
      clear hcl hx
      go_wp2_with fail
      go_roundw
      case rel => exact ⟨k + 1, by omega, by go_num, HSET.out, by simpa using HK.out.2⟩
      case measure => simp [intOf]; omega
    · obtain rfl : k = 25 := by omega
      rw [D.csum_end] at HK
      go_upto_region 8 with (fail)
      generalize hW : World.alloc wr _ = W2
      have hRT : RT w W2 s ((List.range 5).map fun x => D.col s x) (List.replicate 25 0) := by
        rw [← hW]
        exact RS.alloc HK.out
      clear hW
      rw [HK.out.2]
      have hA : W2.heap[w.heap.size]? = some (.cells (rowU s) 121 (0, 0)) := hRT.1.2.1
      have HRT := Lib.hid hRT
      clear hRT HK
      go_wp2_with (refine wpList_load_row rfl 121 _ rfl w.heap.size rfl 121 _ (0, 0) _ hA Tryz.underlying121 rfl hi121.out ?_)
      clear hA hlt hk
      go_loopw [31] (fun i wr => ∃ k : Nat, k ≤ 25 ∧ i = .int .i64 k ∧ Hid (RT w wr s ((List.range 5).map fun x => D.col s x) (D.tset s k))) (fun i _ => 25 - (intOf i).toNat)
      case atStart => exact ⟨0, Nat.zero_le _, rfl, HRT.out⟩
      case round =>
        clear HRT
        obtain ⟨k, hk, rfl, HK⟩ := hrel
        by_cases hlt : k < 25
        · have hix := run_index_arr Tryz.prog 121 120 25 (rowU s) k _ Tryz.underlying121 hlt (rowU_get s k (by omega)) (fun _ => by kernel_rfl) (fun _ => by kernel_rfl)
          obtain ⟨x, hx⟩ : ∃ x, x = k % 5 := ⟨_, rfl⟩
          obtain ⟨y, hy⟩ : ∃ y, y = k / 5 := ⟨_, rfl⟩
          obtain ⟨i1, hi1⟩ : ∃ i, i = (x + 4) % 5 := ⟨_, rfl⟩
          obtain ⟨i2, hi2⟩ : ∃ i, i = (x + 1) % 5 := ⟨_, rfl⟩
          obtain ⟨z, hz⟩ : ∃ z, z = (2 * x + 3 * y) % 5 := ⟨_, rfl⟩
          obtain ⟨j, hj⟩ : ∃ j, j = D.pi k := ⟨_, rfl⟩
          have hjv : j = y + 5 * z := by rw [hj, hz, hx, hy]; rfl
          have hx5 : x < 5 := by omega
          have hy5 : y < 5 := by omega
          have hz5 : z < 5 := by omega
          have hj25 : j < 25 := by omega
          have q1 : (k : Int) % 5 = (x : Int) := by omega
          have q2 : (k : Int) / 5 = (y : Int) := by omega
          have q3 : ((x : Int) + 4) % 5 = (i1 : Int) := by omega
          have q4 : ((x : Int) + 1) % 5 = (i2 : Int) := by omega
          have q5 : (2 * (x : Int) + 3 * (y : Int)) % 5 = (z : Int) := by omega
          have q6 : (y : Int) + 5 * (z : Int) = (j : Int) := by omega
          have c1 := HK.out.1.2.2.2.2.1.cell (i := i1) (by simp; omega)
          have c2 := HK.out.1.2.2.2.2.1.cell (i := i2) (by simp; omega)
          rw [sum_get s (by omega)] at c1 c2
          have c3 := HK.out.2.1.cell (i := j) (by rw [D.tset_length]; exact hj25)
          have f3 := HK.out.2.1.frozen j
          have c4 := off_cell HK.out.1 hlt
          have b1 : D.col s i1 < 18446744073709551616 := D.col_lt hs i1
          have b2 : D.col s i2 < 18446744073709551616 := D.col_lt hs i2
          have b0 : s.getD k 0 < 18446744073709551616 := hs.get k
          have b3 : D.rot (D.col s i2) 1 < 18446744073709551616 := D.rot_lt b2 (by decide)
          have x1 := xor_val b1 b3
          have b4 : D.col s i1 ^^^ D.rot (D.col s i2) 1 < 18446744073709551616 := D.xor_lt b1 b3
          have x2 := xor_val b0 b4
          have b5 : s.getD k 0 ^^^ (D.col s i1 ^^^ D.rot (D.col s i2) 1) < 18446744073709551616 := D.xor_lt b0 b4
          have ho : D.offs.getD k 0 ≤ 63 := offs63 k
          have HR1 := Lib.hid (fun W => Rotl_one (D.col s i2) W b2)
          have HR2 := Lib.hid (fun W => Rotl_any (s.getD k 0 ^^^ (D.col s i1 ^^^ D.rot (D.col s i2) 1)) (D.offs.getD k 0) W b5 ho)
          have HSET := Lib.hid (fun n => (HK.out.drewN n).setT j (D.rot (s.getD k 0 ^^^ (D.col s i1 ^^^ D.rot (D.col s i2) 1)) (D.offs.getD k 0)))
          have HN : Hid (D.tset s (k + 1) = (D.tset s k).set j (D.rot (s.getD k 0 ^^^ (D.col s i1 ^^^ D.rot (D.col s i2) 1)) (D.offs.getD k 0))) := by
            unfold Hid
            rw [hj, hi1, hi2, hx]
            rfl
          rw [← HN.out] at HSET
          clear hx hy hi1 hi2 hz hj hjv
          generalize D.rot (s.getD k 0 ^^^ (D.col s i1 ^^^ D.rot (D.col s i2) 1)) (D.offs.getD k 0) = v3 at HR2 HSET HN
          generalize D.rot (D.col s i2) 1 = v1 at *
          generalize D.col s i1 = v0 at *
          generalize D.col s i2 = v2 at *
          generalize s.getD k 0 = b at *
          generalize b ^^^ (v0 ^^^ v1) = v5 at *
          generalize v0 ^^^ v1 = v4 at *
          generalize D.offs.getD k 0 = of at *
          generalize (D.tset s k).getD j 0 = old at *
          go_wp2_with fail
          go_quiet ((go_at_call 164; exact quiet_at (toQ (HR1.out _))))
          go_wp2_with fail
          refine (HR2.out _).mono ?_
          rintro e w5 ⟨rfl, rfl⟩
          go_wp2_with fail
          go_roundw
          case rel => exact ⟨k + 1, by omega, by go_num, HSET.out _⟩
          case measure => simp [intOf]; omega
        · obtain rfl : k = 25 := by omega
          rw [D.tset_end] at HK
          obtain ⟨m, hm⟩ : ∃ m, m = D.moved s := ⟨_, rfl⟩
          have hms : D.Small m := by rw [hm]; exact D.moved_small hs
          have hml : m.length = 25 := by rw [hm, D.moved_length]
          rw [← hm] at HK
          have HM := Lib.hid hm
          generalize ((List.range 5).map fun x => D.col s x) = cl at HK
          clear hm hlt hk
          go_wp2_with fail
          go_loopw [69] (fun i wr => ∃ k : Nat, k ≤ 25 ∧ i = .int .i64 k ∧ Hid (RT w wr (D.fillL (D.chi m) s k) cl m)) (fun i _ => 25 - (intOf i).toNat)
          case atStart => exact ⟨0, Nat.zero_le _, rfl, HK.out⟩
          case round =>
            clear HK
            obtain ⟨k, hk, rfl, HK⟩ := hrel
            by_cases hlt : k < 25
            · obtain ⟨x, hx⟩ : ∃ x, x = k % 5 := ⟨_, rfl⟩
              obtain ⟨r, hr⟩ : ∃ r, r = k - k % 5 := ⟨_, rfl⟩
              obtain ⟨i1, hi1⟩ : ∃ i, i = (k + 1) % 5 := ⟨_, rfl⟩
              obtain ⟨i2, hi2⟩ : ∃ i, i = (k + 2) % 5 := ⟨_, rfl⟩
              obtain ⟨j1, hj1⟩ : ∃ i, i = r + i1 := ⟨_, rfl⟩
              obtain ⟨j2, hj2⟩ : ∃ i, i = r + i2 := ⟨_, rfl⟩
              have hj1' : j1 < 25 := by omega
              have hj2' : j2 < 25 := by omega
              have q1 : (k : Int) % 5 = (x : Int) := by omega
              have q2 : (k : Int) - (x : Int) = (r : Int) := by omega
              have q3 : ((k : Int) + 1) % 5 = (i1 : Int) := by omega
              have q4 : ((k : Int) + 2) % 5 = (i2 : Int) := by omega
              have q5 : (r : Int) + (i1 : Int) = (j1 : Int) := by omega
              have q6 : (r : Int) + (i2 : Int) = (j2 : Int) := by omega
              have hx5 : x < 5 := by omega
              have hr25 : r ≤ 20 := by omega
              have c0 := HK.out.2.1.cell (i := k) (by omega)
              have c1 := HK.out.2.1.cell (i := j1) (by omega)
              have c2 := HK.out.2.1.cell (i := j2) (by omega)
              have cs := HK.out.1.2.1.cell (i := k) (by rw [D.fillL_length]; omega)
              have fs := HK.out.1.2.1.frozen k
              have b0 : m.getD k 0 < 18446744073709551616 := hms.get k
              have b1 : m.getD j1 0 < 18446744073709551616 := hms.get j1
              have b2 : m.getD j2 0 < 18446744073709551616 := hms.get j2
              have HN : Hid (D.fillL (D.chi m) s (k + 1) = (D.fillL (D.chi m) s k).set k (m.getD k 0 ^^^ (D.not64 (m.getD j1 0) &&& m.getD j2 0))) := by
                unfold Hid
                rw [hj1, hj2, hr, hi1, hi2]
                rfl
              have HSET := Lib.hid (HK.out.setS k (m.getD k 0 ^^^ (D.not64 (m.getD j1 0) &&& m.getD j2 0))).drew'
              rw [← HN.out] at HSET
              have hnv := not_val b1
              have hnl : D.not64 (m.getD j1 0) < 18446744073709551616 := D.not_lt64 _
              have hav := bits_and_u64_nat (D.not64 (m.getD j1 0)) (m.getD j2 0) hnl b2
              have hal : D.not64 (m.getD j1 0) &&& m.getD j2 0 < 18446744073709551616 := D.and_lt b2
              have hxv := xor_val b0 hal
              have HV : Hid (bits .xor .u64 ((m.getD k 0 : Nat) : Int) (bits .and .u64 (bits .xor .u64 (if IntKind.u64.signed = true then -1 else IntKind.u64.max) ((m.getD j1 0 : Nat) : Int)) ((m.getD j2 0 : Nat) : Int)) = ((m.getD k 0 ^^^ (D.not64 (m.getD j1 0) &&& m.getD j2 0) : Nat) : Int)) := by
                unfold Hid
                rw [hnv, hav, hxv]
              clear hx hr hi1 hi2 hj1 hj2 HN hnv hav hxv hnl hal
              generalize m.getD k 0 ^^^ (D.not64 (m.getD j1 0) &&& m.getD j2 0) = v at HSET HV
              generalize m.getD k 0 = a0 at c0 b0 HV
              generalize m.getD j1 0 = a1 at c1 b1 HV
              generalize m.getD j2 0 = a2 at c2 b2 HV
              go_wp2_with fail
              obtain ⟨Φ, hΦ⟩ : ∃ Φ : World → Prop, ∀ x, Φ x ↔ x = wr.drew := ⟨_, fun _ => Iff.rfl⟩
              have h0 : Φ wr.drew := (hΦ _).2 rfl
              have fx0 : ∀ x : Lat Φ, x.w'.cell? ⟨w.heap.size + 4, k, none⟩ = some (.int .u64 ((a0 : Nat) : Int)) := fun x => by rw [(hΦ _).1 x.h]; exact c0
              have fx1 : ∀ x : Lat Φ, x.w'.cell? ⟨w.heap.size + 4, j1, none⟩ = some (.int .u64 ((a1 : Nat) : Int)) := fun x => by rw [(hΦ _).1 x.h]; exact c1
              have fx2 : ∀ x : Lat Φ, x.w'.cell? ⟨w.heap.size + 4, j2, none⟩ = some (.int .u64 ((a2 : Nat) : Int)) := fun x => by rw [(hΦ _).1 x.h]; exact c2
              have hne := Lat.some h0
              clear hΦ
              refine wp_region_tail 22 [] Φ h0 (by kernel_rfl) (by kernel_rfl) (by kernel_rfl) ?_
              simp only [List.take_succ_cons, List.take_zero, List.drop_succ_cons, List.drop_zero]
              iterate 22 (refine lex_pure rfl rfl rfl ?_; intro K hK; go_big_quiet_op; go_big_quiet_on)
              refine lex_nil ?_
              clear fx0 fx1 fx2 hne h0
              go_wp2_with fail
              exact ⟨⟨k + 1, by omega, by go_num, by rw [HV.out]; exact HSET.out⟩, by simp [intOf]; omega⟩
            · obtain rfl : k = 25 := by omega
              rw [D.fillL_end _ _ 25 hl] at HK
              have hc0 := HK.out.1.2.1.cell (i := 0) (by simp)
              have hf0 := HK.out.1.2.1.frozen 0
              have b0 : (D.chis m).getD 0 0 < 18446744073709551616 := (D.chis_small hms).get 0
              have hxv := xor_val b0 hc
              have HSET := Lib.hid (HK.out.setS 0 ((D.chis m).getD 0 0 ^^^ c))
              have HR : Hid (((List.range 25).map (D.chi m)).set 0 ((D.chis m).getD 0 0 ^^^ c) = D.round s c) := by unfold Hid; rw [HM.out]; rfl
              rw [HR.out] at HSET
              rw [show (List.range 25).map (D.chi m) = D.chis m from rfl] at hc0
              have hrl := D.round_length s c
              obtain ⟨r, hr⟩ : ∃ r, r = D.round s c := ⟨_, rfl⟩
              rw [← hr] at HSET hrl
              have HRR := Lib.hid hr
              clear hr
              generalize (D.chis m).getD 0 0 = a0 at *
              generalize a0 ^^^ c = v at *
              clear HR HM HK hlt hk
              go_upto_region 22 with (fail)
              clear hc0 hf0 hxv b0
              generalize World.setCell wr _ _ = W3 at HSET ⊢
              have hA : W3.heap[w.heap.size]? = some (.cells (rowU r) 121 (0, 0)) := HSET.out.1.2.1
              have hB : W3.heap[w.heap.size + 2]? = some (.cells (rowU (List.replicate 25 0)) 121 (0, 0)) := HSET.out.1.2.2.2.1
              have hi := Lib.hid (info121 hrl)
              have hz : (rowU (List.replicate 25 0)).size = (rowU r).size := by rw [rowU_size, rowU_size, hrl]; rfl
              have HZ := Lib.hid hz
              clear hz hrl
              go_wp2_with (first
                | (refine wpList_load_row rfl 121 _ rfl w.heap.size rfl 121 _ (0, 0) _ hA Tryz.underlying121 rfl hi.out ?_)
                | (refine wpList_store_row rfl 121 (.tmp 6) (.tmp 104) rfl (w.heap.size + 2) (rowU r) rfl rfl 121 _ hB hi.out HZ.out (rowU_one r) ?_))
              have hC := heap_setRow W3 (w.heap.size + 2) (rowU r) hB
              refine bodyPost_ret (v := .agg (rowU r)) ?_ rfl ⟨by rw [HRR.out], HSET.out.1.1.setRow (by omega) _⟩
              exact results_cell_row (p := 6) (ty := 121) Tryz.results158 _ _ (w.heap.size + 2) 121 (rowU r) (0, 0) _ rfl hC Tryz.underlying121 rfl hi.out
end Go.Proofs.YtclhbcicbnoohaaGreatDoor

/- All rounds: digest.Permute. -/
namespace Go.Proofs.YtclhbcicbnoohaaGreatDoor
open Go.RowKit

theorem info163 : (Tryz.prog.info? 163).map (·.size) = some offV.size := by kernel_rfl
theorem info165 : (Tryz.prog.info? 165).map (·.size) = some (rowU D.consts).size := by kernel_rfl
theorem offV_one : offV.all (·.oneCell') = true := by decide +kernel
set_option maxRecDepth 100000 in
theorem offsets_any (w : World) : Calls Tryz.prog 156 #[] w (Al (.agg offV) w) := by
  go_enter Tryz.func156, Tryz.ntmps156
  go_upto_region 1 with (fail)
  generalize hW : World.alloc w _ = W
  have hB : ∃ old : Array Value, W.heap[w.heap.size]? = some (.cells old 163 (0, 0)) ∧ old.size = offV.size := by
    rw [← hW]
    exact ⟨_, heap_alloc_new _ _, by decide⟩
  have hE : Ext w W := by rw [← hW]; exact (Ext.refl w).alloc _
  clear hW
  obtain ⟨old, hB, ho⟩ := hB
  go_wp2_with (refine wpList_store_row rfl 163 (.tmp 0) (.tmp 1) rfl w.heap.size offV rfl rfl 163 old hB info163 ho offV_one ?_)
  have hC := heap_setRow W w.heap.size offV hB
  refine bodyPost_ret (v := .agg offV) ?_ rfl ⟨rfl, hE.setRow (Nat.le_refl _) _⟩
  exact results_cell_row (p := 0) (ty := 163) Tryz.results156 _ _ w.heap.size 163 offV (0, 0) _ rfl hC Tryz.underlying163 rfl info163
set_option maxRecDepth 100000 in
theorem constants_any (w : World) : Calls Tryz.prog 157 #[] w (Al (.agg (rowU D.consts)) w) := by
  go_enter Tryz.func157, Tryz.ntmps157
  go_upto_region 1 with (fail)
  generalize hW : World.alloc w _ = W
  have hB : ∃ old : Array Value, W.heap[w.heap.size]? = some (.cells old 165 (0, 0)) ∧ old.size = (rowU D.consts).size := by
    rw [← hW]
    exact ⟨_, heap_alloc_new _ _, by decide⟩
  have hE : Ext w W := by rw [← hW]; exact (Ext.refl w).alloc _
  clear hW
  obtain ⟨old, hB, ho⟩ := hB
  go_wp2_with (refine wpList_store_row rfl 165 (.tmp 0) (.tmp 1) rfl w.heap.size (rowU D.consts) rfl rfl 165 old hB info165 ho (rowU_one _) ?_)
  have hC := heap_setRow W w.heap.size (rowU D.consts) hB
  refine bodyPost_ret (v := .agg (rowU D.consts)) ?_ rfl ⟨rfl, hE.setRow (Nat.le_refl _) _⟩
  exact results_cell_row (p := 0) (ty := 165) Tryz.results157 _ _ w.heap.size 165 (rowU D.consts) (0, 0) _ rfl hC Tryz.underlying165 rfl info165

/-- The blocks of Permute: the state, the result, the offsets. -/
def PS (w wr : World) (g : Nat) (s : List Nat) : Prop :=
  Ext w wr ∧ ArrAt wr w.heap.size 121 s ∧ ArrAt wr (w.heap.size + 1) 121 (List.replicate 25 0) ∧ wr.heap[g]? = some (.cells offV 163 (0, 0)) ∧ w.heap.size + 2 ≤ g
theorem PS.ext {w wr w' : World} {g : Nat} {s : List Nat} (h : PS w wr g s) (he : Ext wr w') : PS w w' g s :=
  ⟨h.1.trans he, h.2.1.ext he, h.2.2.1.ext he, (he.block g (Array.getElem?_eq_some_iff.1 h.2.2.2.1).1).trans h.2.2.2.1, h.2.2.2.2⟩
theorem PS.put {w wr : World} {g : Nat} {s r : List Nat} (h : PS w wr g s) : PS w (wr.setRow w.heap.size (rowU r)) g r :=
  ⟨h.1.setRow (Nat.le_refl _) _, heap_setRow _ _ _ h.2.1, (heap_setRow_other _ _ _ _ (by omega)).trans h.2.2.1, (heap_setRow_other _ _ _ _ (by have := h.2.2.2.2; omega)).trans h.2.2.2.1, h.2.2.2.2⟩
set_option maxRecDepth 100000 in
set_option maxHeartbeats 2000000 in
theorem Permute_any (s : List Nat) (w : World) (hl : s.length = 25) (hs : D.Small s) : Calls Tryz.prog 145 #[.agg (rowU s)] w (Al (.agg (rowU (D.perm s))) w) := by
  obtain ⟨R, hR⟩ : ∃ R, R = D.perm s := ⟨_, rfl⟩
  rw [← hR]
  have HR := Lib.hid hR
  clear hR
  go_enter Tryz.func145, Tryz.ntmps145
  go_upto_region 1 with (fail)
  generalize hW : World.alloc (World.alloc w _) _ = W
  have hP : Ext w W ∧ ArrAt W w.heap.size 121 s ∧ ArrAt W (w.heap.size + 1) 121 (List.replicate 25 0) ∧ W.heap.size = w.heap.size + 2 := by
    rw [← hW]
    exact ⟨((Ext.refl w).alloc _).alloc _, heap_alloc2_old _ _ _, heap_alloc2_new _ _ _, by simp⟩
  have HP := Lib.hid hP
  clear hP hW
  go_wp2_with fail
  refine (offsets_any _).mono ?_
  rintro e w1 ⟨rfl, d1⟩
  have hL := Lib.hid (show Ext w w1 ∧ ArrAt w1 w.heap.size 121 s ∧ ArrAt w1 (w.heap.size + 1) 121 (List.replicate 25 0) ∧ w.heap.size + 2 ≤ w1.heap.size from ⟨HP.out.1.trans d1, HP.out.2.1.ext d1, HP.out.2.2.1.ext d1, by have := d1.size; have := HP.out.2.2.2; omega⟩)
  clear d1 HP
  go_upto_region 2 with (refine wpList_store_row rfl 163 (.tmp 3) (.tmp 6) rfl w1.heap.size offV rfl rfl 163 _ (heap_alloc_new _ _) info163 (by first | rfl | decide) offV_one ?_)
  generalize hW : World.setRow _ _ _ = W2
  have hPS : PS w W2 w1.heap.size s := by
    rw [← hW]
    have e := (Ext.refl w1).alloc (.cells (Array.replicate 25 (.int .i64 0)) 163)
    refine ⟨Ext.setRow (hL.out.1.alloc _) (by have := hL.out.2.2.2; omega) _, ?_, ?_, heap_setRow _ _ _ (heap_alloc_new _ _), hL.out.2.2.2⟩
    · exact (heap_setRow_other _ _ _ _ (by have := hL.out.2.1.lt; omega)).trans ((heap_alloc_old _ _ hL.out.2.1.lt).trans hL.out.2.1)
    · exact (heap_setRow_other _ _ _ _ (by have := hL.out.2.2.1.lt; omega)).trans ((heap_alloc_old _ _ hL.out.2.2.1.lt).trans hL.out.2.2.1)
  clear hW hL
  have HP := Lib.hid hPS
  have hg := hPS.2.2.2.2
  clear hPS
  generalize w1.heap.size = g at HP hg ⊢
  go_wp2_with fail
  refine (constants_any _).mono ?_
  rintro e w3 ⟨rfl, d3⟩
  have HP3 := Lib.hid (HP.out.ext d3)
  clear d3 HP
  go_wp2_with fail
  go_loopw [8] (fun i wr => ∃ k : Nat, k ≤ 24 ∧ i = .int .i64 k ∧ Hid (PS w wr g (D.permK s k))) (fun i _ => 24 - (intOf i).toNat)
  case atStart => exact ⟨0, Nat.zero_le _, rfl, HP3.out⟩
  case round =>
    clear HP3
    obtain ⟨k, hk, rfl, HK⟩ := hrel
    by_cases hlt : k < 24
    · have hix := run_index_arr Tryz.prog 165 120 24 (rowU D.consts) k _ Tryz.underlying165 hlt (rowU_get D.consts k (show k < 24 by omega)) (fun _ => by kernel_rfl) (fun _ => by kernel_rfl)
      have hA : wr.heap[w.heap.size]? = some (.cells (rowU (D.permK s k)) 121 (0, 0)) := HK.out.2.1
      have hB : wr.heap[g]? = some (.cells offV 163 (0, 0)) := HK.out.2.2.2.1
      have hpl := D.permK_length hl k (by omega)
      have hi := Lib.hid (info121 hpl)
      have hcl : D.consts.getD k 0 < 18446744073709551616 := D.consts_lt k
      have HRD := Lib.hid (round_any (D.permK s k) (D.consts.getD k 0) wr hpl (D.permK_small hs k (by omega)) hcl)
      have HN := Lib.hid (D.permK_succ s hlt)
      rw [← HN.out] at HRD
      have hpl' := D.permK_length hl (k + 1) (by omega)
      have hi' := Lib.hid (info121 hpl')
      have HZ := Lib.hid (show (rowU (D.permK s k)).size = (rowU (D.permK s (k + 1))).size by rw [rowU_size, rowU_size, hpl, hpl'])
      clear hpl hpl' hcl HN
      obtain ⟨s2, hs2⟩ : ∃ s2, s2 = D.permK s (k + 1) := ⟨_, rfl⟩
      rw [← hs2] at HRD hi' HZ
      have HS2 := Lib.hid hs2
      clear hs2
      generalize D.consts.getD k 0 = c at HRD hix
      generalize D.permK s k = s1 at HK hA hi HRD HZ
      go_wp2_with (first
        | (refine wpList_load_row rfl 121 _ rfl w.heap.size rfl 121 _ (0, 0) _ hA Tryz.underlying121 rfl hi.out ?_)
        | (refine wpList_load_row rfl 163 _ rfl g rfl 163 _ (0, 0) _ hB Tryz.underlying163 rfl info163 ?_))
      refine HRD.out.mono ?_
      rintro e w4 ⟨rfl, d4⟩
      have HK4 := Lib.hid (HK.out.ext d4)
      have hA4 : w4.heap[w.heap.size]? = some (.cells (rowU s1) 121 (0, 0)) := HK4.out.2.1
      clear d4 hA hB hix
      go_wp2_with (refine wpList_store_row rfl 121 (.tmp 1) (.tmp 14) rfl w.heap.size (rowU s2) rfl rfl 121 _ hA4 hi'.out HZ.out (rowU_one s2) ?_)
      go_roundw
      case rel => exact ⟨k + 1, by omega, by go_num, by rw [← HS2.out]; exact HK4.out.put⟩
      case measure => simp [intOf]; omega
    · obtain rfl : k = 24 := by omega
      rw [D.permK_end, ← HR.out] at HK
      have hrl : R.length = 25 := by rw [HR.out]; exact D.perm_length hl
      have hA : wr.heap[w.heap.size]? = some (.cells (rowU R) 121 (0, 0)) := HK.out.2.1
      have hB : wr.heap[w.heap.size + 1]? = some (.cells (rowU (List.replicate 25 0)) 121 (0, 0)) := HK.out.2.2.1
      have hi := Lib.hid (info121 hrl)
      have HZ := Lib.hid (show (rowU (List.replicate 25 0)).size = (rowU R).size by rw [rowU_size, rowU_size, hrl]; rfl)
      clear hrl
      go_wp2_with (first
        | (refine wpList_load_row rfl 121 _ rfl w.heap.size rfl 121 _ (0, 0) _ hA Tryz.underlying121 rfl hi.out ?_)
        | (refine wpList_store_row rfl 121 (.tmp 2) (.tmp 16) rfl (w.heap.size + 1) (rowU R) rfl rfl 121 _ hB hi.out HZ.out (rowU_one R) ?_))
      have hC := heap_setRow wr (w.heap.size + 1) (rowU R) hB
      refine bodyPost_ret (v := .agg (rowU R)) ?_ rfl ⟨rfl, HK.out.1.setRow (by omega) _⟩
      exact results_cell_row (p := 2) (ty := 121) Tryz.results145 _ _ (w.heap.size + 1) 121 (rowU R) (0, 0) _ rfl hC Tryz.underlying121 rfl hi.out
end Go.Proofs.YtclhbcicbnoohaaGreatDoor

/- The reference's round: offset, constant, Round. -/
namespace Go.Proofs.YtclhbcicbnoohaaGreatDoor
open Go.RowKit

set_option maxRecDepth 100000 in
theorem offset_any (x y : Nat) (w : World) (hx : x < 5) (hy : y < 5) : Calls Tryz.prog 148 #[.int .i64 (x : Int), .int .i64 (y : Int)] w (Al (.int .i64 ((D.offs.getD (x + 5 * y) 0 : Nat) : Int)) w) := by
  obtain ⟨j, hj⟩ : ∃ j, j = x + 5 * y := ⟨_, rfl⟩
  rw [← hj]
  have hj25 : j < 25 := by omega
  have q : (x : Int) + 5 * (y : Int) = (j : Int) := by omega
  clear hj
  obtain ⟨v, hv⟩ : ∃ v, v = D.offs.getD j 0 := ⟨_, rfl⟩
  rw [← hv]
  have HV := Lib.hid hv
  clear hv
  go_enter Tryz.func148, Tryz.ntmps148
  go_upto_region 2 with (fail)
  generalize hW : World.alloc w _ = W
  have hB : W.heap[w.heap.size]? = some (.cells offV 3 (0, 0)) := by rw [← hW]; exact heap_alloc_new _ _
  have hE : Ext w W := by rw [← hW]; exact (Ext.refl w).alloc _
  have hc : W.cell? ⟨w.heap.size, j, none⟩ = some (.int .i64 (v : Int)) := by rw [cell_of_row W _ j _ 3 _ hB, offV_get j hj25, HV.out]
  have HE := Lib.hid hE
  clear hW hB hE
  go_wp2_with fail
  go_ret
  exact ⟨rfl, HE.out⟩
set_option maxRecDepth 100000 in
theorem constant_any (k : Nat) (w : World) (hk : k < 24) : Calls Tryz.prog 128 #[.int .i64 (k : Int)] w (Al (.int .u64 ((D.consts.getD k 0 : Nat) : Int)) w) := by
  obtain ⟨v, hv⟩ : ∃ v, v = D.consts.getD k 0 := ⟨_, rfl⟩
  rw [← hv]
  have HV := Lib.hid hv
  clear hv
  go_enter Tryz.func128, Tryz.ntmps128
  go_upto_region 2 with (fail)
  generalize hW : World.alloc w _ = W
  have hB : W.heap[w.heap.size]? = some (.cells (rowU D.consts) 120 (0, 0)) := by rw [← hW]; exact heap_alloc_new _ _
  have hE : Ext w W := by rw [← hW]; exact (Ext.refl w).alloc _
  have hc : W.cell? ⟨w.heap.size, k, none⟩ = some (.int .u64 (v : Int)) := by rw [cell_of_row W _ k _ 120 _ hB, rowU_get D.consts k hk, HV.out]
  have HE := Lib.hid hE
  clear hW hB hE
  go_wp2_with fail
  go_ret
  exact ⟨rfl, HE.out⟩

/-- The blocks of the reference's round: the state, the result, the sums. -/
def QS (w wr : World) (s c : List Nat) : Prop :=
  Ext w wr ∧ ArrAt wr w.heap.size 121 s ∧ ArrAt wr (w.heap.size + 1) 121 (List.replicate 25 0) ∧ ArrAt wr (w.heap.size + 2) 152 c ∧ w.heap.size + 3 ≤ wr.heap.size
theorem QS.setC {w wr : World} {s c : List Nat} (h : QS w wr s c) (i a : Nat) : QS w (wr.setCell ⟨w.heap.size + 2, i, none⟩ (.int .u64 ((a : Nat) : Int))) s (c.set i a) := by
  obtain ⟨h1, h2, h3, h4, h5⟩ := h
  exact ⟨h1.setCell (by simp) _, h2.other (by omega) _ _, h3.other (by omega) _ _, h4.set i a, by simpa using h5⟩
/-- .. and the moved words. -/
def QT (w wr : World) (s c t : List Nat) : Prop := QS w wr s c ∧ ArrAt wr (w.heap.size + 3) 121 t ∧ w.heap.size + 4 ≤ wr.heap.size
theorem QT.ext {w wr w' : World} {s c t : List Nat} (h : QT w wr s c t) (he : Ext wr w') : QT w w' s c t :=
  ⟨⟨h.1.1.trans he, h.1.2.1.ext he, h.1.2.2.1.ext he, h.1.2.2.2.1.ext he, Nat.le_trans h.1.2.2.2.2 he.size⟩, h.2.1.ext he, Nat.le_trans h.2.2 he.size⟩
theorem QT.setT {w wr : World} {s c t : List Nat} (h : QT w wr s c t) (i a : Nat) : QT w (wr.setCell ⟨w.heap.size + 3, i, none⟩ (.int .u64 ((a : Nat) : Int))) s c (t.set i a) := by
  obtain ⟨⟨h1, h2, h3, h4, h5⟩, h6, h7⟩ := h
  exact ⟨⟨h1.setCell (by simp) _, h2.other (by omega) _ _, h3.other (by omega) _ _, h4.other (by omega) _ _, by simpa using h5⟩, h6.set i a, by simpa using h7⟩
theorem QT.new {w wr : World} {s c : List Nat} (h : QS w wr s c ∧ wr.heap.size = w.heap.size + 3) : QT w (wr.alloc (.cells (rowU (List.replicate 25 0)) 121)) s c (List.replicate 25 0) := by
  obtain ⟨⟨h1, h2, h3, h4, h5⟩, h6⟩ := h
  have e : Ext wr (wr.alloc (.cells (rowU (List.replicate 25 0)) 121)) := (Ext.refl wr).alloc _
  refine ⟨⟨h1.trans e, h2.ext e, h3.ext e, h4.ext e, by simp; omega⟩, ?_, by simp; omega⟩
  have := heap_alloc_new wr (.cells (rowU (List.replicate 25 0)) 121)
  rw [h6] at this
  exact this
theorem tset2_step (s : List Nat) (x y : Nat) (hx : x < 5) (hy : y < 5) : D.tset2 s (5 * x + y + 1) = (D.tset2 s (5 * x + y)).set (D.pi (x + 5 * y)) (D.rot (s.getD (x + 5 * y) 0 ^^^ D.dlt s x) (D.offs.getD (x + 5 * y) 0)) := by
  rw [D.tset2, show (5 * x + y) / 5 = x by omega, show (5 * x + y) % 5 = y by omega, D.pv, show (x + 5 * y) % 5 = x by omega]
/-- The blocks of its last part: the result, the moved words, what comes out. -/
def QO (w wr : World) (g : Nat) (m o : List Nat) : Prop := Ext w wr ∧ ArrAt wr (w.heap.size + 1) 121 (List.replicate 25 0) ∧ ArrAt wr (w.heap.size + 3) 121 m ∧ ArrAt wr g 121 o ∧ w.heap.size + 4 ≤ g
theorem QO.setO {w wr : World} {g : Nat} {m o : List Nat} (h : QO w wr g m o) (i a : Nat) : QO w (wr.setCell ⟨g, i, none⟩ (.int .u64 ((a : Nat) : Int))) g m (o.set i a) := by
  obtain ⟨h1, h2, h3, h4, h5⟩ := h
  exact ⟨h1.setCell (by simp; omega) _, h2.other (by omega) _ _, h3.other (by omega) _ _, h4.set i a, h5⟩
theorem QO.drew {w wr : World} {g : Nat} {m o : List Nat} (h : QO w wr g m o) : QO w wr.drew g m o := ⟨h.1.drew, h.2⟩
theorem QO.new {w wr : World} {s c t : List Nat} (h : QT w wr s c t) : QO w (wr.alloc (.cells (rowU (List.replicate 25 0)) 121)) wr.heap.size t (List.replicate 25 0) := by
  have e : Ext wr (wr.alloc (.cells (rowU (List.replicate 25 0)) 121)) := (Ext.refl wr).alloc _
  exact ⟨h.1.1.trans e, h.1.2.2.1.ext e, h.2.1.ext e, heap_alloc_new wr _, h.2.2⟩
theorem cset_step (t : List Nat) (x y : Nat) (hx : x < 5) (hy : y < 5) : D.cset t (5 * x + y + 1) = (D.cset t (5 * x + y)).set (x + 5 * y) (t.getD (x + 5 * y) 0 ^^^ (D.not64 (t.getD ((x + 1) % 5 + 5 * y) 0) &&& t.getD ((x + 2) % 5 + 5 * y) 0)) := by
  rw [D.cset, show (5 * x + y) / 5 = x by omega, show (5 * x + y) % 5 = y by omega, D.chi, show x + 5 * y - (x + 5 * y) % 5 + (x + 5 * y + 1) % 5 = (x + 1) % 5 + 5 * y by omega, show x + 5 * y - (x + 5 * y) % 5 + (x + 5 * y + 2) % 5 = (x + 2) % 5 + 5 * y by omega]
theorem QS.drew {w wr : World} {s c : List Nat} (h : QS w wr s c) : QS w wr.drew s c := ⟨h.1.drew, h.2⟩
theorem QS.ext {w wr w' : World} {s c : List Nat} (h : QS w wr s c) (he : Ext wr w') : QS w w' s c := ⟨h.1.trans he, h.2.1.ext he, h.2.2.1.ext he, h.2.2.2.1.ext he, Nat.le_trans h.2.2.2.2 he.size⟩
set_option maxRecDepth 100000 in
set_option maxHeartbeats 2000000 in
theorem Round_any (s : List Nat) (c : Nat) (w : World) (hl : s.length = 25) (hs : D.Small s) (hc : c < 18446744073709551616) : Calls Tryz.prog 127 #[.agg (rowU s), .int .u64 (c : Int)] w (Al (.agg (rowU (D.round s c))) w) := by
  obtain ⟨R, hR⟩ : ∃ R, R = D.round s c := ⟨_, rfl⟩
  rw [← hR]
  have HR := Lib.hid hR
  clear hR
  go_enter Tryz.func127, Tryz.ntmps127
  go_upto_region 2 with (fail)
  generalize hW : World.alloc (World.alloc (World.alloc w _) _) _ = W
  have hQ : QS w W s (List.replicate 5 0) ∧ W.heap.size = w.heap.size + 3 := by
    rw [← hW]
    have e1 : ∀ o1 o2 o3 : Obj, (((w.alloc o1).alloc o2).alloc o3).heap[w.heap.size]? = some o1 := fun o1 o2 o3 => by rw [heap_alloc_old _ _ (by simp <;> omega)]; exact heap_alloc2_old _ _ _
    have e2 : ∀ o1 o2 o3 : Obj, (((w.alloc o1).alloc o2).alloc o3).heap[w.heap.size + 1]? = some o2 := fun o1 o2 o3 => by rw [heap_alloc_old _ _ (by simp <;> omega)]; exact heap_alloc2_new _ _ _
    have e3 : ∀ o1 o2 o3 : Obj, (((w.alloc o1).alloc o2).alloc o3).heap[w.heap.size + 2]? = some o3 := fun o1 o2 o3 => by have := heap_alloc_new ((w.alloc o1).alloc o2) o3; simpa using this
    exact ⟨⟨(((Ext.refl w).alloc _).alloc _).alloc _, e1 _ _ _, e2 _ _ _, e3 _ _ _, by simp⟩, by simp⟩
  have HQ := Lib.hid hQ
  clear hQ hW
  go_wp2_with fail
  go_loopw [6] (fun i wr => ∃ k : Nat, k ≤ 5 ∧ i = .int .i64 k ∧ Hid (QS w wr s (D.fillL (D.col s) (List.replicate 5 0) k) ∧ wr.heap.size = w.heap.size + 3)) (fun i _ => 5 - (intOf i).toNat)
  case atStart => exact ⟨0, Nat.zero_le _, rfl, HQ.out⟩
  case round =>
    clear HQ
    obtain ⟨k, hk, rfl, HK⟩ := hrel
    by_cases hlt : k < 5
    · have c0 := HK.out.1.2.1.cell (i := k) (by omega)
      have c1 := HK.out.1.2.1.cell (i := k + 5) (by omega)
      have c2 := HK.out.1.2.1.cell (i := k + 10) (by omega)
      have c3 := HK.out.1.2.1.cell (i := k + 15) (by omega)
      have c4 := HK.out.1.2.1.cell (i := k + 20) (by omega)
      have cs := HK.out.1.2.2.2.1.cell (i := k) (by rw [D.fillL_length]; simp; omega)
      have fs := HK.out.1.2.2.2.1.frozen k
      have b0 : s.getD k 0 < 18446744073709551616 := hs.get k
      have b1 : s.getD (k + 5) 0 < 18446744073709551616 := hs.get _
      have b2 : s.getD (k + 10) 0 < 18446744073709551616 := hs.get _
      have b3 : s.getD (k + 15) 0 < 18446744073709551616 := hs.get _
      have b4 : s.getD (k + 20) 0 < 18446744073709551616 := hs.get _
      have HSET := Lib.hid (HK.out.1.setC k (D.col s k)).drew
      have HV : Hid (bits .xor .u64 (bits .xor .u64 (bits .xor .u64 (bits .xor .u64 ((s.getD k 0 : Nat) : Int) ((s.getD (k + 5) 0 : Nat) : Int)) ((s.getD (k + 10) 0 : Nat) : Int)) ((s.getD (k + 15) 0 : Nat) : Int)) ((s.getD (k + 20) 0 : Nat) : Int) = ((D.col s k : Nat) : Int)) := by
        unfold Hid
        rw [xor_val b0 b1, xor_val (D.xor_lt b0 b1) b2, xor_val (D.xor_lt (D.xor_lt b0 b1) b2) b3, xor_val (D.xor_lt (D.xor_lt (D.xor_lt b0 b1) b2) b3) b4]
        rfl
      have HN : Hid (D.fillL (D.col s) (List.replicate 5 0) (k + 1) = (D.fillL (D.col s) (List.replicate 5 0) k).set k (D.col s k)) := rfl
      rw [← HN.out] at HSET
      clear HN
      generalize D.col s k = v at HSET HV
      generalize s.getD k 0 = a0 at c0 b0 HV
      generalize s.getD (k + 5) 0 = a1 at c1 b1 HV
      generalize s.getD (k + 10) 0 = a2 at c2 b2 HV
      generalize s.getD (k + 15) 0 = a3 at c3 b3 HV
      generalize s.getD (k + 20) 0 = a4 at c4 b4 HV
      generalize (D.fillL (D.col s) (List.replicate 5 0) k).getD k 0 = old at cs
      go_wp2_with fail
      obtain ⟨Φ, hΦ⟩ : ∃ Φ : World → Prop, ∀ x, Φ x ↔ x = wr.drew := ⟨_, fun _ => Iff.rfl⟩
      have h0 : Φ wr.drew := (hΦ _).2 rfl
      have fx0 : ∀ x : Lat Φ, x.w'.cell? ⟨w.heap.size, k, none⟩ = some (.int .u64 (a0 : Int)) := fun x => by rw [(hΦ _).1 x.h]; exact c0
      have fx1 : ∀ x : Lat Φ, x.w'.cell? ⟨w.heap.size, k + 5, none⟩ = some (.int .u64 (a1 : Int)) := fun x => by rw [(hΦ _).1 x.h]; exact c1
      have fx2 : ∀ x : Lat Φ, x.w'.cell? ⟨w.heap.size, k + 10, none⟩ = some (.int .u64 (a2 : Int)) := fun x => by rw [(hΦ _).1 x.h]; exact c2
      have fx3 : ∀ x : Lat Φ, x.w'.cell? ⟨w.heap.size, k + 15, none⟩ = some (.int .u64 (a3 : Int)) := fun x => by rw [(hΦ _).1 x.h]; exact c3
      have fx4 : ∀ x : Lat Φ, x.w'.cell? ⟨w.heap.size, k + 20, none⟩ = some (.int .u64 (a4 : Int)) := fun x => by rw [(hΦ _).1 x.h]; exact c4
      have hne := Lat.some h0
      clear hΦ
      refine wp_region_tail 25 [] Φ h0 (by kernel_rfl) (by kernel_rfl) (by kernel_rfl) ?_
      simp only [List.take_succ_cons, List.take_zero, List.drop_succ_cons, List.drop_zero]
      iterate 25 (refine lex_pure rfl rfl rfl ?_; intro K hK; go_big_quiet_op; go_big_quiet_on)
      refine lex_nil ?_
      clear fx0 fx1 fx2 fx3 fx4 hne h0
      go_wp2_with fail
      exact ⟨⟨k + 1, by omega, by go_num, by rw [HV.out]; exact ⟨HSET.out, by simpa using HK.out.2⟩⟩, by simp [intOf]; omega⟩
    · have hk5 : k = 5 := by omega
      have hdk : decide ((k : Int) < 5) = false := decide_eq_false (by omega)
      rw [hk5, D.fillL_end (D.col s) (List.replicate 5 0) 5 rfl] at HK
      clear hk5
      go_upto_region 7 with (fail)
      generalize hW : World.alloc wr _ = W2
      have hQT : QT w W2 s ((List.range 5).map (D.col s)) (D.tset2 s 0) := by
        rw [← hW]
        exact QT.new HK.out
      clear hW
      rw [HK.out.2]
      have HQT := Lib.hid hQT
      clear hQT HK hlt hk
      go_wp2_with fail
      clear hdk
      go_loopw [8] (fun i wr => ∃ x : Nat, x ≤ 5 ∧ i = .int .i64 x ∧ Hid (QT w wr s ((List.range 5).map (D.col s)) (D.tset2 s (5 * x)))) (fun i _ => 5 - (intOf i).toNat)
      case atStart => exact ⟨0, Nat.zero_le _, rfl, HQT.out⟩
      case round =>
        clear HQT
        obtain ⟨x, hx, rfl, HK⟩ := hrel
        by_cases hlt : x < 5
        · obtain ⟨i1, hi1⟩ : ∃ i, i = (x + 4) % 5 := ⟨_, rfl⟩
          obtain ⟨i2, hi2⟩ : ∃ i, i = (x + 1) % 5 := ⟨_, rfl⟩
          have q3 : ((x : Int) + 4) % 5 = (i1 : Int) := by omega
          have q4 : ((x : Int) + 1) % 5 = (i2 : Int) := by omega
          have h15 : i1 < 5 := by omega
          have h25 : i2 < 5 := by omega
          have c1 := HK.out.1.2.2.2.1.cell (i := i1) (by simp; omega)
          have c2 := HK.out.1.2.2.2.1.cell (i := i2) (by simp; omega)
          rw [sum_get s (by omega)] at c1 c2
          have b1 : D.col s i1 < 18446744073709551616 := D.col_lt hs i1
          have b2 : D.col s i2 < 18446744073709551616 := D.col_lt hs i2
          have b3 : D.rot (D.col s i2) 1 < 18446744073709551616 := D.rot_lt b2 (by decide)
          have x1 := xor_val b1 b3
          have hd : D.dlt s x = D.col s i1 ^^^ D.rot (D.col s i2) 1 := by rw [hi1, hi2]; rfl
          rw [← hd] at x1
          have HR1 := Lib.hid (fun W => Rot_one (D.col s i2) W b2)
          have hdl : D.dlt s x < 18446744073709551616 := D.dlt_lt hs x
          obtain ⟨dv, hdv⟩ : ∃ dv, dv = D.dlt s x := ⟨_, rfl⟩
          rw [← hdv] at x1 hdl
          have HDV := Lib.hid hdv
          clear hi1 hi2 hd hdv
          have hdx : decide ((x : Int) < 5) = true := decide_eq_true (by omega)
          generalize D.rot (D.col s i2) 1 = v1 at *
          generalize D.col s i1 = v0 at *
          generalize D.col s i2 = v2 at *
          go_wp2_with fail
          go_quiet ((go_at_call 147; exact quiet_at (toQ (HR1.out _))))
          have HK1 := Lib.hid (HK.out.ext ((Ext.refl wr).drewN nq))
          clear HK c1 c2 x1 HR1 q3 q4
          go_wp2_with fail
          go_loopw [10] (fun i wr => ∃ y : Nat, y ≤ 5 ∧ i = .int .i64 y ∧ Hid (QT w wr s ((List.range 5).map (D.col s)) (D.tset2 s (5 * x + y)))) (fun i _ => 5 - (intOf i).toNat)
          case atStart => exact ⟨0, Nat.zero_le _, rfl, HK1.out⟩
          case round =>
            clear HK1
            obtain ⟨y, hy, rfl, HK⟩ := hrel
            by_cases hlt2 : y < 5
            · obtain ⟨z, hz⟩ : ∃ z, z = (2 * x + 3 * y) % 5 := ⟨_, rfl⟩
              obtain ⟨j, hj⟩ : ∃ j, j = D.pi (x + 5 * y) := ⟨_, rfl⟩
              obtain ⟨i, hi⟩ : ∃ i, i = x + 5 * y := ⟨_, rfl⟩
              have hjv : j = y + 5 * z := by rw [hj, hz]; unfold D.pi; rw [show (x + 5 * y) / 5 = y by omega, show (x + 5 * y) % 5 = x by omega]
              have hz5 : z < 5 := by omega
              have hj25 : j < 25 := by omega
              have hi25 : i < 25 := by omega
              have q5 : (2 * (x : Int) + 3 * (y : Int)) % 5 = (z : Int) := by omega
              have q6 : (y : Int) + 5 * (z : Int) = (j : Int) := by omega
              have q7 : (x : Int) + 5 * (y : Int) = (i : Int) := by omega
              have c0 := HK.out.1.2.1.cell (i := i) (by omega)
              have hT := HK.out.2.1
              have b0 : s.getD i 0 < 18446744073709551616 := hs.get i
              have x2 := xor_val b0 hdl
              have b5 : s.getD i 0 ^^^ dv < 18446744073709551616 := D.xor_lt b0 hdl
              have ho : D.offs.getD i 0 ≤ 63 := offs63 i
              have HR2 := Lib.hid (fun W => Rot_any (s.getD i 0 ^^^ dv) (D.offs.getD i 0) W b5 ho)
              have HOF := Lib.hid (fun W => offset_any x y W hlt hlt2)
              rw [← hi] at HOF
              have HN := Lib.hid (tset2_step s x y hlt hlt2)
              rw [← hj, ← hi, ← HDV.out] at HN
              clear hz hj hi hjv
              generalize D.rot (s.getD i 0 ^^^ dv) (D.offs.getD i 0) = v3 at HR2 HN
              generalize s.getD i 0 = a0 at c0 b0 x2 b5 HR2
              generalize a0 ^^^ dv = a1 at x2 b5 HR2
              generalize D.offs.getD i 0 = of at HOF HR2 ho
              go_wp2_with fail
              have h0 : Ext wr wr.drew := (Ext.refl wr).drew
              have fx0 : ∀ x : Lat (Ext wr), x.w'.cell? ⟨w.heap.size, i, none⟩ = some (.int .u64 (a0 : Int)) := fun x => x.h.keepc c0
              have hne := Lat.some h0
              refine wp_region_tail 22 [19, 20] (Ext wr) h0 (by kernel_rfl) (by kernel_rfl) (by kernel_rfl) ?_
              simp only [List.take_succ_cons, List.take_zero, List.drop_succ_cons, List.drop_zero]
              iterate 19 (refine lex_pure rfl rfl rfl ?_; intro K hK; go_big_quiet_op; go_big_quiet_on)
              refine lex_eff rfl ?_
              go_wp2_with fail
              refine (HOF.out _).mono ?_
              rintro e w5 ⟨rfl, d5⟩
              have D5 := Lib.hid (h0.trans d5)
              clear d5
              go_wp2_with fail
              refine ⟨⟨⟨w5, D5.out⟩, rfl⟩, ?_⟩
              refine lex_eff rfl ?_
              go_wp2_with fail
              refine (HR2.out _).mono ?_
              rintro e w6 ⟨rfl, rfl⟩
              go_wp2_with fail
              refine ⟨⟨⟨w5, D5.out⟩, rfl⟩, ?_⟩
              iterate 1 (refine lex_pure rfl rfl rfl ?_; intro K hK; go_big_quiet_op; go_big_quiet_on)
              refine lex_nil ?_
              clear fx0 hne h0
              have HK5 := Lib.hid (HK.out.ext D5.out)
              have c3 := HK5.out.2.1.cell (i := j) (by rw [D.tset2_length]; exact hj25)
              have f3 := HK5.out.2.1.frozen j
              have HSET := Lib.hid (HK5.out.setT j v3)
              rw [← HN.out] at HSET
              generalize (D.tset2 s (5 * x + y)).getD j 0 = old at c3
              go_wp2_with fail
              exact ⟨⟨y + 1, by omega, by go_num, HSET.out⟩, by simp [intOf]; omega⟩
            · have hy5 : 5 * x + y = 5 * (x + 1) := by omega
              rw [hy5] at HK
              clear hy5
              go_wp2_with fail
              exact ⟨⟨x + 1, by omega, by go_num, HK.out⟩, by simp [intOf]; omega⟩
        · have hx5 : 5 * x = 25 := by omega
          have hdx : decide ((x : Int) < 5) = false := decide_eq_false (by omega)
          rw [hx5, D.tset2_end] at HK
          obtain ⟨m, hm⟩ : ∃ m, m = D.moved s := ⟨_, rfl⟩
          have hms : D.Small m := by rw [hm]; exact D.moved_small hs
          have hml : m.length = 25 := by rw [hm, D.moved_length]
          rw [← hm] at HK
          have HRM : Hid (R = (D.chis m).set 0 ((D.chis m).getD 0 0 ^^^ c)) := by unfold Hid; rw [HR.out, hm]; rfl
          clear hx5 hm HR
          go_upto_region 16 with (fail)
          generalize hW : World.alloc wr _ = W3
          have hQO : QO w W3 wr.heap.size m (D.cset m 0) := by
            rw [← hW]
            exact QO.new HK.out
          clear hW HK hlt hx
          have hg := hQO.2.2.2.2
          have HQO := Lib.hid hQO
          clear hQO
          generalize wr.heap.size = g at HQO hg ⊢
          go_wp2_with fail
          clear hdx
          go_loopw [12] (fun i wr => ∃ x : Nat, x ≤ 5 ∧ i = .int .i64 x ∧ Hid (QO w wr g m (D.cset m (5 * x)))) (fun i _ => 5 - (intOf i).toNat)
          case atStart => exact ⟨0, Nat.zero_le _, rfl, HQO.out⟩
          case round =>
            clear HQO
            obtain ⟨x, hx, rfl, HK⟩ := hrel
            by_cases hlt : x < 5
            · have hdx : decide ((x : Int) < 5) = true := decide_eq_true (by omega)
              go_wp2_with fail
              go_loopw [13] (fun i wr => ∃ y : Nat, y ≤ 5 ∧ i = .int .i64 y ∧ Hid (QO w wr g m (D.cset m (5 * x + y)))) (fun i _ => 5 - (intOf i).toNat)
              case atStart => exact ⟨0, Nat.zero_le _, rfl, HK.out⟩
              case round =>
                clear HK
                obtain ⟨y, hy, rfl, HK⟩ := hrel
                by_cases hlt2 : y < 5
                · obtain ⟨i1, hi1⟩ : ∃ i, i = (x + 1) % 5 := ⟨_, rfl⟩
                  obtain ⟨i2, hi2⟩ : ∃ i, i = (x + 2) % 5 := ⟨_, rfl⟩
                  obtain ⟨i, hi⟩ : ∃ i, i = x + 5 * y := ⟨_, rfl⟩
                  obtain ⟨j1, hj1⟩ : ∃ i, i = i1 + 5 * y := ⟨_, rfl⟩
                  obtain ⟨j2, hj2⟩ : ∃ i, i = i2 + 5 * y := ⟨_, rfl⟩
                  have h15 : i1 < 5 := by omega
                  have h25 : i2 < 5 := by omega
                  have hi25 : i < 25 := by omega
                  have hj125 : j1 < 25 := by omega
                  have hj225 : j2 < 25 := by omega
                  have q1 : ((x : Int) + 1) % 5 = (i1 : Int) := by omega
                  have q2 : ((x : Int) + 2) % 5 = (i2 : Int) := by omega
                  have q3 : (x : Int) + 5 * (y : Int) = (i : Int) := by omega
                  have q4 : (i1 : Int) + 5 * (y : Int) = (j1 : Int) := by omega
                  have q5 : (i2 : Int) + 5 * (y : Int) = (j2 : Int) := by omega
                  have c0 := HK.out.2.2.1.cell (i := i) (by omega)
                  have c1 := HK.out.2.2.1.cell (i := j1) (by omega)
                  have c2 := HK.out.2.2.1.cell (i := j2) (by omega)
                  have cs := HK.out.2.2.2.1.cell (i := i) (by rw [D.cset_length]; omega)
                  have fs := HK.out.2.2.2.1.frozen i
                  have b0 : m.getD i 0 < 18446744073709551616 := hms.get i
                  have b1 : m.getD j1 0 < 18446744073709551616 := hms.get j1
                  have b2 : m.getD j2 0 < 18446744073709551616 := hms.get j2
                  have HN := Lib.hid (cset_step m x y hlt hlt2)
                  rw [← hi1, ← hi2, ← hi, ← hj1, ← hj2] at HN
                  have HSET := Lib.hid (HK.out.setO i (m.getD i 0 ^^^ (D.not64 (m.getD j1 0) &&& m.getD j2 0))).drew
                  rw [← HN.out] at HSET
                  have HV : Hid (bits .xor .u64 ((m.getD i 0 : Nat) : Int) (bits .and .u64 (bits .xor .u64 (if IntKind.u64.signed = true then -1 else IntKind.u64.max) ((m.getD j1 0 : Nat) : Int)) ((m.getD j2 0 : Nat) : Int)) = ((m.getD i 0 ^^^ (D.not64 (m.getD j1 0) &&& m.getD j2 0) : Nat) : Int)) := by
                    unfold Hid
                    rw [not_val b1, bits_and_u64_nat (D.not64 (m.getD j1 0)) (m.getD j2 0) (D.not_lt64 _) b2, xor_val b0 (D.and_lt b2)]
                  clear hi1 hi2 hi hj1 hj2 HN
                  generalize m.getD i 0 ^^^ (D.not64 (m.getD j1 0) &&& m.getD j2 0) = v at HSET HV
                  generalize m.getD i 0 = a0 at c0 b0 HV
                  generalize m.getD j1 0 = a1 at c1 b1 HV
                  generalize m.getD j2 0 = a2 at c2 b2 HV
                  generalize (D.cset m (5 * x + y)).getD i 0 = old at cs
                  go_wp2_with fail
                  obtain ⟨Φ, hΦ⟩ : ∃ Φ : World → Prop, ∀ x, Φ x ↔ x = wr.drew := ⟨_, fun _ => Iff.rfl⟩
                  have h0 : Φ wr.drew := (hΦ _).2 rfl
                  have fx0 : ∀ x : Lat Φ, x.w'.cell? ⟨w.heap.size + 3, i, none⟩ = some (.int .u64 (a0 : Int)) := fun x => by rw [(hΦ _).1 x.h]; exact c0
                  have fx1 : ∀ x : Lat Φ, x.w'.cell? ⟨w.heap.size + 3, j1, none⟩ = some (.int .u64 (a1 : Int)) := fun x => by rw [(hΦ _).1 x.h]; exact c1
                  have fx2 : ∀ x : Lat Φ, x.w'.cell? ⟨w.heap.size + 3, j2, none⟩ = some (.int .u64 (a2 : Int)) := fun x => by rw [(hΦ _).1 x.h]; exact c2
                  have hne := Lat.some h0
                  clear hΦ
                  refine wp_region_tail 30 [] Φ h0 (by kernel_rfl) (by kernel_rfl) (by kernel_rfl) ?_
                  simp only [List.take_succ_cons, List.take_zero, List.drop_succ_cons, List.drop_zero]
                  iterate 30 (refine lex_pure rfl rfl rfl ?_; intro K hK; go_big_quiet_op; go_big_quiet_on)
                  refine lex_nil ?_
                  clear fx0 fx1 fx2 hne h0
                  go_wp2_with fail
                  exact ⟨⟨y + 1, by omega, by go_num, by rw [HV.out]; exact HSET.out⟩, by simp [intOf]; omega⟩
                · have hy5 : 5 * x + y = 5 * (x + 1) := by omega
                  rw [hy5] at HK
                  clear hy5
                  go_wp2_with fail
                  exact ⟨⟨x + 1, by omega, by go_num, HK.out⟩, by simp [intOf]; omega⟩
            · have hx5 : 5 * x = 25 := by omega
              rw [hx5, D.cset_end] at HK
              have hc0 := HK.out.2.2.2.1.cell (i := 0) (by rw [D.chis_length]; decide)
              have hf0 := HK.out.2.2.2.1.frozen 0
              have b0 : (D.chis m).getD 0 0 < 18446744073709551616 := (D.chis_small hms).get 0
              have hxv := xor_val b0 hc
              have HSET := Lib.hid (HK.out.setO 0 ((D.chis m).getD 0 0 ^^^ c))
              rw [← HRM.out] at HSET
              have hrl : R.length = 25 := by rw [HRM.out, List.length_set, D.chis_length]
              generalize (D.chis m).getD 0 0 ^^^ c = v at *
              generalize (D.chis m).getD 0 0 = a0 at *
              clear HRM HK hx5
              go_upto_region 24 with (fail)
              clear hc0 hf0 hxv b0
              generalize World.setCell wr _ _ = W4 at HSET ⊢
              have hA : W4.heap[g]? = some (.cells (rowU R) 121 (0, 0)) := HSET.out.2.2.2.1
              have hB : W4.heap[w.heap.size + 1]? = some (.cells (rowU (List.replicate 25 0)) 121 (0, 0)) := HSET.out.2.1
              have hi := Lib.hid (info121 hrl)
              have HZ := Lib.hid (show (rowU (List.replicate 25 0)).size = (rowU R).size by rw [rowU_size, rowU_size, hrl]; rfl)
              clear hrl
              go_wp2_with (first
                | (refine wpList_load_row rfl 121 _ rfl g rfl 121 _ (0, 0) _ hA Tryz.underlying121 rfl hi.out ?_)
                | (refine wpList_store_row rfl 121 (.tmp 4) (.tmp 128) rfl (w.heap.size + 1) (rowU R) rfl rfl 121 _ hB hi.out HZ.out (rowU_one R) ?_))
              have hC := heap_setRow W4 (w.heap.size + 1) (rowU R) hB
              refine bodyPost_ret (v := .agg (rowU R)) ?_ rfl ⟨rfl, HSET.out.1.setRow (by omega) _⟩
              exact results_cell_row (p := 4) (ty := 121) Tryz.results127 _ _ (w.heap.size + 1) 121 (rowU R) (0, 0) _ rfl hC Tryz.underlying121 rfl hi.out
end Go.Proofs.YtclhbcicbnoohaaGreatDoor
