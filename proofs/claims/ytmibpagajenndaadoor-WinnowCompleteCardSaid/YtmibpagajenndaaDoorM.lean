/- Plain facts on residues modulo 2^61 - 1: no program in sight. -/
import Derived.Laws.BitsAllLaws
import Derived.Laws.BitsLemmas
import Derived.IntWalk
namespace Go.Proofs.YtmibpagajenndaaDoor.M

/-- The product's two halves, added, are the product modulo 2^61 - 1. -/
theorem fold_mod (p : Int) : (p % 2305843009213693952 + p / 2305843009213693952) % 2305843009213693951 = p % 2305843009213693951 := by omega

theorem and_mask (x : Int) (h0 : 0 ≤ x) (h1 : x < 18446744073709551616) : bits .and .u64 x 2305843009213693951 = x % 2305843009213693952 := by
  have := u64_and x 2305843009213693951 h0 h1 (by omega) (by omega)
  rw [this]
  have e : (2305843009213693951 : Int).toNat = 2 ^ 61 - 1 := by decide
  rw [e, Nat.and_two_pow_sub_one_eq_mod]
  obtain ⟨n, rfl⟩ := Int.eq_ofNat_of_zero_le h0
  rw [Int.toNat_natCast]
  simp

theorem or_join (h l : Int) (h0 : 0 ≤ h) (h1 : h < 2305843009213693952) (l0 : 0 ≤ l) (l1 : l < 8) : bits .or .u64 (h * 8) l = h * 8 + l := by
  obtain ⟨n, rfl⟩ := Int.eq_ofNat_of_zero_le h0
  obtain ⟨m, rfl⟩ := Int.eq_ofNat_of_zero_le l0
  have e : ((n : Int) * 8) = ((n * 8 : Nat) : Int) := by simp
  rw [e, u64_or_nat _ _ (by omega) (by omega), nat_join 3 _ _ (by omega) (by omega)]
  simp

theorem mulHalves (p : Int) (h0 : 0 ≤ p) (h1 : p < 2305843009213693952 * 2305843009213693952) :
    bits .or .u64 (p / 18446744073709551616 * 8) (p % 18446744073709551616 / 2305843009213693952) = p / 2305843009213693952 := by
  rw [or_join _ _ (by omega) (by omega) (by omega) (by omega)]
  omega

/-- The code of a word. -/
def code (l : List UInt8) : Int := l.foldl (fun c b => (257 * c + (b.toNat + 1)) % 2305843009213693951) 0
theorem code_snoc (l : List UInt8) (b : UInt8) : code (l ++ [b]) = (257 * code l + (b.toNat + 1)) % 2305843009213693951 := by
  unfold code; rw [List.foldl_append]; rfl
theorem code_range (l : List UInt8) : 0 ≤ code l ∧ code l < 2305843009213693951 := by
  rcases l.eq_nil_or_concat with rfl | ⟨l', b, rfl⟩
  · decide
  · rw [List.concat_eq_append, code_snoc]; omega

/-- Powers, by squaring as the code goes: the residue of the power. -/
def pw (b : Int) : Nat → Int
  | 0 => 1
  | n + 1 => b * pw b n % 2305843009213693951
theorem pw_range (b : Int) (n : Nat) : 0 ≤ pw b n ∧ pw b n < 2305843009213693951 := by
  cases n with
  | zero => exact ⟨by unfold pw; omega, by unfold pw; omega⟩
  | succ n => unfold pw; omega

theorem mul_range {a b : Int} (ha : 0 ≤ a ∧ a < 2305843009213693951) (hb : 0 ≤ b ∧ b < 2305843009213693951) : 0 ≤ a * b ∧ a * b < 2305843009213693952 * 2305843009213693952 := by
  refine ⟨Int.mul_nonneg ha.1 hb.1, ?_⟩
  have h1 : a * b ≤ 2305843009213693952 * b := Int.mul_le_mul_of_nonneg_right (by omega) hb.1
  omega

/-- What is left to multiply: a^n times the square's power. -/
theorem emod_mul_left (a b m : Int) : (a % m) * b % m = a * b % m := by rw [Int.mul_emod, Int.emod_emod_of_dvd _ (Int.dvd_refl m), ← Int.mul_emod]
theorem emod_mul_right (a b m : Int) : a * (b % m) % m = a * b % m := by rw [Int.mul_emod, Int.emod_emod_of_dvd _ (Int.dvd_refl m), ← Int.mul_emod]

theorem pw_add (b : Int) (m n : Nat) : pw b m * pw b n % 2305843009213693951 = pw b (m + n) % 2305843009213693951 := by
  induction m with
  | zero => simp [pw]
  | succ m ih =>
    rw [Nat.succ_add]
    show b * pw b m % 2305843009213693951 * pw b n % 2305843009213693951 = b * pw b (m + n) % 2305843009213693951 % 2305843009213693951
    rw [emod_mul_left, Int.mul_assoc, Int.emod_emod_of_dvd _ (Int.dvd_refl _), ← emod_mul_right b (pw b m * pw b n), ih, emod_mul_right]

theorem pw_self (b : Int) (n : Nat) : pw b n % 2305843009213693951 = pw b n := Int.emod_eq_of_lt (pw_range b n).1 (pw_range b n).2

theorem pw_add' (b : Int) (m n : Nat) : pw b m * pw b n % 2305843009213693951 = pw b (m + n) := by rw [pw_add, pw_self]

theorem pw_one (b : Int) (h0 : 0 ≤ b) (h1 : b < 2305843009213693951) : pw b 1 = b := by
  show b * 1 % 2305843009213693951 = b
  rw [Int.mul_one, Int.emod_eq_of_lt h0 h1]

/-- The square's power: (b^2)^n = b^(2n). -/
theorem pw_sq (b : Int) (n : Nat) : pw (b * b % 2305843009213693951) n = pw b (n + n) := by
  induction n with
  | zero => rfl
  | succ n ih =>
    rw [show n + 1 + (n + 1) = (n + n) + 1 + 1 from by omega]
    show (b * b % 2305843009213693951) * pw (b * b % 2305843009213693951) n % 2305843009213693951 = b * (b * pw b (n + n) % 2305843009213693951) % 2305843009213693951
    rw [ih, emod_mul_left, emod_mul_right, Int.mul_assoc]

/-- One round of the squaring loop keeps 'out * square^n'. -/
theorem round_odd (out sq : Int) (n : Nat) (hodd : n % 2 = 1) : out * sq % 2305843009213693951 * pw (sq * sq % 2305843009213693951) (n / 2) % 2305843009213693951 = out * pw sq n % 2305843009213693951 := by
  rw [pw_sq, emod_mul_left, Int.mul_assoc]
  rw [show n = (n / 2 + n / 2) + 1 from by omega, show ((n / 2 + n / 2 + 1) / 2) = n / 2 from by omega]
  show _ = out * (sq * pw sq (n / 2 + n / 2) % 2305843009213693951) % 2305843009213693951
  rw [emod_mul_right]
theorem round_even (out sq : Int) (n : Nat) (hev : n % 2 = 0) : out * pw (sq * sq % 2305843009213693951) (n / 2) % 2305843009213693951 = out * pw sq n % 2305843009213693951 := by
  rw [pw_sq, show n / 2 + n / 2 = n from by omega]

/-- The hash of some words, one more behind. -/
def next (h : Int) (s : List UInt8) : Int := (1000003 * h + (code s + 1)) % 2305843009213693951
theorem next_range (h : Int) (s : List UInt8) : 0 ≤ next h s ∧ next h s < 2305843009213693951 := by unfold next; omega
def hash (l : List (List UInt8)) : Int := l.foldl next 0
theorem hash_range (l : List (List UInt8)) : 0 ≤ hash l ∧ hash l < 2305843009213693951 := by
  rcases l.eq_nil_or_concat with rfl | ⟨l', b, rfl⟩
  · decide
  · rw [List.concat_eq_append]; unfold hash; rw [List.foldl_append]; exact next_range _ _
theorem hash_snoc (l : List (List UInt8)) (s : List UInt8) : hash (l ++ [s]) = next (hash l) s := by unfold hash; rw [List.foldl_append]; rfl

/-- A run that moves on by a word. -/
def roll (h : Int) (out inn : List UInt8) (top : Int) : Int :=
  next ((h + (2305843009213693951 - (code out + 1) % 2305843009213693951 * top % 2305843009213693951)) % 2305843009213693951) inn

theorem emod_add_left (a b m : Int) : (a % m + b) % m = (a + b) % m := by rw [Int.add_emod, Int.emod_emod_of_dvd _ (Int.dvd_refl m), ← Int.add_emod]
theorem emod_add_right (a b m : Int) : (a + b % m) % m = (a + b) % m := by rw [Int.add_emod, Int.emod_emod_of_dvd _ (Int.dvd_refl m), ← Int.add_emod]
theorem times_even (x o : Int) (n : Nat) (c : Int) (he : n % 2 = 0) (h : (o + x * n) % 2305843009213693951 = c) :
    (o + (x + x) % 2305843009213693951 * (n / 2 : Nat)) % 2305843009213693951 = c := by
  rw [← h, Int.add_emod, emod_mul_left, ← Int.add_emod]
  have e : (n : Int) = ((n / 2 : Nat) : Int) + ((n / 2 : Nat) : Int) := by omega
  generalize ((n / 2 : Nat) : Int) = k at *
  rw [e, Int.mul_add, Int.add_mul]
theorem times_odd (x o : Int) (n : Nat) (c : Int) (he : n % 2 = 1) (h : (o + x * n) % 2305843009213693951 = c) :
    ((o + x) % 2305843009213693951 + (x + x) % 2305843009213693951 * (n / 2 : Nat)) % 2305843009213693951 = c := by
  rw [← h, Int.add_emod, emod_mul_left, ← Int.add_emod, emod_add_left]
  have e : (n : Int) = ((n / 2 : Nat) : Int) + ((n / 2 : Nat) : Int) + 1 := by omega
  generalize ((n / 2 : Nat) : Int) = k at *
  rw [e, Int.mul_add, Int.mul_add, Int.add_mul, Int.mul_one]
  congr 1
  omega

theorem emod_cong {a b : Int} (h : (a - b) % 2305843009213693951 = 0) : a % 2305843009213693951 = b % 2305843009213693951 := by omega
theorem next_add (h g : Int) (s : List UInt8) : next (h + g) s = (1000003 * h + next g s) % 2305843009213693951 := by
  unfold next
  rw [emod_add_right]
  congr 1
  rw [Int.mul_add, Int.add_assoc]
theorem foldl_next (l : List (List UInt8)) : ∀ h, 0 ≤ h ∧ h < 2305843009213693951 → l.foldl next h = (h * pw 1000003 l.length + hash l) % 2305843009213693951 := by
  intro h hh
  rcases l.eq_nil_or_concat with rfl | ⟨l', b, rfl⟩
  · show h = (h * 1 + 0) % _
    rw [Int.mul_one, Int.add_zero, Int.emod_eq_of_lt hh.1 hh.2]
  · rw [List.concat_eq_append, hash_snoc, List.foldl_append]
    show next (l'.foldl next h) b = _
    have ih := foldl_next l' h hh
    rw [ih, List.length_append]
    show next ((h * pw 1000003 l'.length + hash l') % 2305843009213693951) b = (h * (1000003 * pw 1000003 l'.length % 2305843009213693951) + next (hash l') b) % 2305843009213693951
    have e1 : next ((h * pw 1000003 l'.length + hash l') % 2305843009213693951) b = next (h * pw 1000003 l'.length + hash l') b := by
      unfold next
      rw [Int.add_emod, emod_mul_right, ← Int.add_emod]
    rw [e1, next_add]
    rw [Int.add_emod (h * _), emod_mul_right, ← Int.add_emod]
    congr 2
    rw [← Int.mul_assoc, ← Int.mul_assoc, Int.mul_comm 1000003 h]
termination_by l.length
decreasing_by simp_all
theorem hash_append (a b : List (List UInt8)) : hash (a ++ b) = (hash a * pw 1000003 b.length + hash b) % 2305843009213693951 := by
  conv => lhs; unfold hash
  rw [List.foldl_append]
  exact foldl_next b _ (hash_range a)
theorem hash_one (s : List UInt8) : hash [s] = (code s + 1) % 2305843009213693951 := by
  show next 0 s = _
  unfold next
  rw [Int.mul_zero, Int.zero_add]
theorem roll_hash (x y : List UInt8) (xs : List (List UInt8)) : roll (hash (x :: xs)) x y (pw 1000003 xs.length) = hash (xs ++ [y]) := by
  have h := hash_append [x] xs
  rw [hash_one] at h
  rw [show x :: xs = [x] ++ xs from rfl, h, hash_snoc]
  unfold roll
  congr 1
  have hr := hash_range xs
  generalize (code x + 1) % 2305843009213693951 * pw 1000003 xs.length = q at *
  omega

attribute [irreducible] code pw next hash roll

end Go.Proofs.YtmibpagajenndaaDoor.M
