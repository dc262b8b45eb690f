/- 2^61 - 1 has no divisor but 1 and itself: by the powers of 37 (Lucas). No program in sight. -/
import Derived.IntWalk
namespace Go.Proofs.Ytmibpagajenndaa.Prime

theorem least {p : Nat → Prop} : ∀ n, p n → ∃ m, p m ∧ ∀ k, k < m → ¬ p k := by
  intro n
  induction n using Nat.strongRecOn with
  | _ n ih =>
    intro h
    by_cases hk : ∃ k, k < n ∧ p k
    · obtain ⟨k, h1, h2⟩ := hk
      exact ih k h1 h2
    · exact ⟨n, h, fun k h1 h2 => hk ⟨k, h1, h2⟩⟩

theorem pigeon : ∀ (d o : Nat) (f : Nat → Nat), (∀ i, i < o → f i < d) → (∀ i j, i < j → j < o → f i ≠ f j) → o ≤ d := by
  intro d
  induction d with
  | zero =>
    intro o f h _
    rcases Nat.eq_zero_or_pos o with h0 | h0
    · omega
    · exact absurd (h 0 h0) (Nat.not_lt_zero _)
  | succ d ih =>
    intro o f h hi
    by_cases hd : ∃ i, i < o ∧ f i = d
    · obtain ⟨i0, h1, h2⟩ := hd
      have := ih (o - 1) (fun i => f (if i < i0 then i else i + 1)) ?_ ?_
      · omega
      · intro i hio
        show f (if i < i0 then i else i + 1) < d
        split
        · rename_i hlt
          have := h i (by omega)
          have := hi i i0 hlt h1
          omega
        · rename_i hge
          have := h (i + 1) (by omega)
          have := hi i0 (i + 1) (by omega) (by omega)
          omega
      · intro i j hij hj
        show f (if i < i0 then i else i + 1) ≠ f (if j < i0 then j else j + 1)
        split <;> split
        · exact hi _ _ hij (by omega)
        · exact hi _ _ (by omega) (by omega)
        · omega
        · exact hi _ _ (by omega) (by omega)
    · have := ih o f (fun i hio => by
        have := h i hio
        have : f i ≠ d := fun e => hd ⟨i, hio, e⟩
        omega) hi
      omega

/-- b^e modulo m, e by its bits, the highest first. -/
def powBits (b m : Nat) : List Bool → Nat → Nat
  | [], acc => acc
  | x :: bits, acc => powBits b m bits (if x then acc * acc % m * b % m else acc * acc % m)
def val : List Bool → Nat → Nat
  | [], e => e
  | x :: bits, e => val bits (if x then 2 * e + 1 else 2 * e)
theorem powBits_eq (b m : Nat) : ∀ (bits : List Bool) (e : Nat), powBits b m bits (b ^ e % m) = b ^ val bits e % m
  | [], _ => rfl
  | x :: bits, e => by
    unfold powBits val
    cases x with
    | false =>
      simp only [Bool.false_eq_true, if_false]
      rw [← Nat.mul_mod, ← Nat.pow_add, show e + e = 2 * e by omega]
      exact powBits_eq b m bits _
    | true =>
      simp only [if_true]
      rw [← Nat.mul_mod, ← Nat.pow_add, show e + e = 2 * e by omega, Nat.mod_mul_mod, ← Nat.pow_succ]
      exact powBits_eq b m bits _

def PP : Nat := 2305843009213693951
def NN : Nat := 2305843009213693950
theorem PP_eq : PP = 2305843009213693951 := rfl
theorem NN_eq : NN = 2305843009213693950 := rfl
/-- b^e modulo m. -/
def pm (b e m : Nat) : Nat := b ^ e % m
theorem pm_def (b e m : Nat) : pm b e m = b ^ e % m := rfl
attribute [irreducible] pm
def qs : List Nat := [2, 3, 5, 7, 11, 13, 31, 41, 61, 151, 331, 1321]

theorem ord_div {d o : Nat} (h0 : 0 < o) (hmin : ∀ k, k < o → ¬ (0 < k ∧ 37 ^ k % d = 1 % d)) (ho : 37 ^ o % d = 1 % d) {n : Nat} (hn : 37 ^ n % d = 1 % d) : n % o = 0 := by
  rcases Nat.eq_zero_or_pos (n % o) with h | h
  · exact h
  · exfalso
    refine hmin (n % o) (Nat.mod_lt _ h0) ⟨h, ?_⟩
    have e : n = o * (n / o) + n % o := (Nat.div_add_mod n o).symm
    rw [e, Nat.pow_add, Nat.pow_mul, Nat.mul_mod, Nat.pow_mod, ho] at hn
    rw [← Nat.pow_mod, Nat.one_pow, ← Nat.mul_mod, Nat.one_mul] at hn
    exact hn

theorem order_big {N P d : Nat} (hN0 : 0 < N) (_hP0 : 0 < P) (hNe : N = 2 * (3 * (3 * (5 * (5 * (7 * (11 * (13 * (31 * (41 * (61 * (151 * (331 * 1321))))))))))))) (hd : d ∣ P) (h1 : 1 < d) (hN : 37 ^ N % P = 1)
    (hq : ∀ q ∈ qs, Nat.gcd (37 ^ (N / q) % P - 1) P = 1 ∧ 1 ≤ 37 ^ (N / q) % P) : N ≤ d := by
  have h1d : 1 % d = 1 := Nat.mod_eq_of_lt h1
  have hNd : 37 ^ N % d = 1 % d := by
    have : 37 ^ N % P % d = 37 ^ N % d := Nat.mod_mod_of_dvd _ hd
    rw [hN] at this
    exact this.symm
  obtain ⟨o, ⟨ho0, ho⟩, hmin⟩ := least (p := fun k => 0 < k ∧ 37 ^ k % d = 1 % d) N ⟨hN0, hNd⟩
  have hdiv := ord_div ho0 hmin ho hNd
  have hoN : o * (N / o) = N := Nat.mul_div_cancel' (Nat.dvd_of_mod_eq_zero hdiv)
  have hm : N / o = 1 := by
    generalize N / o = m at hoN
    -- no listed prime divides m
    have hno : ∀ q ∈ qs, ¬ q ∣ m := by
      intro q hqm ⟨r, hr⟩
      have hq0 : 0 < q := by
        rcases Nat.eq_zero_or_pos q with h | h
        · subst h; revert hqm; decide
        · exact h
      have e1 : N / q = o * r := by
        rw [← hoN, hr, ← Nat.mul_assoc, Nat.mul_comm o q, Nat.mul_assoc, Nat.mul_div_cancel_left _ hq0]
      obtain ⟨g1, g2⟩ := hq q hqm
      have e2 : 37 ^ (N / q) % d = 1 := by
        rw [e1, Nat.pow_mul, Nat.pow_mod, ho, ← Nat.pow_mod, Nat.one_pow, h1d]
      rw [← Nat.mod_mod_of_dvd _ hd] at e2
      generalize 37 ^ (N / q) % P = x at g1 g2 e2
      have hdx : d ∣ x - 1 := by
        refine ⟨x / d, ?_⟩
        have := Nat.div_add_mod x d
        omega
      have := Nat.dvd_gcd hdx hd
      rw [g1] at this
      have := Nat.le_of_dvd (by omega) this
      omega
    have hc : ∀ q ∈ qs, Nat.Coprime m q := by
      intro q hqm
      have hg : Nat.gcd m q ∣ q := Nat.gcd_dvd_right m q
      have hp : ∀ q ∈ qs, ∀ x, x < q + 1 → q % x = 0 → x = 1 ∨ x = q := by decide +kernel
      have hq0 : 0 < q := by
        rcases Nat.eq_zero_or_pos q with h | h
        · subst h; revert hqm; decide
        · exact h
      rcases hp q hqm (Nat.gcd m q) (by have := Nat.le_of_dvd hq0 hg; omega) (Nat.mod_eq_zero_of_dvd hg) with h | h
      · exact h
      · exact absurd (h ▸ Nat.gcd_dvd_left m q) (hno q hqm)
    have hcN : Nat.Coprime m N := by
      rw [hNe]
      refine Nat.Coprime.mul_right (hc 2 (by decide)) ?_
      refine Nat.Coprime.mul_right (hc 3 (by decide)) ?_
      refine Nat.Coprime.mul_right (hc 3 (by decide)) ?_
      refine Nat.Coprime.mul_right (hc 5 (by decide)) ?_
      refine Nat.Coprime.mul_right (hc 5 (by decide)) ?_
      refine Nat.Coprime.mul_right (hc 7 (by decide)) ?_
      refine Nat.Coprime.mul_right (hc 11 (by decide)) ?_
      refine Nat.Coprime.mul_right (hc 13 (by decide)) ?_
      refine Nat.Coprime.mul_right (hc 31 (by decide)) ?_
      refine Nat.Coprime.mul_right (hc 41 (by decide)) ?_
      refine Nat.Coprime.mul_right (hc 61 (by decide)) ?_
      refine Nat.Coprime.mul_right (hc 151 (by decide)) ?_
      refine Nat.Coprime.mul_right (hc 331 (by decide)) ?_
      exact hc 1321 (by decide)
    have hmd : m ∣ N := ⟨o, by rw [← hoN, Nat.mul_comm]⟩
    exact Nat.Coprime.eq_one_of_dvd hcN hmd
  rw [hm, Nat.mul_one] at hoN
  rw [← hoN]
  have hNo : 37 ^ o % d = 1 % d := ho
  refine pigeon d o (fun i => 37 ^ i % d) (fun i _ => Nat.mod_lt _ (by omega)) (fun i j hij hj he => ?_)
  refine hmin (j - i) (by omega) ⟨by omega, ?_⟩
  have h3 : 37 ^ (o - i) * 37 ^ j % d = 37 ^ (o - i) * 37 ^ i % d := by rw [Nat.mul_mod, ← he, ← Nat.mul_mod]
  rw [← Nat.pow_add, ← Nat.pow_add, show o - i + i = o by omega, show o - i + j = o + (j - i) by omega, Nat.pow_add, Nat.mul_mod, ho, ← Nat.mul_mod, Nat.one_mul] at h3
  exact h3

theorem pow37 (bits : List Bool) (e r : Nat) (hv : val bits 0 = e) (hr : powBits 37 PP bits 1 = r) : pm 37 e PP = r := by
  rw [pm_def]
  have h := powBits_eq 37 PP bits 0
  rw [hv] at h
  rw [← h, ← hr]
  rfl
theorem pw1 : pm 37 2305843009213693950 PP = 1 := pow37 [true, true, true, true, true, true, true, true, true, true, true, true, true, true, true, true, true, true, true, true, true, true, true, true, true, true, true, true, true, true, true, true, true, true, true, true, true, true, true, true, true, true, true, true, true, true, true, true, true, true, true, true, true, true, true, true, true, true, true, true, false] _ _ (by decide +kernel) (by decide +kernel)
theorem pw2 : pm 37 1152921504606846975 PP = 2305843009213693950 := pow37 [true, true, true, true, true, true, true, true, true, true, true, true, true, true, true, true, true, true, true, true, true, true, true, true, true, true, true, true, true, true, true, true, true, true, true, true, true, true, true, true, true, true, true, true, true, true, true, true, true, true, true, true, true, true, true, true, true, true, true, true] _ _ (by decide +kernel) (by decide +kernel)
theorem pw3 : pm 37 768614336404564650 PP = 1669582390241348315 := pow37 [true, false, true, false, true, false, true, false, true, false, true, false, true, false, true, false, true, false, true, false, true, false, true, false, true, false, true, false, true, false, true, false, true, false, true, false, true, false, true, false, true, false, true, false, true, false, true, false, true, false, true, false, true, false, true, false, true, false, true, false] _ _ (by decide +kernel) (by decide +kernel)
theorem pw5 : pm 37 461168601842738790 PP = 725554454131936870 := pow37 [true, true, false, false, true, true, false, false, true, true, false, false, true, true, false, false, true, true, false, false, true, true, false, false, true, true, false, false, true, true, false, false, true, true, false, false, true, true, false, false, true, true, false, false, true, true, false, false, true, true, false, false, true, true, false, false, true, true, false] _ _ (by decide +kernel) (by decide +kernel)
theorem pw7 : pm 37 329406144173384850 PP = 1165310750493918737 := pow37 [true, false, false, true, false, false, true, false, false, true, false, false, true, false, false, true, false, false, true, false, false, true, false, false, true, false, false, true, false, false, true, false, false, true, false, false, true, false, false, true, false, false, true, false, false, true, false, false, true, false, false, true, false, false, true, false, false, true, false] _ _ (by decide +kernel) (by decide +kernel)
theorem pw11 : pm 37 209622091746699450 PP = 2266698407988980144 := pow37 [true, false, true, true, true, false, true, false, false, false, true, false, true, true, true, false, true, false, false, false, true, false, true, true, true, false, true, false, false, false, true, false, true, true, true, false, true, false, false, false, true, false, true, true, true, false, true, false, false, false, true, false, true, true, true, false, true, false] _ _ (by decide +kernel) (by decide +kernel)
theorem pw13 : pm 37 177372539170284150 PP = 1032504562576723207 := pow37 [true, false, false, true, true, true, false, true, true, false, false, false, true, false, false, true, true, true, false, true, true, false, false, false, true, false, false, true, true, true, false, true, true, false, false, false, true, false, false, true, true, true, false, true, true, false, false, false, true, false, false, true, true, true, false, true, true, false] _ _ (by decide +kernel) (by decide +kernel)
theorem pw31 : pm 37 74382032555280450 PP = 484083891529811867 := pow37 [true, false, false, false, false, true, false, false, false, false, true, false, false, false, false, true, false, false, false, false, true, false, false, false, false, true, false, false, false, false, true, false, false, false, false, true, false, false, false, false, true, false, false, false, false, true, false, false, false, false, true, false, false, false, false, true, false] _ _ (by decide +kernel) (by decide +kernel)
theorem pw41 : pm 37 56240073395455950 PP = 1562651311446036838 := pow37 [true, true, false, false, false, true, true, true, true, true, false, false, true, true, true, false, false, false, false, false, true, true, false, false, false, true, true, true, true, true, false, false, true, true, true, false, false, false, false, false, true, true, false, false, false, true, true, true, true, true, false, false, true, true, true, false] _ _ (by decide +kernel) (by decide +kernel)
theorem pw61 : pm 37 37800705069076950 PP = 35184372088832 := pow37 [true, false, false, false, false, true, true, false, false, true, false, false, true, false, true, true, true, false, false, false, true, false, true, false, false, true, true, true, true, true, false, true, true, true, true, false, false, true, true, false, true, true, false, true, false, false, false, true, true, true, false, true, false, true, true, false] _ _ (by decide +kernel) (by decide +kernel)
theorem pw151 : pm 37 15270483504726450 PP = 1433721343585656393 := pow37 [true, true, false, true, true, false, false, true, false, false, false, false, false, false, false, true, true, false, true, true, false, false, true, false, false, false, false, false, false, false, true, true, false, true, true, false, false, true, false, false, false, false, false, false, false, true, true, false, true, true, false, false, true, false] _ _ (by decide +kernel) (by decide +kernel)
theorem pw331 : pm 37 6966293079195450 PP = 185945230422323302 := pow37 [true, true, false, false, false, true, false, true, true, true, true, true, true, true, true, false, false, true, true, true, false, true, false, false, false, false, false, false, false, false, true, true, false, false, false, true, false, true, true, true, true, true, true, true, true, false, false, true, true, true, false, true, false] _ _ (by decide +kernel) (by decide +kernel)
theorem pw1321 : pm 37 1745528394559950 PP = 30210013857155493 := pow37 [true, true, false, false, false, true, true, false, false, true, true, true, false, false, false, true, true, false, false, false, true, true, true, true, true, true, true, true, true, true, false, false, true, true, true, false, false, true, true, false, false, false, true, true, true, false, false, true, true, true, false] _ _ (by decide +kernel) (by decide +kernel)
theorem all_pw : ∀ q ∈ qs, Nat.gcd (pm 37 (NN / q) PP - 1) PP = 1 ∧ 1 ≤ pm 37 (NN / q) PP := by
  intro q hq
  simp only [qs, List.mem_cons, List.not_mem_nil, or_false] at hq
  rcases hq with rfl | rfl | rfl | rfl | rfl | rfl | rfl | rfl | rfl | rfl | rfl | rfl
  · rw [show NN / 2 = 1152921504606846975 by decide, pw2]; decide +kernel
  · rw [show NN / 3 = 768614336404564650 by decide, pw3]; decide +kernel
  · rw [show NN / 5 = 461168601842738790 by decide, pw5]; decide +kernel
  · rw [show NN / 7 = 329406144173384850 by decide, pw7]; decide +kernel
  · rw [show NN / 11 = 209622091746699450 by decide, pw11]; decide +kernel
  · rw [show NN / 13 = 177372539170284150 by decide, pw13]; decide +kernel
  · rw [show NN / 31 = 74382032555280450 by decide, pw31]; decide +kernel
  · rw [show NN / 41 = 56240073395455950 by decide, pw41]; decide +kernel
  · rw [show NN / 61 = 37800705069076950 by decide, pw61]; decide +kernel
  · rw [show NN / 151 = 15270483504726450 by decide, pw151]; decide +kernel
  · rw [show NN / 331 = 6966293079195450 by decide, pw331]; decide +kernel
  · rw [show NN / 1321 = 1745528394559950 by decide, pw1321]; decide +kernel
/-- 2^61 - 1 is coprime to every smaller number. -/
theorem coprime {a : Nat} (h0 : 0 < a) (h1 : a < PP) : Nat.gcd a PP = 1 := by
  have hd := Nat.gcd_dvd_right a PP
  have hle := Nat.le_of_dvd h0 (Nat.gcd_dvd_left a PP)
  have hpos : 0 < Nat.gcd a PP := Nat.gcd_pos_of_pos_left _ h0
  generalize Nat.gcd a PP = d at *
  by_cases hd1 : 1 < d
  · exfalso
    have hN1 := pw1
    rw [← NN_eq, pm_def] at hN1
    have hall := all_pw
    simp only [pm_def] at hall
    have hb := order_big (N := NN) (P := PP) (by rw [NN_eq]; omega) (by rw [PP_eq]; omega) (by decide) hd hd1 hN1 hall
    rw [PP_eq] at *
    rw [NN_eq] at hb
    obtain ⟨r, hr⟩ := hd
    have : d = 2305843009213693950 := by omega
    subst this
    have : r = 1 ∨ 2 ≤ r ∨ r = 0 := by omega
    rcases this with h | h | h
    · subst h; omega
    · omega
    · subst h; omega
  · omega
theorem no_zero {a b : Int} (ha : 0 ≤ a ∧ a < 2305843009213693951) (hb : 0 ≤ b ∧ b < 2305843009213693951) : a * b % 2305843009213693951 = 0 ↔ a = 0 ∨ b = 0 := by
  obtain ⟨a, rfl⟩ := Int.eq_ofNat_of_zero_le ha.1
  obtain ⟨b, rfl⟩ := Int.eq_ofNat_of_zero_le hb.1
  constructor
  · intro h
    by_cases h0 : a = 0
    · left; omega
    · right
      have h' : a * b % PP = 0 := by
        have : ((a * b % PP : Nat) : Int) = 0 := by rw [← h]; rfl
        omega
      have hc := coprime (a := a) (by omega) (by rw [PP_eq]; omega)
      have hdv : PP ∣ b := Nat.Coprime.dvd_of_dvd_mul_left (by rw [Nat.Coprime, Nat.gcd_comm]; exact hc) (Nat.dvd_of_mod_eq_zero h')
      have := Nat.eq_zero_of_dvd_of_lt hdv (by rw [PP_eq]; omega)
      omega
  · rintro (h | h) <;> rw [h] <;> simp

end Go.Proofs.Ytmibpagajenndaa.Prime
