/- Plain lemmas on words: setting a word or a bit, shifts, the steps of products and divisions. -/
import Derived.Test.YtpbfmmnncbbhdabGreatDoorWideA
set_option linter.unusedVariables false
namespace Lc
open Go

theorem pow64 : (18446744073709551616 : Nat) = 2 ^ 64 := rfl
theorem dig_testBit (n k i : Nat) : (dig n k).testBit i = (decide (i < 64) && n.testBit (64 * k + i)) := by
  unfold dig
  rw [pow64, Nat.testBit_mod_two_pow, Nat.testBit_div_two_pow, Nat.add_comm]
theorem dig_or (x y j : Nat) : dig (x ||| y) j = (dig x j ||| dig y j) := by
  apply Nat.eq_of_testBit_eq
  intro i
  simp only [dig_testBit, Nat.testBit_or, Bool.and_or_distrib_left]
theorem dig_pow (w b j : Nat) (hb : b < 64) : dig (2 ^ (64 * w + b)) j = if j = w then 2 ^ b else 0 := by
  apply Nat.eq_of_testBit_eq
  intro i
  simp only [dig_testBit, Nat.testBit_two_pow]
  split
  · subst_vars
    rw [Nat.testBit_two_pow]
    by_cases h : i < 64 <;> simp [h] <;> omega
  · simp only [Nat.zero_testBit, Bool.and_eq_false_iff, decide_eq_false_iff_not]
    omega
theorem Wn_or {m w b x : Nat} (hw : w < m) (hb : b < 64) : (Wn m x).set w (((dig x w ||| 2 ^ b : Nat) : Int)) = Wn m (x ||| 2 ^ (64 * w + b)) := by
  refine Wn_set hw ?_ ?_
  · rw [dig_or, dig_pow _ _ _ hb, if_pos rfl]
  · intro j _ hne
    rw [dig_or, dig_pow _ _ _ hb, if_neg hne, Nat.or_zero]
theorem or_low {x t : Nat} (h : x < 2 ^ t) : (x ||| 2 ^ t) = x + 2 ^ t := by
  have := Nat.two_pow_add_eq_or_of_lt h 1
  rw [Nat.mul_one] at this
  rw [Nat.or_comm, ← this, Nat.add_comm]
theorem or_high {x t : Nat} (h : x % 2 ^ (t + 1) = 0) : (x ||| 2 ^ t) = x + 2 ^ t := by
  have hx : x = 2 ^ (t + 1) * (x / 2 ^ (t + 1)) := by have := Nat.div_add_mod x (2 ^ (t + 1)); omega
  rw [hx, ← Nat.two_pow_add_eq_or_of_lt (Nat.pow_lt_pow_right (by decide) (Nat.lt_succ_self t))]

theorem dig_form {hi d lo k : Nat} (j : Nat) (hd : d < 18446744073709551616) (hlo : lo < 2 ^ (64 * k)) :
    dig (2 ^ (64 * k) * (18446744073709551616 * hi + d) + lo) j = if j < k then dig lo j else if j = k then d else dig hi (j - k - 1) := by
  unfold dig
  split
  · rename_i h
    have e : 2 ^ (64 * k) = 2 ^ (64 * j) * (18446744073709551616 * 2 ^ (64 * (k - j - 1))) := by
      rw [pow64, ← Nat.pow_add, ← Nat.pow_add]; congr 1; omega
    rw [e, Nat.mul_assoc, Nat.mul_add_div (Nat.two_pow_pos _), Nat.mul_assoc, Nat.mul_add_mod]
  · rename_i h
    split
    · rename_i h2
      subst h2
      rw [Nat.mul_add_div (Nat.two_pow_pos _), Nat.div_eq_of_lt hlo, Nat.add_zero, Nat.mul_add_mod, Nat.mod_eq_of_lt hd]
    · rename_i h2
      have e : 2 ^ (64 * j) = 2 ^ (64 * k) * (18446744073709551616 * 2 ^ (64 * (j - k - 1))) := by
        rw [pow64, ← Nat.pow_add, ← Nat.pow_add]; congr 1; omega
      rw [e, ← Nat.div_div_eq_div_mul, Nat.mul_add_div (Nat.two_pow_pos _), Nat.div_eq_of_lt hlo, Nat.add_zero, ← Nat.div_div_eq_div_mul, Nat.mul_add_div (by decide), Nat.div_eq_of_lt hd, Nat.add_zero]
theorem dig_split (x k : Nat) : x = 2 ^ (64 * k) * (18446744073709551616 * (x / 2 ^ (64 * k) / 18446744073709551616) + dig x k) + x % 2 ^ (64 * k) := by
  unfold dig
  rw [Nat.div_add_mod, Nat.div_add_mod]
/-- x with word k turned into v. -/
def setw (x k v : Nat) : Nat := 2 ^ (64 * k) * (18446744073709551616 * (x / 2 ^ (64 * k) / 18446744073709551616) + v) + x % 2 ^ (64 * k)
theorem setw_eq (x k v : Nat) : setw x k v + dig x k * 2 ^ (64 * k) = x + v * 2 ^ (64 * k) := by
  have h := dig_split x k
  have e : setw x k v = 2 ^ (64 * k) * (18446744073709551616 * (x / 2 ^ (64 * k) / 18446744073709551616)) + 2 ^ (64 * k) * v + x % 2 ^ (64 * k) := by unfold setw; rw [Nat.mul_add]
  rw [Nat.mul_add] at h
  rw [e, Nat.mul_comm (dig x k), Nat.mul_comm v]
  generalize 2 ^ (64 * k) * (18446744073709551616 * (x / 2 ^ (64 * k) / 18446744073709551616)) = A at *
  generalize 2 ^ (64 * k) * dig x k = D at *
  generalize 2 ^ (64 * k) * v = V at *
  generalize x % 2 ^ (64 * k) = M at *
  omega
theorem Wn_setw {m k x v : Nat} (hk : k < m) (hv : v < 18446744073709551616) : (Wn m x).set k ((v : Nat) : Int) = Wn m (setw x k v) := by
  have hlo : x % 2 ^ (64 * k) < 2 ^ (64 * k) := Nat.mod_lt _ (Nat.two_pow_pos _)
  refine Wn_set hk ?_ ?_
  · unfold setw; rw [dig_form k hv hlo, if_neg (Nat.lt_irrefl _), if_pos rfl]
  · intro j _ hne
    conv => rhs; rw [dig_split x k]
    unfold setw
    rw [dig_form j hv hlo, dig_form j (dig_lt x k) hlo]
    simp only [hne, if_false]

/-! ## Sums -/
theorem div_split (n i : Nat) : n / 2 ^ (64 * i) = 18446744073709551616 * (n / 2 ^ (64 * (i + 1))) + dig n i := by
  have e : 2 ^ (64 * (i + 1)) = 2 ^ (64 * i) * 18446744073709551616 := by rw [pow64, ← Nat.pow_add]; congr 1
  rw [e, ← Nat.div_div_eq_div_mul]; unfold dig; rw [Nat.div_add_mod]
theorem mod_split (n i : Nat) : n % 2 ^ (64 * (i + 1)) = n % 2 ^ (64 * i) + dig n i * 2 ^ (64 * i) := by
  have e : 2 ^ (64 * (i + 1)) = 2 ^ (64 * i) * 18446744073709551616 := by rw [pow64, ← Nat.pow_add]; congr 1
  rw [e, Nat.mod_mul, Nat.mul_comm (dig n i)]; rfl

/-! ## Products -/
/-- One step of a product: x: the words, c: the carry, k: the word, p: the product of two words. -/
theorem mul_step {x c k p lo hi S : Nat} (h : x + c * 2 ^ (64 * k) = S) (hp : p + dig x k + c = 18446744073709551616 * hi + lo) :
    setw x k lo + hi * 2 ^ (64 * (k + 1)) = S + p * 2 ^ (64 * k) := by
  have e : 2 ^ (64 * (k + 1)) = 18446744073709551616 * 2 ^ (64 * k) := by rw [pow64, ← Nat.pow_add]; congr 1; omega
  have h1 := setw_eq x k lo
  have h2 := congrArg (· * 2 ^ (64 * k)) hp
  simp only [Nat.add_mul] at h2
  rw [e]
  rw [show 18446744073709551616 * hi * 2 ^ (64 * k) = hi * (18446744073709551616 * 2 ^ (64 * k)) by rw [Nat.mul_comm 18446744073709551616 hi, Nat.mul_assoc]] at h2
  generalize hi * (18446744073709551616 * 2 ^ (64 * k)) = H at *
  generalize lo * 2 ^ (64 * k) = Lo at *
  generalize p * 2 ^ (64 * k) = Pp at *
  generalize c * 2 ^ (64 * k) = C at *
  generalize dig x k * 2 ^ (64 * k) = D at *
  generalize setw x k lo = X at *
  omega

/-! ## Divisions -/
theorem div_next {A K r b t : Nat} (h : A = b * K + r) (hr : r < b) : (2 * A + t) = b * (if b ≤ 2 * r + t then 2 * K + 1 else 2 * K) + (if b ≤ 2 * r + t then 2 * r + t - b else 2 * r + t) := by
  split
  · rw [Nat.mul_add, Nat.mul_one, show b * (2 * K) = 2 * (b * K) by rw [Nat.mul_left_comm]]
    generalize b * K = X at *
    omega
  · rw [show b * (2 * K) = 2 * (b * K) by rw [Nat.mul_left_comm]]
    generalize b * K = X at *
    omega

/-! ## Shifts -/
theorem shl_dig {n j r : Nat} (hr : r < 64) (hj : 1 ≤ j) : dig (n * 2 ^ r) j = ((dig n j * 2 ^ r % 18446744073709551616) ||| dig n (j - 1) / 2 ^ (64 - r)) := by
  apply Nat.eq_of_testBit_eq
  intro i
  rw [dig_testBit, Nat.testBit_or, pow64, Nat.testBit_mod_two_pow, Nat.testBit_mul_two_pow, Nat.testBit_mul_two_pow, Nat.testBit_div_two_pow, dig_testBit, dig_testBit]
  by_cases h1 : i < 64
  · by_cases h2 : r ≤ i
    · have h3 : i - r < 64 := by omega
      have h4 : ¬ (i + (64 - r) < 64) := by omega
      have h5 : r ≤ 64 * j + i := by omega
      have h6 : 64 * j + i - r = 64 * j + (i - r) := by omega
      simp [h1, h2, h3, h4, h5, h6]
    · have h4 : i + (64 - r) < 64 := by omega
      have h5 : r ≤ 64 * j + i := by omega
      have h6 : 64 * j + i - r = 64 * (j - 1) + (i + (64 - r)) := by omega
      simp [h1, h2, h4, h5, h6]
  · have h4 : ¬ (i + (64 - r) < 64) := by omega
    simp [h1, h4]
theorem shl_dig0 (n r : Nat) : dig (n * 2 ^ r) 0 = dig n 0 * 2 ^ r % 18446744073709551616 := by
  rw [dig0, dig0, Nat.mod_mul_mod]
theorem shl_words (n w r i : Nat) : dig (n * 2 ^ (64 * w + r)) i = if w ≤ i then dig (n * 2 ^ r) (i - w) else 0 := by
  unfold dig
  split
  · rename_i h
    rw [show 64 * i = 64 * (i - w) + 64 * w by omega, Nat.pow_add, Nat.pow_add, Nat.mul_comm (2 ^ (64 * w)), ← Nat.mul_assoc, Nat.mul_div_mul_right _ _ (Nat.two_pow_pos _)]
  · rename_i h
    rw [show 64 * w + r = 64 * i + (64 + (64 * (w - i - 1) + r)) by omega, Nat.pow_add, Nat.mul_left_comm, Nat.mul_div_cancel_left _ (Nat.two_pow_pos _), Nat.pow_add, ← pow64, Nat.mul_left_comm, Nat.mul_mod_right]
theorem shr_dig {n j r : Nat} (hr : r < 64) : dig (n / 2 ^ r) j = (dig n j / 2 ^ r ||| (dig n (j + 1) * 2 ^ (64 - r) % 18446744073709551616)) := by
  apply Nat.eq_of_testBit_eq
  intro i
  rw [dig_testBit, Nat.testBit_or, pow64, Nat.testBit_mod_two_pow, Nat.testBit_mul_two_pow, Nat.testBit_div_two_pow, Nat.testBit_div_two_pow, dig_testBit, dig_testBit]
  by_cases h1 : i + r < 64
  · have h2 : i < 64 := by omega
    have h3 : ¬ (64 - r ≤ i) := by omega
    have h6 : 64 * j + i + r = 64 * j + (i + r) := by omega
    simp [h1, h2, h3, h6]
  · by_cases h2 : i < 64
    · have h3 : 64 - r ≤ i := by omega
      have h4 : i - (64 - r) < 64 := by omega
      have h6 : 64 * j + i + r = 64 * (j + 1) + (i - (64 - r)) := by omega
      simp [h1, h2, h3, h4, h6]
    · simp [h1, h2]
theorem shr_words (n w r i : Nat) : dig (n / 2 ^ (64 * w + r)) i = dig (n / 2 ^ r) (i + w) := by
  unfold dig
  rw [Nat.div_div_eq_div_mul, Nat.div_div_eq_div_mul, ← Nat.pow_add, ← Nat.pow_add]
  congr 3
  omega
theorem dig_high {n k : Nat} (h : n < 2 ^ (64 * k)) : dig n k = 0 := by unfold dig; rw [Nat.div_eq_of_lt h]
end Lc
