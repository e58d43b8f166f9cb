/- Plain lemmas on numbers of 256 bits in words of 64 bits. -/
import Derived.Test.YtpbfmmnncbbhdabGreatDoorBase
set_option linter.unusedVariables false
namespace Lc
open Go

/-- Word k of a number. -/
def dig (n k : Nat) : Nat := n / 2 ^ (64 * k) % 18446744073709551616
def Wn (m n : Nat) : List Int := (List.range m).map (fun k => ((dig n k : Nat) : Int))
abbrev W4 (n : Nat) : List Int := Wn 4 n
def N4 (a : List Int) : Nat := (a.getD 0 0).toNat + 18446744073709551616 * (a.getD 1 0).toNat + 340282366920938463463374607431768211456 * (a.getD 2 0).toNat + 6277101735386680763835789423207666416102355444464034512896 * (a.getD 3 0).toNat
def Big : Nat := 115792089237316195423570985008687907853269984665640564039457584007913129639936
def Ok4 (a : List Int) : Prop := ∃ n, n < Big ∧ a = Wn 4 n
theorem big_pow : Big = 2 ^ 256 := by decide +kernel

theorem dig_lt (n k : Nat) : dig n k < 18446744073709551616 := Nat.mod_lt _ (by decide)
theorem dig0 (n : Nat) : dig n 0 = n % 18446744073709551616 := by simp [dig]
theorem dig1 (n : Nat) : dig n 1 = n / 18446744073709551616 % 18446744073709551616 := rfl
theorem dig2 (n : Nat) : dig n 2 = n / 340282366920938463463374607431768211456 % 18446744073709551616 := rfl
theorem dig3 (n : Nat) : dig n 3 = n / 6277101735386680763835789423207666416102355444464034512896 % 18446744073709551616 := rfl
theorem Wn_len (m n : Nat) : (Wn m n).length = m := by simp [Wn]
theorem Wn_getD {m k : Nat} (n : Nat) (h : k < m) : (Wn m n).getD k 0 = ((dig n k : Nat) : Int) := by
  simp [Wn, List.getD_eq_getElem?_getD, h]
theorem Wn_set {m k n n' : Nat} {x : Int} (hk : k < m) (hx : x = ((dig n' k : Nat) : Int)) (ho : ∀ j, j < m → j ≠ k → dig n' j = dig n j) : (Wn m n).set k x = Wn m n' := by
  apply ext_getD (by simp [Wn_len])
  intro i hi
  have hi : i < m := by simpa [Wn_len] using hi
  rw [lget_set, Wn_getD _ hi, Wn_getD _ hi, Wn_len]
  by_cases h : k = i
  · subst h; rw [if_pos ⟨rfl, hi⟩, hx]
  · rw [if_neg (fun h2 => h h2.1), ho i hi (fun e => h e.symm)]
theorem W4_eq (n : Nat) : Wn 4 n = [((dig n 0 : Nat) : Int), ((dig n 1 : Nat) : Int), ((dig n 2 : Nat) : Int), ((dig n 3 : Nat) : Int)] := rfl
theorem W4_inj {n m : Nat} (hn : n < Big) (hm : m < Big) (h : Wn 4 n = Wn 4 m) : n = m := by
  simp only [W4_eq, List.cons.injEq, dig0, dig1, dig2, dig3, and_true] at h
  unfold Big at hn hm
  omega
theorem N4_W4 {n : Nat} (h : n < Big) : N4 (Wn 4 n) = n := by
  unfold Big at h
  simp only [N4, W4_eq, List.getD_cons_zero, List.getD_cons_succ, Int.toNat_natCast, dig0, dig1, dig2, dig3]
  omega
theorem ok4 {n : Nat} (h : n < Big) : Ok4 (Wn 4 n) := ⟨n, h, rfl⟩
theorem Wn_mod (n : Nat) : Wn 4 (n % Big) = Wn 4 n := by
  simp only [W4_eq, dig0, dig1, dig2, dig3, Big]
  simp only [List.cons.injEq, and_true]
  omega
theorem ok4' (n : Nat) : Ok4 (Wn 4 n) := ⟨n % Big, Nat.mod_lt _ (by decide), (Wn_mod n).symm⟩
theorem Ok4.len {a : List Int} (h : Ok4 a) : a.length = 4 := by obtain ⟨n, _, rfl⟩ := h; exact Wn_len 4 n
theorem Ok4.W {a : List Int} (h : Ok4 a) : Wn 4 (N4 a) = a := by obtain ⟨n, hn, rfl⟩ := h; rw [N4_W4 hn]
theorem Ok4.lt {a : List Int} (h : Ok4 a) : N4 a < Big := by obtain ⟨n, hn, rfl⟩ := h; rw [N4_W4 hn]; exact hn
theorem Ok4.of {a : List Int} (hl : a.length = 4) (h : ∀ x, x ∈ a → 0 ≤ x ∧ x ≤ 18446744073709551615) : Ok4 a := by
  match a, hl with
  | [x, y, z, u], _ =>
    have h1 := h x (by simp)
    have h2 := h y (by simp)
    have h3 := h z (by simp)
    have h4 := h u (by simp)
    obtain ⟨x, rfl⟩ := Int.eq_ofNat_of_zero_le h1.1
    obtain ⟨y, rfl⟩ := Int.eq_ofNat_of_zero_le h2.1
    obtain ⟨z, rfl⟩ := Int.eq_ofNat_of_zero_le h3.1
    obtain ⟨u, rfl⟩ := Int.eq_ofNat_of_zero_le h4.1
    refine ⟨x + 18446744073709551616 * y + 340282366920938463463374607431768211456 * z + 6277101735386680763835789423207666416102355444464034512896 * u, by unfold Big; omega, ?_⟩
    simp only [W4_eq, List.cons.injEq, dig0, dig1, dig2, dig3, and_true]
    omega
theorem zero4 : List.replicate 4 (0 : Int) = Wn 4 0 := rfl
theorem N4_inj {a b : List Int} (ha : Ok4 a) (hb : Ok4 b) (h : N4 a = N4 b) : a = b := by rw [← ha.W, ← hb.W, h]
theorem Ok4.eqz {a : List Int} (h : Ok4 a) : a = List.replicate 4 0 ↔ N4 a = 0 := by
  constructor
  · rintro rfl; rfl
  · intro e; rw [← h.W, e]; rfl

/-! ## Bit operations on numbers that are not negative -/
theorem bvNat {w a : Nat} (h : a < 2 ^ w) : BitVec.ofInt w (a : Int) = BitVec.ofNat w a := by
  apply BitVec.eq_of_toNat_eq
  rw [ofInt_nat h, BitVec.toNat_ofNat, Nat.mod_eq_of_lt h]
theorem or64 {a b : Nat} (ha : a < 18446744073709551616) (hb : b < 18446744073709551616) : ior .u64 a b = ((a ||| b : Nat) : Int) := by
  have h : (a ||| b) < 2 ^ 64 := Nat.or_lt_two_pow ha hb
  have e : ior .u64 a b = IntKind.u64.wrap (((BitVec.ofInt 64 (a : Int)).toNat ||| (BitVec.ofInt 64 (b : Int)).toNat : Nat) : Int) := rfl
  rw [e, ofInt_nat (show a < 2 ^ 64 from ha), ofInt_nat (show b < 2 ^ 64 from hb), u64w (by omega) (by omega)]
theorem and64 {a b : Nat} (ha : a < 18446744073709551616) (hb : b < 18446744073709551616) : iand .u64 a b = ((a &&& b : Nat) : Int) := by
  have h : (a &&& b) < 2 ^ 64 := Nat.and_lt_two_pow _ hb
  have e : iand .u64 a b = IntKind.u64.wrap (((BitVec.ofInt 64 (a : Int)).toNat &&& (BitVec.ofInt 64 (b : Int)).toNat : Nat) : Int) := rfl
  rw [e, ofInt_nat (show a < 2 ^ 64 from ha), ofInt_nat (show b < 2 ^ 64 from hb), u64w (by omega) (by omega)]
theorem xor64 {a b : Nat} (ha : a < 18446744073709551616) (hb : b < 18446744073709551616) : ixor .u64 a b = ((a ^^^ b : Nat) : Int) := by
  have h : (a ^^^ b) < 2 ^ 64 := Nat.xor_lt_two_pow ha hb
  have e : ixor .u64 a b = IntKind.u64.wrap (((BitVec.ofInt 64 (a : Int)).toNat ^^^ (BitVec.ofInt 64 (b : Int)).toNat : Nat) : Int) := rfl
  rw [e, ofInt_nat (show a < 2 ^ 64 from ha), ofInt_nat (show b < 2 ^ 64 from hb), u64w (by omega) (by omega)]
theorem andNot64 {a b : Nat} (ha : a < 18446744073709551616) (hb : b < 18446744073709551616) : iandNot .u64 a b = ((a &&& (18446744073709551615 - b) : Nat) : Int) := by
  have h : (a &&& (18446744073709551615 - b)) < 2 ^ 64 := Nat.and_lt_two_pow _ (by omega)
  have e : iandNot .u64 a b = IntKind.u64.wrap (((BitVec.ofInt 64 (a : Int)).toNat &&& (~~~ BitVec.ofInt 64 (b : Int)).toNat : Nat) : Int) := rfl
  rw [e, BitVec.toNat_not, ofInt_nat (show a < 2 ^ 64 from ha), ofInt_nat (show b < 2 ^ 64 from hb)]
  rw [show 2 ^ 64 - 1 - b = 18446744073709551615 - b from rfl, u64w (by omega) (by omega)]
theorem not64 {a : Nat} (ha : a < 18446744073709551616) : inot .u64 a = ((18446744073709551615 - a : Nat) : Int) := by
  have e : inot .u64 a = ixor .u64 ((18446744073709551615 : Nat) : Int) (a : Int) := rfl
  rw [e, xor64 (by omega) ha]
  congr 1
  have h1 := BitVec.toNat_not (x := BitVec.ofNat 64 a)
  have h2 : (BitVec.allOnes 64 ^^^ BitVec.ofNat 64 a).toNat = (~~~ BitVec.ofNat 64 a).toNat := by rw [BitVec.allOnes_xor]
  rw [h1, BitVec.toNat_xor, BitVec.toNat_allOnes, BitVec.toNat_ofNat, Nat.mod_eq_of_lt (show a < 2 ^ 64 from ha)] at h2
  exact h2
theorem shr64 {a k : Nat} (hk : k ≤ 64) : ishr .u64 (a : Int) (k : Int) = ((a / 2 ^ k : Nat) : Int) := by
  have e : ishr .u64 (a : Int) (k : Int) = (a : Int).fdiv (2 ^ (min (k : Int).toNat 64)) := rfl
  rw [e, Int.toNat_natCast, Nat.min_eq_left hk]
  have : (2 : Int) ^ k = ((2 ^ k : Nat) : Int) := by simp
  rw [this, Int.fdiv_eq_ediv_of_nonneg _ (Int.natCast_nonneg _)]
  simp
theorem shl64 {a k : Nat} (hk : k ≤ 64) : ishl .u64 (a : Int) (k : Int) = ((a * 2 ^ k % 18446744073709551616 : Nat) : Int) := by
  have e : ishl .u64 (a : Int) (k : Int) = IntKind.u64.wrap ((a : Int) * 2 ^ (min (k : Int).toNat 64)) := rfl
  rw [e, Int.toNat_natCast, Nat.min_eq_left hk, u64m]
  have : (2 : Int) ^ k = ((2 ^ k : Nat) : Int) := by simp
  rw [this]
  simp
theorem wrapNat (a : Nat) : IntKind.u64.wrap (a : Int) = ((a % 18446744073709551616 : Nat) : Int) := by rw [u64m]; omega

/-- The bit of a word is the bit of the number. -/
theorem dig_bit (n : Nat) {k r : Nat} (hr : r < 64) : dig n k / 2 ^ r % 2 = n / 2 ^ (64 * k + r) % 2 := by
  have h1 : (dig n k).testBit r = n.testBit (64 * k + r) := by
    unfold dig
    rw [show (18446744073709551616 : Nat) = 2 ^ 64 from rfl, Nat.testBit_mod_two_pow, Nat.testBit_div_two_pow]
    simp [hr, Nat.add_comm]
  rw [Nat.testBit_eq_decide_div_mod_eq, Nat.testBit_eq_decide_div_mod_eq] at h1
  have h2 := Nat.mod_lt (dig n k / 2 ^ r) (show 0 < 2 by decide)
  have h3 := Nat.mod_lt (n / 2 ^ (64 * k + r)) (show 0 < 2 by decide)
  have h4 := decide_eq_decide.1 h1
  omega

/-! ## Sums with carry -/
theorem top63 {a : Nat} (h : a < 18446744073709551616) : a / 2 ^ 63 = 0 ∨ a / 2 ^ 63 = 1 := by omega
theorem carry64 {x y c s : Nat} (hx : x < 18446744073709551616) (hy : y < 18446744073709551616) (hc : c ≤ 1) (hs : s = (x + y + c) % 18446744073709551616) :
    ((x &&& y) ||| ((x ||| y) &&& (18446744073709551615 - s))) / 2 ^ 63 = (x + y + c) / 18446744073709551616 := by
  have e : ((x &&& y) ||| ((x ||| y) &&& (18446744073709551615 - s))) / 2 ^ 63 = ((x / 2 ^ 63 &&& y / 2 ^ 63) ||| ((x / 2 ^ 63 ||| y / 2 ^ 63) &&& ((18446744073709551615 - s) / 2 ^ 63))) := by
    simp only [← Nat.shiftRight_eq_div_pow, Nat.shiftRight_or_distrib, Nat.shiftRight_and_distrib]
  rw [e]
  have h1 := top63 hx
  have h2 := top63 hy
  have h3 : (18446744073709551615 - s) / 2 ^ 63 = 0 ∨ (18446744073709551615 - s) / 2 ^ 63 = 1 := top63 (by omega)
  rcases h1 with h1 | h1 <;> rcases h2 with h2 | h2 <;> rcases h3 with h3 | h3 <;> rw [h1, h2, h3] <;> simp <;> omega
theorem borrow64 {x y c d : Nat} (hx : x < 18446744073709551616) (hy : y < 18446744073709551616) (hc : c ≤ 1) (hd : d = (x + 18446744073709551616 + 18446744073709551616 - y - c) % 18446744073709551616) :
    (((18446744073709551615 - x) &&& y) ||| ((18446744073709551615 - (x ^^^ y)) &&& d)) / 2 ^ 63 = if x < y + c then 1 else 0 := by
  have hxy : (x ^^^ y) < 18446744073709551616 := Nat.xor_lt_two_pow (n := 64) hx hy
  have e0 : (18446744073709551615 - (x ^^^ y)) / 2 ^ 63 = 1 - (x / 2 ^ 63 ^^^ y / 2 ^ 63) := by
    have : (x ^^^ y) / 2 ^ 63 = (x / 2 ^ 63 ^^^ y / 2 ^ 63) := by simp only [← Nat.shiftRight_eq_div_pow, Nat.shiftRight_xor_distrib]
    rw [← this]; omega
  have e : (((18446744073709551615 - x) &&& y) ||| ((18446744073709551615 - (x ^^^ y)) &&& d)) / 2 ^ 63 = (((18446744073709551615 - x) / 2 ^ 63 &&& y / 2 ^ 63) ||| ((1 - (x / 2 ^ 63 ^^^ y / 2 ^ 63)) &&& (d / 2 ^ 63))) := by
    rw [← e0]
    simp only [← Nat.shiftRight_eq_div_pow, Nat.shiftRight_or_distrib, Nat.shiftRight_and_distrib]
  rw [e]
  have e1 : (18446744073709551615 - x) / 2 ^ 63 = 1 - x / 2 ^ 63 := by omega
  rw [e1]
  have h1 := top63 hx
  have h2 := top63 hy
  have h3 : d / 2 ^ 63 = 0 ∨ d / 2 ^ 63 = 1 := top63 (by omega)
  rcases h1 with h1 | h1 <;> rcases h2 with h2 | h2 <;> rcases h3 with h3 | h3 <;> rw [h1, h2, h3] <;> simp <;> omega

/-! ## Lengths -/
def bl (n : Nat) : Nat := if n = 0 then 0 else Nat.log2 n + 1
theorem bl_zero : bl 0 = 0 := rfl
theorem bl_lt (n : Nat) : n < 2 ^ bl n := by
  unfold bl; split
  · subst_vars; decide
  · exact Nat.lt_log2_self
theorem bl_le {n : Nat} (h : n ≠ 0) : 2 ^ (bl n - 1) ≤ n := by
  unfold bl; rw [if_neg h, Nat.add_sub_cancel]; exact Nat.log2_self_le h
theorem bl_unique {n k : Nat} (h1 : n < 2 ^ k) (h2 : k = 0 ∨ 2 ^ (k - 1) ≤ n) : bl n = k := by
  by_cases hn : n = 0
  · subst hn
    rcases h2 with rfl | h2
    · rfl
    · have := Nat.two_pow_pos (k - 1); omega
  · have h3 := bl_lt n
    have h4 := bl_le hn
    rcases h2 with rfl | h2
    · have : n < 1 := h1; omega
    · have h5 : k - 1 < bl n := (Nat.pow_lt_pow_iff_right (show 1 < 2 by decide)).1 (Nat.lt_of_le_of_lt h2 h3)
      have h6 : bl n - 1 < k := (Nat.pow_lt_pow_iff_right (show 1 < 2 by decide)).1 (Nat.lt_of_le_of_lt h4 h1)
      omega
theorem bl_pos {n : Nat} (h : n ≠ 0) : 1 ≤ bl n := by unfold bl; rw [if_neg h]; omega
theorem bl_le_iff {n k : Nat} : bl n ≤ k ↔ n < 2 ^ k := by
  constructor
  · intro h; exact Nat.lt_of_lt_of_le (bl_lt n) (Nat.pow_le_pow_right (by decide) h)
  · intro h
    by_cases hn : n = 0
    · subst hn; simp [bl_zero]
    · have h4 := bl_le hn
      have := (Nat.pow_lt_pow_iff_right (show 1 < 2 by decide)).1 (Nat.lt_of_le_of_lt h4 h)
      have := bl_pos hn
      omega
theorem bl_mul {n : Nat} (h : n ≠ 0) (k : Nat) : bl (n * 2 ^ k) = bl n + k := by
  apply bl_unique
  · rw [Nat.pow_add]; exact Nat.mul_lt_mul_of_pos_right (bl_lt n) (Nat.two_pow_pos k)
  · right
    have := bl_pos h
    rw [show bl n + k - 1 = (bl n - 1) + k by omega, Nat.pow_add]
    exact Nat.mul_le_mul_right _ (bl_le h)
theorem bl_div (n k : Nat) : bl (n / 2 ^ k) = bl n - k := by
  by_cases hk : bl n ≤ k
  · have := bl_le_iff.1 hk
    rw [Nat.div_eq_of_lt this, bl_zero]; omega
  · have hn : n ≠ 0 := by rintro rfl; simp [bl_zero] at hk
    apply bl_unique
    · rw [Nat.div_lt_iff_lt_mul (Nat.two_pow_pos k), ← Nat.pow_add, show bl n - k + k = bl n by omega]; exact bl_lt n
    · right
      rw [Nat.le_div_iff_mul_le (Nat.two_pow_pos k), ← Nat.pow_add, show bl n - k - 1 + k = bl n - 1 by omega]; exact bl_le hn
end Lc
