/- Numbers of 256 bits: sums, differences, products, quotients, shifts. -/
import Derived.Test.YtpbfmmnncbbhdabGreatDoorWide
set_option linter.unusedVariables false
set_option maxRecDepth 100000
namespace Lc
open Go

theorem N4_W (z : Nat) : N4 (Wn 4 z) = z % Big := by rw [← Wn_mod, N4_W4 (Nat.mod_lt _ (by decide))]
theorem Wn_congr {z y : Nat} (h : z % Big = y % Big) : Wn 4 z = Wn 4 y := by rw [← Wn_mod z, ← Wn_mod y, h]
theorem mix_getD {A B : List Int} (h : A.length = B.length) (i j : Nat) : (mix A B i).getD j 0 = if j < i then A.getD j 0 else B.getD j 0 := by
  simp only [mix, List.getD_eq_getElem?_getD]
  by_cases hj : j < i
  · rw [if_pos hj]
    by_cases hA : j < A.length
    · rw [List.getElem?_append_left (by simp; omega), List.getElem?_take, if_pos hj]
    · rw [List.getElem?_append_right (by simp; omega), List.getElem?_drop, List.length_take, Nat.min_eq_right (by omega)]
      rw [List.getElem?_eq_none (by omega), List.getElem?_eq_none (by omega)]
  · rw [if_neg hj, List.getElem?_append_right (by simp; omega), List.getElem?_drop, List.length_take]
    by_cases hA : i ≤ A.length
    · rw [Nat.min_eq_left hA, show i + (j - i) = j by omega]
    · rw [Nat.min_eq_right (by omega), List.getElem?_eq_none (by omega), List.getElem?_eq_none (by omega)]
def Z4 : List Int := List.replicate 4 0
theorem Z4_len : Z4.length = 4 := rfl

/-! ## Sums -/
def carry (n m i : Nat) : Nat := (n % 2 ^ (64 * i) + m % 2 ^ (64 * i)) / 2 ^ (64 * i)
theorem carry_le (n m i : Nat) : carry n m i ≤ 1 := by
  unfold carry
  have h1 := Nat.mod_lt n (Nat.two_pow_pos (64 * i))
  have h2 := Nat.mod_lt m (Nat.two_pow_pos (64 * i))
  exact Nat.le_of_lt_succ ((Nat.div_lt_iff_lt_mul (Nat.two_pow_pos _)).2 (by omega))
theorem add_dig (n m i : Nat) : dig (n + m) i = (dig n i + dig m i + carry n m i) % 18446744073709551616 := by
  have e : n + m = 2 ^ (64 * i) * (n / 2 ^ (64 * i) + m / 2 ^ (64 * i)) + (n % 2 ^ (64 * i) + m % 2 ^ (64 * i)) := by
    have h1 := Nat.div_add_mod n (2 ^ (64 * i))
    have h2 := Nat.div_add_mod m (2 ^ (64 * i))
    rw [Nat.mul_add]
    omega
  unfold carry dig
  rw [e, Nat.mul_add_div (Nat.two_pow_pos _)]
  omega
theorem carry_succ (n m i : Nat) : carry n m (i + 1) = (dig n i + dig m i + carry n m i) / 18446744073709551616 := by
  unfold carry
  rw [mod_split, mod_split]
  have e : 2 ^ (64 * (i + 1)) = 2 ^ (64 * i) * 18446744073709551616 := by rw [pow64, ← Nat.pow_add]; congr 1
  rw [e, ← Nat.div_div_eq_div_mul]
  have e2 : n % 2 ^ (64 * i) + dig n i * 2 ^ (64 * i) + (m % 2 ^ (64 * i) + dig m i * 2 ^ (64 * i)) = 2 ^ (64 * i) * (dig n i + dig m i) + (n % 2 ^ (64 * i) + m % 2 ^ (64 * i)) := by
    rw [Nat.mul_add, Nat.mul_comm (dig n i), Nat.mul_comm (dig m i)]; omega
  rw [e2, Nat.mul_add_div (Nat.two_pow_pos _)]
def QAdd.pre (a b : List Int) : Prop := Ok4 a ∧ Ok4 b
def QAdd.fn (a b : List Int) : List Int × Bool := (Wn 4 (N4 a + N4 b), decide (Big ≤ N4 a + N4 b))
def QAdd.inv4 (a b v4 v6 : List Int) (c i : Int) : Prop := 0 ≤ i ∧ i ≤ 4 ∧ v6 = mix (Wn 4 (N4 a + N4 b)) Z4 i.toNat ∧ c = ((carry (N4 a) (N4 b) i.toNat : Nat) : Int)
def QAdd.mes4 (a b v4 v6 : List Int) (c i : Int) : Nat := (4 - i).toNat
def QAdd.VC : Prop := ∀ (x0 : (List Int)) (x1 : (List Int)), QAdd.pre x0 x1 →
 (QAdd.inv4 x0 x1 (List.replicate 4 (0 : Int)) (List.replicate 4 (0 : Int)) (0 : Int) (0 : Int) ∧
 ∀ (v4 : (List Int)) (v6 : (List Int)) (v7 : Int) (v9 : Int), QAdd.inv4 x0 x1 v4 v6 v7 v9 →
 (((decide (v9 < (4 : Int))) = true →
 (0 ≤ v9 ∧ v9 < 4) ∧
 (0 ≤ v9 ∧ v9 < 4) ∧
 Add64.pre (x0.getD (Int.toNat v9) (0 : Int)) (x1.getD (Int.toNat v9) (0 : Int)) v7 ∧
 (let v22 : Int := (Add64.fn (x0.getD (Int.toNat v9) (0 : Int)) (x1.getD (Int.toNat v9) (0 : Int)) v7).1
 (let v23 : Int := (Add64.fn (x0.getD (Int.toNat v9) (0 : Int)) (x1.getD (Int.toNat v9) (0 : Int)) v7).2
 (0 ≤ v9 ∧ v9 < 4) ∧
 (QAdd.inv4 x0 x1 v4 (v6.set (Int.toNat v9) v22) v23 (IntKind.i64.wrap (v9 + (1 : Int))) ∧ QAdd.mes4 x0 x1 v4 (v6.set (Int.toNat v9) v22) v23 (IntKind.i64.wrap (v9 + (1 : Int))) < QAdd.mes4 x0 x1 v4 v6 v7 v9)))) ∧
 ((decide (v9 < (4 : Int))) = false →
 (Ret2 v6 (v7 == (1 : Int)) (QAdd.fn x0 x1)))))
theorem mixZ_set {s : Nat} {i : Int} {x : Int} (h : 0 ≤ i ∧ i < 4) (hx : x = ((dig s i.toNat : Nat) : Int)) {B : List Int} (hB : B.length = 4) : (mix (Wn 4 s) B i.toNat).set i.toNat x = mix (Wn 4 s) B (i + 1).toNat := by
  rw [mix_set (by rw [Wn_len, hB]) (by rw [Wn_len]; omega) (by rw [ok4_get h]; exact hx), show (i + 1).toNat = i.toNat + 1 by omega]
theorem QAdd.vc : QAdd.VC := by
  rintro a b ⟨⟨n, hn, rfl⟩, ⟨m, hm, rfl⟩⟩
  simp only [QAdd.inv4, QAdd.fn, N4_W4 hn, N4_W4 hm]
  refine ⟨⟨by omega, by omega, by rw [Int.toNat_zero, mix_zero]; rfl, by simp [carry, Nat.mod_one]⟩, ?_⟩
  rintro v4 v6 c i ⟨k1, k2, rfl, rfl⟩
  refine ⟨fun hc => ?_, fun hc => ?_⟩
  · have hc : i < 4 := of_decide_eq_true hc
    have hi : 0 ≤ i ∧ i < 4 := ⟨k1, hc⟩
    have hcl := carry_le n m i.toNat
    have hd := add_dig n m i.toNat
    have hs := carry_succ n m i.toNat
    rw [ok4_get hi, ok4_get hi, i64w (by omega) (by omega)]
    refine ⟨hi, hi, ⟨u64_dig _ _, u64_dig _ _, by omega, by omega⟩, hi, ⟨by omega, by omega, mixZ_set hi ?_ Z4_len, ?_⟩, by simp only [QAdd.mes4]; omega⟩
    · simp only [Add64.fn]; omega
    · simp only [Add64.fn]; rw [show (i + 1).toNat = i.toNat + 1 by omega]; omega
  · have hc : ¬ i < 4 := of_decide_eq_false hc
    have e : i.toNat = 4 := by omega
    rw [e, mix_all (by rw [Wn_len]; omega) (by decide)]
    refine ret2.2 (Prod.ext rfl ?_)
    have hcv : carry n m 4 = (n + m) / Big := by
      unfold carry
      rw [show 2 ^ (64 * 4) = Big from big_pow.symm, Nat.mod_eq_of_lt hn, Nat.mod_eq_of_lt hm]
    rw [hcv, Bool.eq_iff_iff]
    simp only [beq_iff_eq, decide_eq_true_eq]
    unfold Big at *
    omega

/-! ## Differences -/
def lowB (n m i : Nat) : Nat := if n % 2 ^ (64 * i) < m % 2 ^ (64 * i) then 1 else 0
theorem sub_dig {n m : Nat} (hn : n < Big) (hm : m < Big) {i : Nat} (hi : i < 4) :
    (((dig n i : Nat) : Int) - ((dig m i : Nat) : Int) - ((lowB n m i : Nat) : Int)) % 18446744073709551616 = ((dig (n + Big - m) i : Nat) : Int) ∧
    (if ((dig n i : Nat) : Int) < ((dig m i : Nat) : Int) + ((lowB n m i : Nat) : Int) then (1 : Int) else 0) = ((lowB n m (i + 1) : Nat) : Int) := by
  unfold Big at hn hm
  have hc : i = 0 ∨ i = 1 ∨ i = 2 ∨ i = 3 := by omega
  rcases hc with rfl | rfl | rfl | rfl <;> simp only [dig0, dig1, dig2, dig3, lowB, Big, Nat.reduceMul, Nat.reducePow, Nat.reduceAdd]
  · constructor
    · split <;> omega
    · split <;> split <;> split at * <;> omega
  · constructor
    · split <;> omega
    · split <;> split <;> split at * <;> omega
  · constructor
    · split <;> omega
    · split <;> split <;> split at * <;> omega
  · constructor
    · split <;> omega
    · split <;> split <;> split at * <;> omega
def WSub.pre (a b : List Int) : Prop := Ok4 a ∧ Ok4 b
def WSub.fn (a b : List Int) : List Int × Bool := (Wn 4 (N4 a + Big - N4 b), decide (N4 a < N4 b))
def WSub.inv4 (a b v4 v6 : List Int) (c i : Int) : Prop := 0 ≤ i ∧ i ≤ 4 ∧ v6 = mix (Wn 4 (N4 a + Big - N4 b)) Z4 i.toNat ∧ c = ((lowB (N4 a) (N4 b) i.toNat : Nat) : Int)
def WSub.mes4 (a b v4 v6 : List Int) (c i : Int) : Nat := (4 - i).toNat
def WSub.VC : Prop := ∀ (x0 : (List Int)) (x1 : (List Int)), WSub.pre x0 x1 →
 (WSub.inv4 x0 x1 (List.replicate 4 (0 : Int)) (List.replicate 4 (0 : Int)) (0 : Int) (0 : Int) ∧
 ∀ (v4 : (List Int)) (v6 : (List Int)) (v7 : Int) (v9 : Int), WSub.inv4 x0 x1 v4 v6 v7 v9 →
 (((decide (v9 < (4 : Int))) = true →
 (0 ≤ v9 ∧ v9 < 4) ∧
 (0 ≤ v9 ∧ v9 < 4) ∧
 Sub64.pre (x0.getD (Int.toNat v9) (0 : Int)) (x1.getD (Int.toNat v9) (0 : Int)) v7 ∧
 (let v22 : Int := (Sub64.fn (x0.getD (Int.toNat v9) (0 : Int)) (x1.getD (Int.toNat v9) (0 : Int)) v7).1
 (let v23 : Int := (Sub64.fn (x0.getD (Int.toNat v9) (0 : Int)) (x1.getD (Int.toNat v9) (0 : Int)) v7).2
 (0 ≤ v9 ∧ v9 < 4) ∧
 (WSub.inv4 x0 x1 v4 (v6.set (Int.toNat v9) v22) v23 (IntKind.i64.wrap (v9 + (1 : Int))) ∧ WSub.mes4 x0 x1 v4 (v6.set (Int.toNat v9) v22) v23 (IntKind.i64.wrap (v9 + (1 : Int))) < WSub.mes4 x0 x1 v4 v6 v7 v9)))) ∧
 ((decide (v9 < (4 : Int))) = false →
 (Ret2 v6 (v7 != (0 : Int)) (WSub.fn x0 x1)))))
theorem lowB_le (n m i : Nat) : lowB n m i ≤ 1 := by unfold lowB; split <;> omega
theorem lowB_top {n m : Nat} (hn : n < Big) (hm : m < Big) : lowB n m 4 = if n < m then 1 else 0 := by
  unfold lowB
  rw [show 2 ^ (64 * 4) = Big from big_pow.symm, Nat.mod_eq_of_lt hn, Nat.mod_eq_of_lt hm]
theorem WSub.vc : WSub.VC := by
  rintro a b ⟨⟨n, hn, rfl⟩, ⟨m, hm, rfl⟩⟩
  simp only [WSub.inv4, WSub.fn, N4_W4 hn, N4_W4 hm]
  refine ⟨⟨by omega, by omega, by rw [Int.toNat_zero, mix_zero]; rfl, by simp [lowB, Nat.mod_one]⟩, ?_⟩
  rintro v4 v6 c i ⟨k1, k2, rfl, rfl⟩
  refine ⟨fun hc => ?_, fun hc => ?_⟩
  · have hc : i < 4 := of_decide_eq_true hc
    have hi : 0 ≤ i ∧ i < 4 := ⟨k1, hc⟩
    have hcl := lowB_le n m i.toNat
    obtain ⟨hd, hs⟩ := sub_dig hn hm (show i.toNat < 4 by omega)
    rw [ok4_get hi, ok4_get hi, i64w (by omega) (by omega)]
    refine ⟨hi, hi, ⟨u64_dig _ _, u64_dig _ _, by omega, by omega⟩, hi, ⟨by omega, by omega, mixZ_set hi hd Z4_len, ?_⟩, by simp only [WSub.mes4]; omega⟩
    rw [show (i + 1).toNat = i.toNat + 1 by omega]
    exact hs
  · have hc : ¬ i < 4 := of_decide_eq_false hc
    have e : i.toNat = 4 := by omega
    rw [e, mix_all (by rw [Wn_len]; omega) (by decide), lowB_top hn hm]
    refine ret2.2 (Prod.ext rfl ?_)
    simp only
    by_cases h : n < m <;> simp [h]
def QSub.pre (a b : List Int) : Prop := Ok4 a ∧ Ok4 b
def QSub.fn (a b : List Int) : List Int × Bool := WSub.fn a b
def QSub.inv4 (a b v4 v6 : List Int) (c i : Int) : Prop := WSub.inv4 a b v4 v6 c i
def QSub.mes4 (a b v4 v6 : List Int) (c i : Int) : Nat := WSub.mes4 a b v4 v6 c i
def QSub.VC : Prop := ∀ (x0 : (List Int)) (x1 : (List Int)), QSub.pre x0 x1 →
 (QSub.inv4 x0 x1 (List.replicate 4 (0 : Int)) (List.replicate 4 (0 : Int)) (0 : Int) (0 : Int) ∧
 ∀ (v4 : (List Int)) (v6 : (List Int)) (v7 : Int) (v9 : Int), QSub.inv4 x0 x1 v4 v6 v7 v9 →
 (((decide (v9 < (4 : Int))) = true →
 (0 ≤ v9 ∧ v9 < 4) ∧
 (0 ≤ v9 ∧ v9 < 4) ∧
 Sub64.pre (x0.getD (Int.toNat v9) (0 : Int)) (x1.getD (Int.toNat v9) (0 : Int)) v7 ∧
 (let v22 : Int := (Sub64.fn (x0.getD (Int.toNat v9) (0 : Int)) (x1.getD (Int.toNat v9) (0 : Int)) v7).1
 (let v23 : Int := (Sub64.fn (x0.getD (Int.toNat v9) (0 : Int)) (x1.getD (Int.toNat v9) (0 : Int)) v7).2
 (0 ≤ v9 ∧ v9 < 4) ∧
 (QSub.inv4 x0 x1 v4 (v6.set (Int.toNat v9) v22) v23 (IntKind.i64.wrap (v9 + (1 : Int))) ∧ QSub.mes4 x0 x1 v4 (v6.set (Int.toNat v9) v22) v23 (IntKind.i64.wrap (v9 + (1 : Int))) < QSub.mes4 x0 x1 v4 v6 v7 v9)))) ∧
 ((decide (v9 < (4 : Int))) = false →
 (Ret2 v6 (v7 == (1 : Int)) (QSub.fn x0 x1)))))
theorem QSub.vc : QSub.VC := by
  intro a b h
  obtain ⟨h1, h2⟩ := WSub.vc a b h
  refine ⟨h1, fun v4 v6 c i hi => ?_⟩
  obtain ⟨h3, h4⟩ := h2 v4 v6 c i hi
  refine ⟨h3, fun hc => ?_⟩
  have h5 := ret2.1 (h4 hc)
  refine ret2.2 ?_
  rw [QSub.fn, ← h5]
  obtain ⟨_, _, _, rfl⟩ := hi
  have := lowB_le (N4 a) (N4 b) i.toNat
  refine Prod.ext rfl ?_
  simp only
  have hc2 : lowB (N4 a) (N4 b) i.toNat = 0 ∨ lowB (N4 a) (N4 b) i.toNat = 1 := by omega
  rcases hc2 with h | h <;> rw [h] <;> rfl

/-! ## Doubles -/
def WDbl.pre (a : List Int) (l : Int) : Prop := Ok4 a ∧ 0 ≤ l ∧ l ≤ 1
def WDbl.fn (a : List Int) (l : Int) : List Int × Int := (Wn 4 (2 * N4 a + l.toNat), (((2 * N4 a + l.toNat) / Big : Nat) : Int))
def dblC (n l i : Nat) : Nat := (2 * (n % 2 ^ (64 * i)) + l) / 2 ^ (64 * i)
def WDbl.inv2 (a : List Int) (l c : Int) (v2 v4 : List Int) (i : Int) : Prop := 0 ≤ i ∧ i ≤ 4 ∧ v2 = mix (Wn 4 (2 * N4 a + l.toNat)) a i.toNat ∧ c = ((dblC (N4 a) l.toNat i.toNat : Nat) : Int)
def WDbl.mes2 (a : List Int) (l c : Int) (v2 v4 : List Int) (i : Int) : Nat := (4 - i).toNat
def WDbl.VC : Prop := ∀ (x0 : (List Int)) (x1 : Int), WDbl.pre x0 x1 →
 (WDbl.inv2 x0 x1 x1 x0 (List.replicate 4 (0 : Int)) (0 : Int) ∧
 ∀ (v1 : Int) (v2 : (List Int)) (v4 : (List Int)) (v7 : Int), WDbl.inv2 x0 x1 v1 v2 v4 v7 →
 (((decide (v7 < (4 : Int))) = true →
 (0 ≤ v7 ∧ v7 < 4) ∧
 0 ≤ (1 : Int) ∧
 (let v16 : Int := (ior .u64 (ishl .u64 (v2.getD (Int.toNat v7) (0 : Int)) (1 : Int)) v1)
 (0 ≤ v7 ∧ v7 < 4) ∧
 0 ≤ (63 : Int) ∧
 (0 ≤ v7 ∧ v7 < 4) ∧
 (WDbl.inv2 x0 x1 (ishr .u64 (v2.getD (Int.toNat v7) (0 : Int)) (63 : Int)) (v2.set (Int.toNat v7) v16) v4 (IntKind.i64.wrap (v7 + (1 : Int))) ∧ WDbl.mes2 x0 x1 (ishr .u64 (v2.getD (Int.toNat v7) (0 : Int)) (63 : Int)) (v2.set (Int.toNat v7) v16) v4 (IntKind.i64.wrap (v7 + (1 : Int))) < WDbl.mes2 x0 x1 v1 v2 v4 v7))) ∧
 ((decide (v7 < (4 : Int))) = false →
 (Ret2 v2 v1 (WDbl.fn x0 x1)))))
theorem dbl_step {n l i : Nat} (hl : l ≤ 1) (hi : i < 4) : dig (2 * n + l) i = (dig n i * 2 % 18446744073709551616 ||| dblC n l i) ∧ dblC n l (i + 1) = dig n i / 2 ^ 63 ∧ dblC n l i ≤ 1 := by
  have hor : ∀ k c : Nat, c ≤ 1 → (2 * k ||| c) = 2 * k + c := by
    intro k c hc
    have := Nat.two_pow_add_eq_or_of_lt (i := 1) (b := c) (by omega) k
    simpa using this.symm
  have hev : ∀ d : Nat, d * 2 % 18446744073709551616 = 2 * (d % 9223372036854775808) := by intro d; omega
  rw [hev]
  have hle : dblC n l i ≤ 1 := by
    have hc : i = 0 ∨ i = 1 ∨ i = 2 ∨ i = 3 := by omega
    rcases hc with rfl | rfl | rfl | rfl <;> simp only [dblC, Nat.reduceMul, Nat.reducePow] <;> omega
  rw [hor _ _ hle]
  have hc : i = 0 ∨ i = 1 ∨ i = 2 ∨ i = 3 := by omega
  rcases hc with rfl | rfl | rfl | rfl <;> simp only [dig0, dig1, dig2, dig3, dblC, Nat.reduceMul, Nat.reducePow, Nat.reduceAdd] at * <;> omega
theorem WDbl.vc : WDbl.VC := by
  rintro a l0 ⟨⟨n, hn, rfl⟩, hl1, hl2⟩
  obtain ⟨l, rfl⟩ := Int.eq_ofNat_of_zero_le hl1
  have hl : l ≤ 1 := by omega
  simp only [WDbl.inv2, WDbl.fn, N4_W4 hn, Int.toNat_natCast]
  refine ⟨⟨by omega, by omega, by rw [Int.toNat_zero, mix_zero], by simp [dblC, Nat.mod_one]⟩, ?_⟩
  rintro c v2 v4 i ⟨k1, k2, rfl, rfl⟩
  refine ⟨fun hc => ?_, fun hc => ?_⟩
  · have hc : i < 4 := of_decide_eq_true hc
    have hi : 0 ≤ i ∧ i < 4 := ⟨k1, hc⟩
    obtain ⟨d1, d2, d3⟩ := dbl_step (n := n) hl (show i.toNat < 4 by omega)
    have hg : (mix (Wn 4 (2 * n + l)) (Wn 4 n) i.toNat).getD i.toNat 0 = ((dig n i.toNat : Nat) : Int) := by rw [mix_get (by rw [Wn_len]; omega), ok4_get hi]
    rw [hg, i64w (by omega) (by omega)]
    have s1 : ishl .u64 ((dig n i.toNat : Nat) : Int) 1 = ((dig n i.toNat * 2 % 18446744073709551616 : Nat) : Int) := shl64 (k := 1) (by omega)
    have s2 : ishr .u64 ((dig n i.toNat : Nat) : Int) 63 = ((dig n i.toNat / 2 ^ 63 : Nat) : Int) := shr64 (k := 63) (by omega)
    rw [s1, s2, or64 (by omega) (by omega), ← d1, ← d2]
    refine ⟨hi, by omega, hi, by omega, hi, ⟨by omega, by omega, mixZ_set hi rfl (Wn_len 4 n), ?_⟩, by simp only [WDbl.mes2]; omega⟩
    rw [show (i + 1).toNat = i.toNat + 1 by omega]
  · have hc : ¬ i < 4 := of_decide_eq_false hc
    have e : i.toNat = 4 := by omega
    rw [e, mix_all (by rw [Wn_len]; omega) (by rw [Wn_len]; omega)]
    refine ret2.2 (Prod.ext rfl ?_)
    simp only [dblC]
    rw [show 2 ^ (64 * 4) = Big from big_pow.symm, Nat.mod_eq_of_lt hn]

/-! ## Products -/
def mulFn (a b : List Int) : List Int × List Int := (Wn 4 (N4 a * N4 b / Big), Wn 4 (N4 a * N4 b))
def mulI (a b w : List Int) (i : Int) : Prop := 0 ≤ i ∧ i ≤ 4 ∧ w = Wn 8 (N4 a % 2 ^ (64 * i.toNat) * N4 b)
def mulJ (a b w : List Int) (i c j : Int) : Prop := 0 ≤ i ∧ i < 4 ∧ 0 ≤ j ∧ j ≤ 4 ∧ ∃ x cn : Nat, w = Wn 8 x ∧ c = (cn : Int) ∧ cn < 18446744073709551616 ∧ dig x (i.toNat + 4) = 0 ∧
  x + cn * 2 ^ (64 * (i.toNat + j.toNat)) = N4 a % 2 ^ (64 * i.toNat) * N4 b + dig (N4 a) i.toNat * 2 ^ (64 * i.toNat) * (N4 b % 2 ^ (64 * j.toNat))
theorem mulJ_start {n m : Nat} (hn : n < Big) (hm : m < Big) {w : List Int} {i : Int} (h : mulI (Wn 4 n) (Wn 4 m) w i) (hi : i < 4) : mulJ (Wn 4 n) (Wn 4 m) w i 0 0 := by
  obtain ⟨h1, h2, h3⟩ := h
  rw [N4_W4 hn, N4_W4 hm] at h3
  refine ⟨h1, hi, by omega, by omega, _, 0, h3, rfl, by omega, ?_, ?_⟩
  · apply dig_high
    rw [show 64 * (i.toNat + 4) = 64 * i.toNat + 256 by omega, Nat.pow_add, ← big_pow]
    exact Nat.mul_lt_mul'' (Nat.mod_lt _ (Nat.two_pow_pos _)) hm
  · simp [N4_W4 hn, N4_W4 hm, Nat.mod_one]
theorem mulJ_end {n m : Nat} (hn : n < Big) (hm : m < Big) {w : List Int} {i c j : Int} (h : mulJ (Wn 4 n) (Wn 4 m) w i c j) (hj : ¬ j < 4) : mulI (Wn 4 n) (Wn 4 m) (w.set (i + 4).toNat c) (i + 1) := by
  obtain ⟨h1, h2, h3, h4, x, cn, rfl, rfl, h5, h6, h7⟩ := h
  rw [N4_W4 hn, N4_W4 hm] at h7
  have e : j.toNat = 4 := by omega
  rw [e, show 2 ^ (64 * 4) = Big from big_pow.symm, Nat.mod_eq_of_lt hm] at h7
  refine ⟨by omega, by omega, ?_⟩
  rw [N4_W4 hn, N4_W4 hm, show (i + 4).toNat = i.toNat + 4 by omega, show (i + 1).toNat = i.toNat + 1 by omega, Wn_setw (by omega) h5]
  have h8 := setw_eq x (i.toNat + 4) cn
  rw [h6, Nat.zero_mul, Nat.add_zero] at h8
  rw [h8, h7, mod_split, Nat.add_mul]
theorem mulJ_step {n m : Nat} (hn : n < Big) (hm : m < Big) {w : List Int} {i c j : Int} (h : mulJ (Wn 4 n) (Wn 4 m) w i c j) (hj : j < 4) :
    W64 (w.getD (i + j).toNat 0) ∧ W64 c ∧ ∀ s c', s = (((dig n i.toNat : Nat) : Int) * ((dig m j.toNat : Nat) : Int) + w.getD (i + j).toNat 0 + c) % 18446744073709551616 →
      c' = (((dig n i.toNat : Nat) : Int) * ((dig m j.toNat : Nat) : Int) + w.getD (i + j).toNat 0 + c) / 18446744073709551616 → c' < 18446744073709551616 ∧ mulJ (Wn 4 n) (Wn 4 m) (w.set (i + j).toNat s) i c' (j + 1) := by
  obtain ⟨h1, h2, h3, h4, x, cn, rfl, rfl, h5, h6, h7⟩ := h
  rw [N4_W4 hn, N4_W4 hm] at h7
  have hk : (i + j).toNat = i.toNat + j.toNat := by omega
  rw [hk, Wn_getD x (by omega)]
  have hx := dig_lt x (i.toNat + j.toNat)
  refine ⟨u64_dig _ _, ⟨by omega, by omega⟩, ?_⟩
  intro s c' hs hc'
  have hp : dig n i.toNat * dig m j.toNat ≤ 18446744073709551615 * 18446744073709551615 := Nat.mul_le_mul (by have := dig_lt n i.toNat; omega) (by have := dig_lt m j.toNat; omega)
  have hpi : ((dig n i.toNat : Nat) : Int) * ((dig m j.toNat : Nat) : Int) = ((dig n i.toNat * dig m j.toNat : Nat) : Int) := by simp
  rw [hpi] at hs hc'
  generalize hpe : dig n i.toNat * dig m j.toNat = p at *
  have hs' : s = (((p + dig x (i.toNat + j.toNat) + cn) % 18446744073709551616 : Nat) : Int) := by omega
  have hc2 : c' = (((p + dig x (i.toNat + j.toNat) + cn) / 18446744073709551616 : Nat) : Int) := by omega
  refine ⟨by omega, h1, h2, by omega, by omega, setw x (i.toNat + j.toNat) ((p + dig x (i.toNat + j.toNat) + cn) % 18446744073709551616), (p + dig x (i.toNat + j.toNat) + cn) / 18446744073709551616, ?_, hc2, by omega, ?_, ?_⟩
  · rw [hs', Wn_setw (by omega) (Nat.mod_lt _ (by omega))]
  · have hlo : x % 2 ^ (64 * (i.toNat + j.toNat)) < 2 ^ (64 * (i.toNat + j.toNat)) := Nat.mod_lt _ (Nat.two_pow_pos _)
    rw [dig_split x (i.toNat + j.toNat), dig_form _ (dig_lt _ _) hlo] at h6
    unfold setw
    rw [dig_form _ (Nat.mod_lt _ (by omega)) hlo]
    rw [if_neg (by omega), if_neg (by omega)] at h6 ⊢
    exact h6
  · have hst := mul_step (k := i.toNat + j.toNat) h7 (show p + dig x (i.toNat + j.toNat) + cn = 18446744073709551616 * ((p + dig x (i.toNat + j.toNat) + cn) / 18446744073709551616) + (p + dig x (i.toNat + j.toNat) + cn) % 18446744073709551616 by omega)
    rw [N4_W4 hn, N4_W4 hm, show (j + 1).toNat = j.toNat + 1 by omega, show i.toNat + (j.toNat + 1) = i.toNat + j.toNat + 1 by omega, hst, mod_split m j.toNat, Nat.mul_add (dig n i.toNat * 2 ^ (64 * i.toNat)), ← hpe]
    rw [show 64 * (i.toNat + j.toNat) = 64 * i.toNat + 64 * j.toNat by omega, Nat.pow_add]
    have : dig n i.toNat * dig m j.toNat * (2 ^ (64 * i.toNat) * 2 ^ (64 * j.toNat)) = dig n i.toNat * 2 ^ (64 * i.toNat) * (dig m j.toNat * 2 ^ (64 * j.toNat)) := by rw [Nat.mul_mul_mul_comm]
    rw [this]; omega
theorem mul_halves (x : Nat) (hx : x < Big * Big) : ((Wn 8 x).drop 4).take 4 = Wn 4 (x / Big) ∧ (Wn 8 x).take 4 = Wn 4 x := by
  have e : Wn 8 x = [((dig x 0 : Nat) : Int), ((dig x 1 : Nat) : Int), ((dig x 2 : Nat) : Int), ((dig x 3 : Nat) : Int), ((dig x 4 : Nat) : Int), ((dig x 5 : Nat) : Int), ((dig x 6 : Nat) : Int), ((dig x 7 : Nat) : Int)] := rfl
  have hd : ∀ k, dig (x / Big) k = dig x (4 + k) := by
    intro k
    unfold dig
    rw [Nat.div_div_eq_div_mul, big_pow, ← Nat.pow_add]
    congr 3
    omega
  rw [e, W4_eq, W4_eq, hd, hd, hd, hd]
  exact ⟨rfl, rfl⟩
theorem mul_lt {n m : Nat} (hn : n < Big) (hm : m < Big) : n * m < Big * Big := Nat.mul_lt_mul'' hn hm

def WMul.pre (a b : List Int) : Prop := Ok4 a ∧ Ok4 b
def WMul.fn (a b : List Int) : List Int × List Int := mulFn a b
def WMul.inv3 (a b v4 v5 w : List Int) (i : Int) : Prop := mulI a b w i
def WMul.mes3 (a b v4 v5 w : List Int) (i : Int) : Nat := (4 - i).toNat
def WMul.inv7 (a b : List Int) (i : Int) (v4 v5 w : List Int) (c j : Int) : Prop := mulJ a b w i c j
def WMul.mes7 (a b : List Int) (i : Int) (v4 v5 w : List Int) (c j : Int) : Nat := (4 - j).toNat
def WMul.VC : Prop := ∀ (x0 : (List Int)) (x1 : (List Int)), WMul.pre x0 x1 →
 (WMul.inv3 x0 x1 (List.replicate 4 (0 : Int)) (List.replicate 4 (0 : Int)) (List.replicate 8 (0 : Int)) (0 : Int) ∧
 ∀ (v4 : (List Int)) (v5 : (List Int)) (v6 : (List Int)) (v14 : Int), WMul.inv3 x0 x1 v4 v5 v6 v14 →
 (((decide (v14 < (4 : Int))) = true →
 (WMul.inv7 x0 x1 v14 v4 v5 v6 (0 : Int) (0 : Int) ∧
 ∀ (v4_1 : (List Int)) (v5_1 : (List Int)) (v6_1 : (List Int)) (v8 : Int) (v17 : Int), WMul.inv7 x0 x1 v14 v4_1 v5_1 v6_1 v8 v17 →
 (((decide (v17 < (4 : Int))) = true →
 (0 ≤ v14 ∧ v14 < 4) ∧
 (0 ≤ v17 ∧ v17 < 4) ∧
 Mul64.pre (x0.getD (Int.toNat v14) (0 : Int)) (x1.getD (Int.toNat v17) (0 : Int)) ∧
 (let v28 : Int := (Mul64.fn (x0.getD (Int.toNat v14) (0 : Int)) (x1.getD (Int.toNat v17) (0 : Int))).1
 (let v29 : Int := (Mul64.fn (x0.getD (Int.toNat v14) (0 : Int)) (x1.getD (Int.toNat v17) (0 : Int))).2
 (0 ≤ (IntKind.i64.wrap (v14 + v17)) ∧ (IntKind.i64.wrap (v14 + v17)) < 8) ∧
 (let v36 : Int := (v6_1.getD (Int.toNat (IntKind.i64.wrap (v14 + v17))) (0 : Int))
 Add64.pre v29 v36 (0 : Int) ∧
 Add64.pre ((Add64.fn v29 v36 (0 : Int)).1) v8 (0 : Int) ∧
 (let v55 : Int := (IntKind.u64.wrap ((IntKind.u64.wrap (v28 + (Add64.fn v29 v36 (0 : Int)).2)) + (Add64.fn ((Add64.fn v29 v36 (0 : Int)).1) v8 (0 : Int)).2))
 (0 ≤ (IntKind.i64.wrap (v14 + v17)) ∧ (IntKind.i64.wrap (v14 + v17)) < 8) ∧
 (let v6_2h : (List Int) := (v6_1.set (Int.toNat (IntKind.i64.wrap (v14 + v17))) (Add64.fn ((Add64.fn v29 v36 (0 : Int)).1) v8 (0 : Int)).1)
 (WMul.inv7 x0 x1 v14 v4_1 v5_1 v6_2h v55 (IntKind.i64.wrap (v17 + (1 : Int))) ∧ WMul.mes7 x0 x1 v14 v4_1 v5_1 v6_2h v55 (IntKind.i64.wrap (v17 + (1 : Int))) < WMul.mes7 x0 x1 v14 v4_1 v5_1 v6_1 v8 v17))))))) ∧
 ((decide (v17 < (4 : Int))) = false →
 (0 ≤ (IntKind.i64.wrap (v14 + (4 : Int))) ∧ (IntKind.i64.wrap (v14 + (4 : Int))) < 8) ∧
 (let v6_3h : (List Int) := (v6_1.set (Int.toNat (IntKind.i64.wrap (v14 + (4 : Int)))) v8)
 (WMul.inv3 x0 x1 v4_1 v5_1 v6_3h (IntKind.i64.wrap (v14 + (1 : Int))) ∧ WMul.mes3 x0 x1 v4_1 v5_1 v6_3h (IntKind.i64.wrap (v14 + (1 : Int))) < WMul.mes3 x0 x1 v4 v5 v6 v14)))))) ∧
 ((decide (v14 < (4 : Int))) = false →
 (0 ≤ (4 : Int) ∧ (4 : Int) ≤ (8 : Int) ∧ (8 : Int) ≤ 8) ∧
 (Int.toNat (4 : Int)) + ((Int.toNat (8 : Int)) - (Int.toNat (4 : Int))) ≤ v6.length ∧
 4 ≤ ((v6.drop (Int.toNat (4 : Int))).take ((Int.toNat (8 : Int)) - (Int.toNat (4 : Int)))).length ∧
 (let v65 : (List Int) := (((v6.drop (Int.toNat (4 : Int))).take ((Int.toNat (8 : Int)) - (Int.toNat (4 : Int)))).take 4)
 (0 ≤ (0 : Int) ∧ (0 : Int) ≤ (4 : Int) ∧ (4 : Int) ≤ 8) ∧
 (Int.toNat (0 : Int)) + ((Int.toNat (4 : Int)) - (Int.toNat (0 : Int))) ≤ v6.length ∧
 4 ≤ ((v6.drop (Int.toNat (0 : Int))).take ((Int.toNat (4 : Int)) - (Int.toNat (0 : Int)))).length ∧
 (let v68 : (List Int) := (((v6.drop (Int.toNat (0 : Int))).take ((Int.toNat (4 : Int)) - (Int.toNat (0 : Int)))).take 4)
 (Ret2 v65 v68 (WMul.fn x0 x1)))))))
theorem add64z (x y : Int) : Add64.fn x y 0 = ((x + y) % 18446744073709551616, (x + y) / 18446744073709551616) := by simp [Add64.fn]
theorem zero8 : List.replicate 8 (0 : Int) = Wn 8 0 := by
  apply ext_getD (by simp [Wn_len])
  intro i hi
  have hi : i < 8 := by simpa using hi
  rw [zeros_get, Wn_getD 0 hi]
  simp [dig]
theorem mulI_zero (a b : List Int) : mulI a b (List.replicate 8 0) 0 := ⟨by omega, by omega, by rw [zero8]; simp [Nat.mod_one]⟩
theorem WMul.vc : WMul.VC := by
  rintro a b ⟨⟨n, hn, rfl⟩, ⟨m, hm, rfl⟩⟩
  refine ⟨mulI_zero _ _, ?_⟩
  rintro v4 v5 w i hI
  have hI0 : 0 ≤ i ∧ i ≤ 4 := ⟨hI.1, hI.2.1⟩
  refine ⟨fun hc => ?_, fun hc => ?_⟩
  · have hc : i < 4 := of_decide_eq_true hc
    refine ⟨mulJ_start hn hm hI hc, ?_⟩
    rintro v4 v5 w c j hJ
    have hJ0 : 0 ≤ j ∧ j ≤ 4 := ⟨hJ.2.2.1, hJ.2.2.2.1⟩
    have hi : 0 ≤ i ∧ i < 4 := ⟨hI0.1, hc⟩
    refine ⟨fun hj => ?_, fun hj => ?_⟩
    · have hj : j < 4 := of_decide_eq_true hj
      have hj' : 0 ≤ j ∧ j < 4 := ⟨hJ0.1, hj⟩
      obtain ⟨s1, s2, s3⟩ := mulJ_step hn hm hJ hj
      simp only [ok4_get hi, ok4_get hj', i64w (n := i + j) (by omega) (by omega), i64w (n := j + 1) (by omega) (by omega), add64z]
      have hm1 : Mul64.fn ((dig n i.toNat : Nat) : Int) ((dig m j.toNat : Nat) : Int) = (((dig n i.toNat : Nat) : Int) * ((dig m j.toNat : Nat) : Int) / 18446744073709551616, ((dig n i.toNat : Nat) : Int) * ((dig m j.toNat : Nat) : Int) % 18446744073709551616) := rfl
      simp only [hm1]
      have hp0 : 0 ≤ ((dig n i.toNat : Nat) : Int) * ((dig m j.toNat : Nat) : Int) := Int.mul_nonneg (by omega) (by omega)
      generalize ((dig n i.toNat : Nat) : Int) * ((dig m j.toNat : Nat) : Int) = p at *
      generalize w.getD (i + j).toNat 0 = d at *
      obtain ⟨s4, s5⟩ := s3 _ _ rfl rfl
      unfold W64 at s1 s2
      have e1 : IntKind.u64.wrap (IntKind.u64.wrap (p / 18446744073709551616 + (p % 18446744073709551616 + d) / 18446744073709551616) + ((p % 18446744073709551616 + d) % 18446744073709551616 + c) / 18446744073709551616) = (p + d + c) / 18446744073709551616 := by
        rw [u64w (n := p / 18446744073709551616 + (p % 18446744073709551616 + d) / 18446744073709551616) (by omega) (by omega), u64w (by omega) (by omega)]
        omega
      have e2 : ((p % 18446744073709551616 + d) % 18446744073709551616 + c) % 18446744073709551616 = (p + d + c) % 18446744073709551616 := by omega
      rw [e1, e2]
      refine ⟨hi, hj', ⟨u64_dig _ _, u64_dig _ _⟩, by omega, ⟨⟨by omega, by omega⟩, s1, by omega, by omega⟩, ⟨⟨by omega, by omega⟩, s2, by omega, by omega⟩, by omega, s5, by simp only [WMul.mes7]; omega⟩
    · have hj : ¬ j < 4 := of_decide_eq_false hj
      rw [i64w (n := i + 4) (by omega) (by omega), i64w (n := i + 1) (by omega) (by omega)]
      exact ⟨by omega, mulJ_end hn hm hJ hj, by simp only [WMul.mes3]; omega⟩
  · have hc : ¬ i < 4 := of_decide_eq_false hc
    obtain ⟨_, _, hw⟩ := hI
    rw [N4_W4 hn, N4_W4 hm, show i.toNat = 4 by omega, show 2 ^ (64 * 4) = Big from big_pow.symm, Nat.mod_eq_of_lt hn] at hw
    subst hw
    obtain ⟨q1, q2⟩ := mul_halves (n * m) (mul_lt hn hm)
    have l8 : (Wn 8 (n * m)).length = 8 := Wn_len _ _
    refine ⟨by omega, by rw [l8]; decide, by rw [List.length_take, List.length_drop, l8]; decide, by omega, by rw [l8]; decide, by rw [List.length_take, List.length_drop, l8]; decide, ret2.2 ?_⟩
    refine Prod.ext ?_ ?_
    · show List.take 4 (List.take 4 (List.drop 4 (Wn 8 (n * m)))) = Wn 4 (N4 (Wn 4 n) * N4 (Wn 4 m) / Big)
      rw [q1, List.take_of_length_le (by rw [Wn_len]; omega), N4_W4 hn, N4_W4 hm]
    · show List.take 4 (List.take 4 (List.drop 0 (Wn 8 (n * m)))) = Wn 4 (N4 (Wn 4 n) * N4 (Wn 4 m))
      rw [List.drop_zero, q2, List.take_of_length_le (by rw [Wn_len]; omega), N4_W4 hn, N4_W4 hm]

def QMul.pre (a b : List Int) : Prop := Ok4 a ∧ Ok4 b
def QMul.fn (a b : List Int) : List Int × List Int := mulFn a b
def QMul.inv3 (a b v4 v5 w : List Int) (i : Int) : Prop := v4.length = 4 ∧ v5.length = 4 ∧ mulI a b w i
def QMul.mes3 (a b v4 v5 w : List Int) (i : Int) : Nat := (4 - i).toNat
def QMul.inv7 (a b : List Int) (i : Int) (v4 v5 w : List Int) (c j : Int) : Prop := v4.length = 4 ∧ v5.length = 4 ∧ mulJ a b w i c j
def QMul.mes7 (a b : List Int) (i : Int) (v4 v5 w : List Int) (c j : Int) : Nat := (4 - j).toNat
def QMul.VC : Prop := ∀ (x0 : (List Int)) (x1 : (List Int)), QMul.pre x0 x1 →
 (QMul.inv3 x0 x1 (List.replicate 4 (0 : Int)) (List.replicate 4 (0 : Int)) (List.replicate 8 (0 : Int)) (0 : Int) ∧
 ∀ (v4 : (List Int)) (v5 : (List Int)) (v6 : (List Int)) (v15 : Int), QMul.inv3 x0 x1 v4 v5 v6 v15 →
 (((decide (v15 < (4 : Int))) = true →
 (QMul.inv7 x0 x1 v15 v4 v5 v6 (0 : Int) (0 : Int) ∧
 ∀ (v4_1 : (List Int)) (v5_1 : (List Int)) (v6_1 : (List Int)) (v8 : Int) (v18 : Int), QMul.inv7 x0 x1 v15 v4_1 v5_1 v6_1 v8 v18 →
 (((decide (v18 < (4 : Int))) = true →
 (0 ≤ v15 ∧ v15 < 4) ∧
 (0 ≤ v18 ∧ v18 < 4) ∧
 Mul64.pre (x0.getD (Int.toNat v15) (0 : Int)) (x1.getD (Int.toNat v18) (0 : Int)) ∧
 (let v29 : Int := (Mul64.fn (x0.getD (Int.toNat v15) (0 : Int)) (x1.getD (Int.toNat v18) (0 : Int))).1
 (let v30 : Int := (Mul64.fn (x0.getD (Int.toNat v15) (0 : Int)) (x1.getD (Int.toNat v18) (0 : Int))).2
 (0 ≤ (IntKind.i64.wrap (v15 + v18)) ∧ (IntKind.i64.wrap (v15 + v18)) < 8) ∧
 (let v36 : Int := (v6_1.getD (Int.toNat (IntKind.i64.wrap (v15 + v18))) (0 : Int))
 Add64.pre v36 v30 (0 : Int) ∧
 Add64.pre ((Add64.fn v36 v30 (0 : Int)).1) v8 (0 : Int) ∧
 (let v55 : Int := (IntKind.u64.wrap ((IntKind.u64.wrap (v29 + (Add64.fn v36 v30 (0 : Int)).2)) + (Add64.fn ((Add64.fn v36 v30 (0 : Int)).1) v8 (0 : Int)).2))
 (0 ≤ (IntKind.i64.wrap (v15 + v18)) ∧ (IntKind.i64.wrap (v15 + v18)) < 8) ∧
 (let v6_2h : (List Int) := (v6_1.set (Int.toNat (IntKind.i64.wrap (v15 + v18))) (Add64.fn ((Add64.fn v36 v30 (0 : Int)).1) v8 (0 : Int)).1)
 (QMul.inv7 x0 x1 v15 v4_1 v5_1 v6_2h v55 (IntKind.i64.wrap (v18 + (1 : Int))) ∧ QMul.mes7 x0 x1 v15 v4_1 v5_1 v6_2h v55 (IntKind.i64.wrap (v18 + (1 : Int))) < QMul.mes7 x0 x1 v15 v4_1 v5_1 v6_1 v8 v18))))))) ∧
 ((decide (v18 < (4 : Int))) = false →
 (0 ≤ (IntKind.i64.wrap (v15 + (4 : Int))) ∧ (IntKind.i64.wrap (v15 + (4 : Int))) < 8) ∧
 (let v6_3h : (List Int) := (v6_1.set (Int.toNat (IntKind.i64.wrap (v15 + (4 : Int)))) v8)
 (QMul.inv3 x0 x1 v4_1 v5_1 v6_3h (IntKind.i64.wrap (v15 + (1 : Int))) ∧ QMul.mes3 x0 x1 v4_1 v5_1 v6_3h (IntKind.i64.wrap (v15 + (1 : Int))) < QMul.mes3 x0 x1 v4 v5 v6 v15)))))) ∧
 ((decide (v15 < (4 : Int))) = false →
 (0 ≤ (0 : Int) ∧ (0 : Int) ≤ (4 : Int) ∧ (4 : Int) ≤ 8) ∧
 (Int.toNat (0 : Int)) + ((Int.toNat (4 : Int)) - (Int.toNat (0 : Int))) ≤ v6.length ∧
 (let v65 : Int := ((min ((v6.drop (Int.toNat (0 : Int))).take ((Int.toNat (4 : Int)) - (Int.toNat (0 : Int)))).length v5.length : Nat) : Int)
 (let v5_2h : (List Int) := (((v6.drop (Int.toNat (0 : Int))).take ((Int.toNat (4 : Int)) - (Int.toNat (0 : Int)))).take v5.length ++ v5.drop ((v6.drop (Int.toNat (0 : Int))).take ((Int.toNat (4 : Int)) - (Int.toNat (0 : Int)))).length)
 (0 ≤ (4 : Int) ∧ (4 : Int) ≤ (8 : Int) ∧ (8 : Int) ≤ 8) ∧
 (Int.toNat (4 : Int)) + ((Int.toNat (8 : Int)) - (Int.toNat (4 : Int))) ≤ v6.length ∧
 (let v68 : Int := ((min ((v6.drop (Int.toNat (4 : Int))).take ((Int.toNat (8 : Int)) - (Int.toNat (4 : Int)))).length v4.length : Nat) : Int)
 (let v4_2h : (List Int) := (((v6.drop (Int.toNat (4 : Int))).take ((Int.toNat (8 : Int)) - (Int.toNat (4 : Int)))).take v4.length ++ v4.drop ((v6.drop (Int.toNat (4 : Int))).take ((Int.toNat (8 : Int)) - (Int.toNat (4 : Int)))).length)
 (Ret2 v4_2h v5_2h (QMul.fn x0 x1)))))))))
theorem QMul.vc : QMul.VC := by
  rintro a b ⟨⟨n, hn, rfl⟩, ⟨m, hm, rfl⟩⟩
  refine ⟨⟨rfl, rfl, mulI_zero _ _⟩, ?_⟩
  rintro v4 v5 w i ⟨l4, l5, hI⟩
  have hI0 : 0 ≤ i ∧ i ≤ 4 := ⟨hI.1, hI.2.1⟩
  refine ⟨fun hc => ?_, fun hc => ?_⟩
  · have hc : i < 4 := of_decide_eq_true hc
    refine ⟨⟨l4, l5, mulJ_start hn hm hI hc⟩, ?_⟩
    rintro v4 v5 w c j ⟨l4, l5, hJ⟩
    have hJ0 : 0 ≤ j ∧ j ≤ 4 := ⟨hJ.2.2.1, hJ.2.2.2.1⟩
    have hi : 0 ≤ i ∧ i < 4 := ⟨hI0.1, hc⟩
    refine ⟨fun hj => ?_, fun hj => ?_⟩
    · have hj : j < 4 := of_decide_eq_true hj
      have hj' : 0 ≤ j ∧ j < 4 := ⟨hJ0.1, hj⟩
      obtain ⟨s1, s2, s3⟩ := mulJ_step hn hm hJ hj
      simp only [ok4_get hi, ok4_get hj', i64w (n := i + j) (by omega) (by omega), i64w (n := j + 1) (by omega) (by omega), add64z]
      have hm1 : Mul64.fn ((dig n i.toNat : Nat) : Int) ((dig m j.toNat : Nat) : Int) = (((dig n i.toNat : Nat) : Int) * ((dig m j.toNat : Nat) : Int) / 18446744073709551616, ((dig n i.toNat : Nat) : Int) * ((dig m j.toNat : Nat) : Int) % 18446744073709551616) := rfl
      simp only [hm1]
      have hp0 : 0 ≤ ((dig n i.toNat : Nat) : Int) * ((dig m j.toNat : Nat) : Int) := Int.mul_nonneg (by omega) (by omega)
      generalize ((dig n i.toNat : Nat) : Int) * ((dig m j.toNat : Nat) : Int) = p at *
      generalize w.getD (i + j).toNat 0 = d at *
      obtain ⟨s4, s5⟩ := s3 _ _ rfl rfl
      unfold W64 at s1 s2
      have e1 : IntKind.u64.wrap (IntKind.u64.wrap (p / 18446744073709551616 + (d + p % 18446744073709551616) / 18446744073709551616) + ((d + p % 18446744073709551616) % 18446744073709551616 + c) / 18446744073709551616) = (p + d + c) / 18446744073709551616 := by
        rw [u64w (n := p / 18446744073709551616 + (d + p % 18446744073709551616) / 18446744073709551616) (by omega) (by omega), u64w (by omega) (by omega)]
        omega
      have e2 : ((d + p % 18446744073709551616) % 18446744073709551616 + c) % 18446744073709551616 = (p + d + c) % 18446744073709551616 := by omega
      rw [e1, e2]
      refine ⟨hi, hj', ⟨u64_dig _ _, u64_dig _ _⟩, by omega, ⟨s1, ⟨by omega, by omega⟩, by omega, by omega⟩, ⟨⟨by omega, by omega⟩, s2, by omega, by omega⟩, by omega, ⟨l4, l5, s5⟩, by simp only [QMul.mes7]; omega⟩
    · have hj : ¬ j < 4 := of_decide_eq_false hj
      rw [i64w (n := i + 4) (by omega) (by omega), i64w (n := i + 1) (by omega) (by omega)]
      exact ⟨by omega, ⟨l4, l5, mulJ_end hn hm hJ hj⟩, by simp only [QMul.mes3]; omega⟩
  · have hc : ¬ i < 4 := of_decide_eq_false hc
    obtain ⟨_, _, hw⟩ := hI
    rw [N4_W4 hn, N4_W4 hm, show i.toNat = 4 by omega, show 2 ^ (64 * 4) = Big from big_pow.symm, Nat.mod_eq_of_lt hn] at hw
    subst hw
    obtain ⟨q1, q2⟩ := mul_halves (n * m) (mul_lt hn hm)
    have l8 : (Wn 8 (n * m)).length = 8 := Wn_len _ _
    refine ⟨by omega, by rw [l8]; decide, by omega, by rw [l8]; decide, ret2.2 ?_⟩
    refine Prod.ext ?_ ?_
    · show List.take v4.length (List.take 4 (List.drop 4 (Wn 8 (n * m)))) ++ List.drop (List.take 4 (List.drop 4 (Wn 8 (n * m)))).length v4 = Wn 4 (N4 (Wn 4 n) * N4 (Wn 4 m) / Big)
      rw [q1, l4, List.take_of_length_le (by rw [Wn_len]; omega), Wn_len, List.drop_eq_nil_of_le (by omega), List.append_nil, N4_W4 hn, N4_W4 hm]
    · show List.take v5.length (List.take 4 (List.drop 0 (Wn 8 (n * m)))) ++ List.drop (List.take 4 (List.drop 0 (Wn 8 (n * m)))).length v5 = Wn 4 (N4 (Wn 4 n) * N4 (Wn 4 m))
      rw [List.drop_zero, q2, l5, List.take_of_length_le (by rw [Wn_len]; omega), Wn_len, List.drop_eq_nil_of_le (by omega), List.append_nil, N4_W4 hn, N4_W4 hm]
end Lc
