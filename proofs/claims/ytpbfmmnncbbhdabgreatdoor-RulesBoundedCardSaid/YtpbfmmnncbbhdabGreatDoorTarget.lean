/- Compact targets: the functions of the program and of the reference as plain functions, and the proofs of their conditions. -/
import Derived.Test.YtpbfmmnncbbhdabGreatDoorWide4
set_option linter.unusedVariables false
set_option maxRecDepth 100000
namespace Lc
open Go

def U32 (x : Int) : Prop := 0 ≤ x ∧ x ≤ 4294967295
theorem U32.nat {x : Int} (h : U32 x) : ∃ n : Nat, n < 4294967296 ∧ x = (n : Int) := by
  obtain ⟨n, rfl⟩ := Int.eq_ofNat_of_zero_le h.1
  exact ⟨n, by have := h.2; omega, rfl⟩
theorem andU32 {a b : Nat} (ha : a < 4294967296) (hb : b < 4294967296) : iand .u32 a b = ((a &&& b : Nat) : Int) := by
  have h : (a &&& b) < 2 ^ 32 := Nat.and_lt_two_pow _ hb
  have e : iand .u32 a b = IntKind.u32.wrap (((BitVec.ofInt 32 (a : Int)).toNat &&& (BitVec.ofInt 32 (b : Int)).toNat : Nat) : Int) := rfl
  rw [e, ofInt_nat (show a < 2 ^ 32 from ha), ofInt_nat (show b < 2 ^ 32 from hb), u32w (by omega) (by omega)]
theorem shrU32 {a k : Nat} (hk : k ≤ 32) : ishr .u32 (a : Int) (k : Int) = ((a / 2 ^ k : Nat) : Int) := by
  have e : ishr .u32 (a : Int) (k : Int) = (a : Int).fdiv (2 ^ (min (k : Int).toNat 32)) := rfl
  rw [e, Int.toNat_natCast, Nat.min_eq_left hk]
  have : (2 : Int) ^ k = ((2 ^ k : Nat) : Int) := by simp
  rw [this, Int.fdiv_eq_ediv_of_nonneg _ (Int.natCast_nonneg _)]
  simp
theorem mant {x : Nat} (h : x < 4294967296) : IntKind.u64.wrap (iand .u32 (x : Int) 16777215) = ((x % 16777216 : Nat) : Int) := by
  have : (16777215 : Int) = ((16777215 : Nat) : Int) := rfl
  rw [this, andU32 h (by omega), u64w (by omega) (by have := Nat.and_le_right (n := x) (m := 16777215); omega)]
  congr 1
  exact Nat.and_two_pow_sub_one_eq_mod x 24
theorem sgn {x : Nat} (h : x < 4294967296) : ((iand .u32 (x : Int) 8388608) != 0) = decide (8388608 ≤ x % 16777216) := by
  have : (8388608 : Int) = ((8388608 : Nat) : Int) := rfl
  rw [this, andU32 h (by omega), Bool.eq_iff_iff]
  simp only [bne_iff_ne, ne_eq, decide_eq_true_eq]
  have e : (x &&& 8388608) = 8388608 * (x / 8388608 % 2) := by
    apply Nat.eq_of_testBit_eq
    intro i
    rw [Nat.testBit_and, show (8388608 : Nat) = 2 ^ 23 from rfl, Nat.testBit_two_pow]
    by_cases hi : 23 = i
    · subst hi
      rw [Nat.testBit_two_pow_mul]
      have h0 : (x / 2 ^ 23 % 2).testBit 0 = x.testBit 23 := by
        rw [Nat.testBit_zero, Nat.testBit_eq_decide_div_mod_eq, Nat.mod_mod]
      simp [h0]
    · have : (2 ^ 23 * (x / 2 ^ 23 % 2)).testBit i = false := by
        rw [Nat.testBit_two_pow_mul]
        by_cases h2 : 23 ≤ i
        · have : (x / 2 ^ 23 % 2).testBit (i - 23) = false := by
            apply Nat.testBit_lt_two_pow
            have h3 : x / 2 ^ 23 % 2 < 2 := Nat.mod_lt _ (by omega)
            have h4 : 2 ^ 1 ≤ 2 ^ (i - 23) := Nat.pow_le_pow_right (by omega) (by omega)
            omega
          simp [this]
        · simp [h2]
      rw [this]; simp [hi]
  rw [e]
  omega

/-- The target of a compact form; 0 if there is none. -/
def expandN (x : Nat) : Nat :=
  if 8388608 ≤ x % 16777216 then 0
  else if x / 16777216 < 3 then x % 16777216 / 2 ^ (8 * (3 - x / 16777216))
  else if 256 < bl (x % 16777216) + 8 * (x / 16777216 - 3) then 0 else x % 16777216 * 2 ^ (8 * (x / 16777216 - 3))
def expandFn (x : Int) : List Int × Int := if expandN x.toNat = 0 then (Wn 4 0, 120) else (Wn 4 (expandN x.toNat), 0)
theorem expandN_lt {x : Nat} (h : x < 4294967296) : expandN x < Big := by
  unfold expandN
  split
  · decide
  · split
    · refine Nat.lt_of_le_of_lt (Nat.div_le_self _ _) ?_
      unfold Big; omega
    · split
      · decide
      · rename_i h1 h2 h3
        by_cases hz : x % 16777216 = 0
        · rw [hz, Nat.zero_mul]; decide
        · rw [big_pow, ← bl_le_iff, bl_mul hz]; omega

def TShifted.pre (a : List Int) (n : Int) : Prop := Ok4 a ∧ -100000 ≤ n ∧ n ≤ 100000
def TShifted.fn (a : List Int) (n : Int) : List Int := if n < 0 then shrFn a (0 - n) else shlFn a n
def TShifted.VC : Prop := ∀ (x0 : (List Int)) (x1 : Int), TShifted.pre x0 x1 →
 (((decide (x1 < (0 : Int))) = true →
 WShr.pre x0 (IntKind.i64.wrap (0 - x1)) ∧
 (Ret1 (WShr.fn x0 (IntKind.i64.wrap (0 - x1))) (TShifted.fn x0 x1))) ∧
 ((decide (x1 < (0 : Int))) = false →
 WShl.pre x0 x1 ∧
 (Ret1 (WShl.fn x0 x1) (TShifted.fn x0 x1))))
theorem TShifted.vc : TShifted.VC := by
  intro a n ⟨h, h1, h2⟩
  rw [i64w (by omega) (by omega)]
  refine ⟨fun hc => ⟨h, ret1.2 ?_⟩, fun hc => ⟨h, ret1.2 ?_⟩⟩
  · rw [TShifted.fn, if_pos (of_decide_eq_true hc)]; rfl
  · rw [TShifted.fn, if_neg (of_decide_eq_false hc)]; rfl
theorem shifted_neg {n k : Nat} (hn : n < Big) (hk : 0 < k) : TShifted.fn (Wn 4 n) (-(k : Int)) = Wn 4 (n / 2 ^ k) := by
  rw [TShifted.fn, if_pos (by omega), shrFn, if_neg (by omega), N4_W4 hn]
  congr 3; omega
theorem shifted_pos {n k : Nat} (hn : n < Big) : TShifted.fn (Wn 4 n) (k : Int) = Wn 4 (n * 2 ^ k) := by
  rw [TShifted.fn, if_neg (by omega), shlFn, if_neg (by omega), N4_W4 hn, Int.toNat_natCast]

def TExpand.pre (x : Int) : Prop := U32 x
def TExpand.fn (x : Int) : List Int × Int := expandFn x
def TExpand.VC : Prop := ∀ (x0 : Int), TExpand.pre x0 →
 WFrom.pre (IntKind.u64.wrap (iand .u32 x0 (16777215 : Int))) ∧
 (let v10 : (List Int) := (WFrom.fn (IntKind.u64.wrap (iand .u32 x0 (16777215 : Int))))
 0 ≤ (24 : Int) ∧
 (let v14 : Int := (IntKind.i64.wrap ((IntKind.i64.wrap (ishr .u32 x0 (24 : Int))) - (3 : Int)))
 (((iand .u32 x0 (8388608 : Int)) != (0 : Int)) = false → ((iand .u32 x0 (8388608 : Int)) != (0 : Int)) = false) ∧
 (((iand .u32 x0 (8388608 : Int)) != (0 : Int)) = false → WLen.pre v10) ∧
 (((iand .u32 x0 (8388608 : Int)) != (0 : Int)) = false → ((iand .u32 x0 (8388608 : Int)) != (0 : Int)) = false) ∧
 (((iand .u32 x0 (8388608 : Int)) != (0 : Int)) = false → ((iand .u32 x0 (8388608 : Int)) != (0 : Int)) = false) ∧
 (((iand .u32 x0 (8388608 : Int)) != (0 : Int)) = false → ((iand .u32 x0 (8388608 : Int)) != (0 : Int)) = false) ∧
 (((iand .u32 x0 (8388608 : Int)) != (0 : Int)) = false → ((iand .u32 x0 (8388608 : Int)) != (0 : Int)) = false) ∧
 (let v25 : Bool := (bif ((iand .u32 x0 (8388608 : Int)) != (0 : Int)) then true else (decide ((IntKind.i64.wrap ((WLen.fn v10) + (IntKind.i64.wrap ((8 : Int) * v14)))) > (256 : Int))))
 ((v25 = true →
 (Ret2 (List.replicate 4 (0 : Int)) (120 : Int) (TExpand.fn x0))) ∧
 (v25 = false →
 TShifted.pre v10 (IntKind.i64.wrap ((8 : Int) * v14)) ∧
 (let v32 : Bool := (Ty.beq (.arr 4 (.int .u64)) (TShifted.fn v10 (IntKind.i64.wrap ((8 : Int) * v14))) (List.replicate 4 (0 : Int)))
 ((v32 = true →
 (Ret2 (List.replicate 4 (0 : Int)) (120 : Int) (TExpand.fn x0))) ∧
 (v32 = false →
 (Ret2 (TShifted.fn v10 (IntKind.i64.wrap ((8 : Int) * v14))) (0 : Int) (TExpand.fn x0))))))))))
theorem TExpand.vc : TExpand.VC := by
  intro x0 hx0
  obtain ⟨x, hx, rfl⟩ := hx0.nat
  have s24 : ishr .u32 (x : Int) 24 = ((x / 16777216 : Nat) : Int) := shrU32 (k := 24) (by omega)
  simp only [mant hx, sgn hx, s24, WFrom.fn, Int.toNat_natCast]
  have hx24 : x / 16777216 < 256 := by omega
  have hm : x % 16777216 < 16777216 := Nat.mod_lt _ (by omega)
  have hmB : x % 16777216 < Big := by unfold Big; omega
  have e1 : IntKind.i64.wrap ((x / 16777216 : Nat) : Int) = ((x / 16777216 : Nat) : Int) := i64w (by omega) (by omega)
  have e2 : IntKind.i64.wrap (((x / 16777216 : Nat) : Int) - 3) = ((x / 16777216 : Nat) : Int) - 3 := i64w (by omega) (by omega)
  have e3 : IntKind.i64.wrap (8 * (((x / 16777216 : Nat) : Int) - 3)) = 8 * (((x / 16777216 : Nat) : Int) - 3) := i64w (by omega) (by omega)
  simp only [e1, e2, e3, WLen.fn, N4_W4 hmB]
  have hbl : bl (x % 16777216) ≤ 24 := bl_le_iff.2 hm
  have e4 : IntKind.i64.wrap (((bl (x % 16777216) : Nat) : Int) + 8 * (((x / 16777216 : Nat) : Int) - 3)) = ((bl (x % 16777216) : Nat) : Int) + 8 * (((x / 16777216 : Nat) : Int) - 3) := i64w (by omega) (by omega)
  simp only [e4]
  refine ⟨⟨by omega, by omega⟩, by omega, fun h => h, fun _ => ok4 hmB, fun h => h, fun h => h, fun h => h, fun h => h, fun hb => ?_, fun hb => ?_⟩
  · have hz : expandN x = 0 := by
      unfold expandN
      by_cases hs : 8388608 ≤ x % 16777216
      · rw [if_pos hs]
      · rw [decide_eq_false hs] at hb
        have hb : ((bl (x % 16777216) : Nat) : Int) + 8 * (((x / 16777216 : Nat) : Int) - 3) > 256 := of_decide_eq_true hb
        rw [if_neg hs, if_neg (by omega), if_pos (by omega)]
    rw [ret2, TExpand.fn, expandFn, Int.toNat_natCast, if_pos hz]; rfl
  · have hs : ¬ 8388608 ≤ x % 16777216 := by
      intro hs; rw [decide_eq_true hs] at hb; cases hb
    rw [decide_eq_false hs] at hb
    have hb : ¬ ((bl (x % 16777216) : Nat) : Int) + 8 * (((x / 16777216 : Nat) : Int) - 3) > 256 := of_decide_eq_false hb
    have hT : TShifted.fn (Wn 4 (x % 16777216)) (8 * (((x / 16777216 : Nat) : Int) - 3)) = Wn 4 (expandN x) := by
      unfold expandN
      rw [if_neg hs]
      by_cases h3 : x / 16777216 < 3
      · rw [if_pos h3, show (8 * (((x / 16777216 : Nat) : Int) - 3)) = -((8 * (3 - x / 16777216) : Nat) : Int) by omega, shifted_neg hmB (by omega)]
      · rw [if_neg h3, if_neg (by omega), show (8 * (((x / 16777216 : Nat) : Int) - 3)) = ((8 * (x / 16777216 - 3) : Nat) : Int) by omega, shifted_pos hmB]
    rw [hT, zeq (ok4 (expandN_lt hx)), N4_W4 (expandN_lt hx)]
    refine ⟨⟨ok4 hmB, by omega, by omega⟩, fun hz => ?_, fun hz => ?_⟩
    · rw [ret2, TExpand.fn, expandFn, Int.toNat_natCast, if_pos (of_decide_eq_true hz)]; rfl
    · rw [ret2, TExpand.fn, expandFn, Int.toNat_natCast, if_neg (of_decide_eq_false hz)]

def QExpand.pre (x : Int) : Prop := U32 x
def QExpand.fn (x : Int) : List Int × Int := expandFn x
def QExpand.VC : Prop := ∀ (x0 : Int), QExpand.pre x0 →
 0 ≤ (24 : Int) ∧
 QFromUint.pre (IntKind.u64.wrap (iand .u32 x0 (16777215 : Int))) ∧
 (let v13 : (List Int) := (QFromUint.fn (IntKind.u64.wrap (iand .u32 x0 (16777215 : Int))))
 ((((iand .u32 x0 (8388608 : Int)) != (0 : Int)) = true →
 (Ret2 (List.replicate 4 (0 : Int)) (120 : Int) (QExpand.fn x0))) ∧
 (((iand .u32 x0 (8388608 : Int)) != (0 : Int)) = false →
 (let v20 : Bool := (decide ((IntKind.i64.wrap (ishr .u32 x0 (24 : Int))) < (3 : Int)))
 ((v20 = true →
 (let v23 : Int := (IntKind.i64.wrap ((3 : Int) - (IntKind.i64.wrap (ishr .u32 x0 (24 : Int)))))
 QShr.pre v13 (IntKind.i64.wrap ((8 : Int) * v23)) ∧
 QZero.pre (QShr.fn v13 (IntKind.i64.wrap ((8 : Int) * v23))) ∧
 (let v45 : Bool := (QZero.fn (QShr.fn v13 (IntKind.i64.wrap ((8 : Int) * v23))))
 ((v45 = true →
 (Ret2 (List.replicate 4 (0 : Int)) (120 : Int) (QExpand.fn x0))) ∧
 (v45 = false →
 (Ret2 (QShr.fn v13 (IntKind.i64.wrap ((8 : Int) * v23))) (0 : Int) (QExpand.fn x0))))))) ∧
 (v20 = false →
 QZero.pre v13 ∧
 ((!(QZero.fn v13)) = true → (!(QZero.fn v13)) = true) ∧
 ((!(QZero.fn v13)) = true → QLen.pre v13) ∧
 ((!(QZero.fn v13)) = true → (!(QZero.fn v13)) = true) ∧
 ((!(QZero.fn v13)) = true → (!(QZero.fn v13)) = true) ∧
 ((!(QZero.fn v13)) = true → (!(QZero.fn v13)) = true) ∧
 ((!(QZero.fn v13)) = true → (!(QZero.fn v13)) = true) ∧
 ((!(QZero.fn v13)) = true → (!(QZero.fn v13)) = true) ∧
 ((!(QZero.fn v13)) = true → (!(QZero.fn v13)) = true) ∧
 (let v37 : Bool := (bif (!(QZero.fn v13)) then (decide ((IntKind.i64.wrap ((QLen.fn v13) + (IntKind.i64.wrap ((8 : Int) * (IntKind.i64.wrap ((IntKind.i64.wrap (ishr .u32 x0 (24 : Int))) - (3 : Int))))))) > (256 : Int))) else false)
 ((v37 = true →
 (Ret2 (List.replicate 4 (0 : Int)) (120 : Int) (QExpand.fn x0))) ∧
 (v37 = false →
 (let v41 : Int := (IntKind.i64.wrap ((IntKind.i64.wrap (ishr .u32 x0 (24 : Int))) - (3 : Int)))
 QShl.pre v13 (IntKind.i64.wrap ((8 : Int) * v41)) ∧
 QZero.pre (QShl.fn v13 (IntKind.i64.wrap ((8 : Int) * v41))) ∧
 (let v45_1 : Bool := (QZero.fn (QShl.fn v13 (IntKind.i64.wrap ((8 : Int) * v41))))
 ((v45_1 = true →
 (Ret2 (List.replicate 4 (0 : Int)) (120 : Int) (QExpand.fn x0))) ∧
 (v45_1 = false →
 (Ret2 (QShl.fn v13 (IntKind.i64.wrap ((8 : Int) * v41))) (0 : Int) (QExpand.fn x0)))))))))))))))
theorem QExpand.vc : QExpand.VC := by
  intro x0 hx0
  obtain ⟨x, hx, rfl⟩ := hx0.nat
  have s24 : ishr .u32 (x : Int) 24 = ((x / 16777216 : Nat) : Int) := shrU32 (k := 24) (by omega)
  simp only [mant hx, sgn hx, s24, QFromUint.fn, Int.toNat_natCast]
  have hx24 : x / 16777216 < 256 := by omega
  have hm : x % 16777216 < 16777216 := Nat.mod_lt _ (by omega)
  have hmB : x % 16777216 < Big := by unfold Big; omega
  have e1 : IntKind.i64.wrap ((x / 16777216 : Nat) : Int) = ((x / 16777216 : Nat) : Int) := i64w (by omega) (by omega)
  simp only [e1]
  have hbl : bl (x % 16777216) ≤ 24 := bl_le_iff.2 hm
  refine ⟨by omega, ⟨by omega, by omega⟩, fun hb => ?_, fun hb => ?_⟩
  · have hs : 8388608 ≤ x % 16777216 := of_decide_eq_true hb
    rw [ret2, QExpand.fn, expandFn, Int.toNat_natCast, if_pos (by unfold expandN; rw [if_pos hs])]; rfl
  have hs : ¬ 8388608 ≤ x % 16777216 := of_decide_eq_false hb
  refine ⟨fun h3 => ?_, fun h3 => ?_⟩
  · have h3 : ((x / 16777216 : Nat) : Int) < 3 := of_decide_eq_true h3
    have e2 : IntKind.i64.wrap (3 - ((x / 16777216 : Nat) : Int)) = 3 - ((x / 16777216 : Nat) : Int) := i64w (by omega) (by omega)
    have e3 : IntKind.i64.wrap (8 * (3 - ((x / 16777216 : Nat) : Int))) = ((8 * (3 - x / 16777216) : Nat) : Int) := by rw [i64w (by omega) (by omega)]; omega
    have hE : QShr.fn (Wn 4 (x % 16777216)) ((8 * (3 - x / 16777216) : Nat) : Int) = Wn 4 (expandN x) := by
      unfold expandN
      rw [if_neg hs, if_pos (by omega), QShr.fn, shrFn, if_neg (by omega), N4_W4 hmB, Int.toNat_natCast]
    simp only [e2, e3, hE, QZero.fn, N4_W4 (expandN_lt hx)]
    refine ⟨ok4 hmB, ok4 (expandN_lt hx), fun hz => ?_, fun hz => ?_⟩
    · rw [ret2, QExpand.fn, expandFn, Int.toNat_natCast, if_pos (of_decide_eq_true hz)]; rfl
    · rw [ret2, QExpand.fn, expandFn, Int.toNat_natCast, if_neg (of_decide_eq_false hz)]
  · have h3 : ¬ ((x / 16777216 : Nat) : Int) < 3 := of_decide_eq_false h3
    have e2 : IntKind.i64.wrap (((x / 16777216 : Nat) : Int) - 3) = ((x / 16777216 : Nat) : Int) - 3 := i64w (by omega) (by omega)
    have e3 : IntKind.i64.wrap (8 * (((x / 16777216 : Nat) : Int) - 3)) = ((8 * (x / 16777216 - 3) : Nat) : Int) := by rw [i64w (by omega) (by omega)]; omega
    simp only [e2, e3, QZero.fn, QLen.fn, N4_W4 hmB]
    have e4 : IntKind.i64.wrap (((bl (x % 16777216) : Nat) : Int) + ((8 * (x / 16777216 - 3) : Nat) : Int)) = ((bl (x % 16777216) + 8 * (x / 16777216 - 3) : Nat) : Int) := by rw [i64w (by omega) (by omega)]; omega
    simp only [e4]
    refine ⟨ok4 hmB, fun h => h, fun _ => ok4 hmB, fun h => h, fun h => h, fun h => h, fun h => h, fun h => h, fun h => h, fun hb => ?_, fun hb => ?_⟩
    · have hz : expandN x = 0 := by
        unfold expandN
        rw [if_neg hs, if_neg (by omega)]
        by_cases h0 : x % 16777216 = 0
        · rw [decide_eq_true h0] at hb; cases hb
        · rw [decide_eq_false h0] at hb
          have hb : ((bl (x % 16777216) + 8 * (x / 16777216 - 3) : Nat) : Int) > 256 := of_decide_eq_true hb
          rw [if_pos (by omega)]
      rw [ret2, QExpand.fn, expandFn, Int.toNat_natCast, if_pos hz]; rfl
    · have hE : N4 (QShl.fn (Wn 4 (x % 16777216)) ((8 * (x / 16777216 - 3) : Nat) : Int)) = expandN x ∧ QShl.fn (Wn 4 (x % 16777216)) ((8 * (x / 16777216 - 3) : Nat) : Int) = Wn 4 (expandN x) := by
        have hS : QShl.fn (Wn 4 (x % 16777216)) ((8 * (x / 16777216 - 3) : Nat) : Int) = Wn 4 (x % 16777216 * 2 ^ (8 * (x / 16777216 - 3))) := by
          rw [QShl.fn, shlFn, if_neg (by omega), N4_W4 hmB, Int.toNat_natCast]
        by_cases h0 : x % 16777216 = 0
        · have hz : expandN x = 0 := by
            unfold expandN; rw [if_neg hs, if_neg (by omega), h0]; simp
          rw [hS, h0, Nat.zero_mul, hz]
          exact ⟨rfl, rfl⟩
        · rw [decide_eq_false h0] at hb
          have hb : ¬ ((bl (x % 16777216) + 8 * (x / 16777216 - 3) : Nat) : Int) > 256 := of_decide_eq_false hb
          have hz : expandN x = x % 16777216 * 2 ^ (8 * (x / 16777216 - 3)) := by
            unfold expandN; rw [if_neg hs, if_neg (by omega), if_neg (by omega)]
          rw [hS, ← hz]
          exact ⟨N4_W4 (expandN_lt hx), rfl⟩
      rw [hE.2]
      rw [N4_W4 (expandN_lt hx)]
      refine ⟨⟨ok4 hmB, by omega⟩, ok4 (expandN_lt hx), fun hz => ?_, fun hz => ?_⟩
      · rw [ret2, QExpand.fn, expandFn, Int.toNat_natCast, if_pos (of_decide_eq_true hz)]; rfl
      · rw [ret2, QExpand.fn, expandFn, Int.toNat_natCast, if_neg (of_decide_eq_false hz)]

/-! ## Compact forms -/
def expo (n : Nat) : Nat := (bl n + 8) / 8
def manti (n : Nat) : Nat := if expo n ≤ 3 then n * 2 ^ (8 * (3 - expo n)) else n / 2 ^ (8 * (expo n - 3))
def compactN (n : Nat) : Nat := if n = 0 then 0 else expo n * 16777216 + manti n
def compactFn (a : List Int) : Int := ((compactN (N4 a) : Nat) : Int)
theorem manti_lt {n : Nat} (hn : n ≠ 0) : manti n < 8388608 := by
  show manti n < 2 ^ 23
  rw [← bl_le_iff]
  unfold manti
  have h := bl_pos hn
  have he : expo n = (bl n + 8) / 8 := rfl
  split
  · rw [bl_mul hn]; omega
  · rw [bl_div]; omega
theorem compact_word {n : Nat} (hn : n ≠ 0) (hB : n < Big) : ior .u32 (ishl .u32 (IntKind.u32.wrap ((expo n : Nat) : Int)) 24) (IntKind.u32.wrap ((dig (manti n) 0 : Nat) : Int)) = ((compactN n : Nat) : Int) := by
  have hm := manti_lt hn
  have hb := bl_big hB
  have he : expo n ≤ 33 := by unfold expo; omega
  rw [dig0, Nat.mod_eq_of_lt (by omega), u32w (n := ((expo n : Nat) : Int)) (by omega) (by omega), u32w (by omega) (by omega)]
  rw [show (24 : Int) = ((24 : Nat) : Int) from rfl, shlI 24 (by omega) (by omega) (by omega)]
  rw [orI (a := ((expo n : Nat) : Int)) 24 rfl (by omega) (by omega) (by omega) (by omega)]
  unfold compactN
  rw [if_neg hn]
  omega

def TCompact.pre (a : List Int) : Prop := Ok4 a
def TCompact.fn (a : List Int) : Int := compactFn a
def TCompact.VC : Prop := ∀ (x0 : (List Int)), TCompact.pre x0 →
 (let v7 : Bool := (Ty.beq (.arr 4 (.int .u64)) x0 (List.replicate 4 (0 : Int)))
 ((v7 = true →
 (Ret1 (0 : Int) (TCompact.fn x0))) ∧
 (v7 = false →
 WLen.pre x0 ∧
 (8 : Int) ≠ 0 ∧
 (let v11 : Int := (IntKind.i64.wrap (Int.tdiv (IntKind.i64.wrap ((WLen.fn x0) + (8 : Int))) (8 : Int)))
 (let v15 : Int := (IntKind.i64.wrap ((8 : Int) * (IntKind.i64.wrap ((3 : Int) - v11))))
 TShifted.pre x0 v15 ∧
 0 ≤ (24 : Int) ∧
 (0 ≤ (0 : Int) ∧ (0 : Int) < 4) ∧
 (let v22 : Int := (IntKind.u32.wrap ((TShifted.fn x0 v15).getD (Int.toNat (0 : Int)) (0 : Int)))
 (Ret1 (ior .u32 (ishl .u32 (IntKind.u32.wrap v11) (24 : Int)) v22) (TCompact.fn x0))))))))
theorem TCompact.vc : TCompact.VC := by
  rintro a ⟨n, hn, rfl⟩
  simp only [zeq (ok4 hn), N4_W4 hn, TCompact.fn, compactFn, WLen.fn]
  have hb := bl_big hn
  refine ⟨fun hz => ?_, fun hz => ?_⟩
  · have hz : n = 0 := of_decide_eq_true hz
    subst hz; rfl
  have hz : n ≠ 0 := of_decide_eq_false hz
  have e0 : IntKind.i64.wrap (((bl n : Nat) : Int) + 8) = ((bl n + 8 : Nat) : Int) := by rw [i64w (by omega) (by omega)]; omega
  have e1 : IntKind.i64.wrap (Int.tdiv ((bl n + 8 : Nat) : Int) 8) = ((expo n : Nat) : Int) := by
    rw [Int.tdiv_eq_ediv_of_nonneg (by omega), i64w (by omega) (by omega)]; unfold expo; omega
  have he : expo n ≤ 33 := by unfold expo; omega
  have e2 : IntKind.i64.wrap (3 - ((expo n : Nat) : Int)) = 3 - ((expo n : Nat) : Int) := i64w (by omega) (by omega)
  have e3 : IntKind.i64.wrap (8 * (3 - ((expo n : Nat) : Int))) = 8 * (3 - ((expo n : Nat) : Int)) := i64w (by omega) (by omega)
  simp only [e0, e1, e2, e3]
  have hT : TShifted.fn (Wn 4 n) (8 * (3 - ((expo n : Nat) : Int))) = Wn 4 (manti n) := by
    unfold manti
    by_cases h3 : expo n ≤ 3
    · rw [if_pos h3, show (8 * (3 - ((expo n : Nat) : Int))) = ((8 * (3 - expo n) : Nat) : Int) by omega, shifted_pos hn]
    · rw [if_neg h3, show (8 * (3 - ((expo n : Nat) : Int))) = -((8 * (expo n - 3) : Nat) : Int) by omega, shifted_neg hn (by omega)]
  rw [hT]
  refine ⟨ok4 hn, by omega, ⟨ok4 hn, by omega, by omega⟩, by omega, by omega, ret1.2 ?_⟩
  rw [show (Int.toNat 0) = 0 from rfl, Wn_getD _ (by omega)]
  exact compact_word hz hn

def QCompact.pre (a : List Int) : Prop := Ok4 a
def QCompact.fn (a : List Int) : Int := compactFn a
def QCompact.inv5 (a : List Int) (x : Int) : Prop := 1 ≤ x ∧ x ≤ expo (N4 a) ∧ N4 a ≠ 0
def QCompact.mes5 (a : List Int) (x : Int) : Nat := (40 - x).toNat
def QCompact.VC : Prop := ∀ (x0 : (List Int)), QCompact.pre x0 →
 QZero.pre x0 ∧
 (((QZero.fn x0) = true →
 (Ret1 (0 : Int) (QCompact.fn x0))) ∧
 ((QZero.fn x0) = false →
 (QCompact.inv5 x0 (1 : Int) ∧
 ∀ (v3 : Int), QCompact.inv5 x0 v3 →
 (((decide (v3 ≤ (3 : Int))) = true →
 (let v15 : Int := (IntKind.i64.wrap ((8 : Int) * (IntKind.i64.wrap ((3 : Int) - v3))))
 QShl.pre x0 v15 ∧
 (let v20 : Int := (IntKind.i64.wrap ((8 : Int) * (IntKind.i64.wrap ((3 : Int) - v3))))
 QShr.pre (QShl.fn x0 v15) v20 ∧
 QCmp.pre (QShr.fn (QShl.fn x0 v15) v20) x0 ∧
 ((((QCmp.fn (QShr.fn (QShl.fn x0 v15) v20) x0) != (0 : Int)) = true →
 (QCompact.inv5 x0 (IntKind.i64.wrap (v3 + (1 : Int))) ∧ QCompact.mes5 x0 (IntKind.i64.wrap (v3 + (1 : Int))) < QCompact.mes5 x0 v3)) ∧
 (((QCmp.fn (QShr.fn (QShl.fn x0 v15) v20) x0) != (0 : Int)) = false →
 QLen.pre (QShl.fn x0 v15) ∧
 (((decide ((QLen.fn (QShl.fn x0 v15)) ≤ (23 : Int))) = true →
 0 ≤ (24 : Int) ∧
 (0 ≤ (0 : Int) ∧ (0 : Int) < 4) ∧
 (let v38 : Int := (IntKind.u32.wrap ((QShl.fn x0 v15).getD (Int.toNat (0 : Int)) (0 : Int)))
 (Ret1 (ior .u32 (ishl .u32 (IntKind.u32.wrap v3) (24 : Int)) v38) (QCompact.fn x0)))) ∧
 ((decide ((QLen.fn (QShl.fn x0 v15)) ≤ (23 : Int))) = false →
 (QCompact.inv5 x0 (IntKind.i64.wrap (v3 + (1 : Int))) ∧ QCompact.mes5 x0 (IntKind.i64.wrap (v3 + (1 : Int))) < QCompact.mes5 x0 v3)))))))) ∧
 ((decide (v3 ≤ (3 : Int))) = false →
 (let v28 : Int := (IntKind.i64.wrap ((8 : Int) * (IntKind.i64.wrap (v3 - (3 : Int)))))
 QShr.pre x0 v28 ∧
 QLen.pre (QShr.fn x0 v28) ∧
 (((decide ((QLen.fn (QShr.fn x0 v28)) ≤ (23 : Int))) = true →
 0 ≤ (24 : Int) ∧
 (0 ≤ (0 : Int) ∧ (0 : Int) < 4) ∧
 (let v38_1 : Int := (IntKind.u32.wrap ((QShr.fn x0 v28).getD (Int.toNat (0 : Int)) (0 : Int)))
 (let v39 : Int := (ior .u32 (ishl .u32 (IntKind.u32.wrap v3) (24 : Int)) v38_1)
 (Ret1 v39 (QCompact.fn x0))))) ∧
 ((decide ((QLen.fn (QShr.fn x0 v28)) ≤ (23 : Int))) = false →
 (QCompact.inv5 x0 (IntKind.i64.wrap (v3 + (1 : Int))) ∧ QCompact.mes5 x0 (IntKind.i64.wrap (v3 + (1 : Int))) < QCompact.mes5 x0 v3)))))))))
theorem QCompact.vc : QCompact.VC := by
  rintro a ⟨n, hn, rfl⟩
  simp only [QZero.fn, N4_W4 hn, QCompact.fn, compactFn, QCompact.inv5]
  have hb := bl_big hn
  have he : expo n ≤ 33 := by unfold expo; omega
  have he0 : expo n = (bl n + 8) / 8 := rfl
  refine ⟨ok4 hn, fun hz => ?_, fun hz => ?_⟩
  · have hz : n = 0 := of_decide_eq_true hz
    subst hz; rfl
  have hz : n ≠ 0 := of_decide_eq_false hz
  have hbp := bl_pos hz
  refine ⟨⟨by omega, by omega, hz⟩, ?_⟩
  rintro x ⟨k1, k2, _⟩
  obtain ⟨x, rfl⟩ := Int.eq_ofNat_of_zero_le (show 0 ≤ x by omega)
  have e1 : IntKind.i64.wrap ((x : Int) + 1) = (x : Int) + 1 := i64w (by omega) (by omega)
  have hmes : QCompact.mes5 (Wn 4 n) ((x : Int) + 1) < QCompact.mes5 (Wn 4 n) x := by simp only [QCompact.mes5]; omega
  simp only [e1]
  refine ⟨fun h3 => ?_, fun h3 => ?_⟩
  · have h3 : (x : Int) ≤ 3 := of_decide_eq_true h3
    have e2 : IntKind.i64.wrap (3 - (x : Int)) = 3 - (x : Int) := i64w (by omega) (by omega)
    have e3 : IntKind.i64.wrap (8 * (3 - (x : Int))) = ((8 * (3 - x) : Nat) : Int) := by rw [i64w (by omega) (by omega)]; omega
    have hS : QShl.fn (Wn 4 n) ((8 * (3 - x) : Nat) : Int) = Wn 4 (n * 2 ^ (8 * (3 - x))) := by
      rw [QShl.fn, shlFn, if_neg (by omega), N4_W4 hn, Int.toNat_natCast]
    have hR : QShr.fn (Wn 4 (n * 2 ^ (8 * (3 - x)))) ((8 * (3 - x) : Nat) : Int) = Wn 4 (n * 2 ^ (8 * (3 - x)) % Big / 2 ^ (8 * (3 - x))) := by
      rw [QShr.fn, shrFn, if_neg (by omega), N4_W, Int.toNat_natCast]
    have hlt : n * 2 ^ (8 * (3 - x)) % Big / 2 ^ (8 * (3 - x)) < Big := Nat.lt_of_le_of_lt (Nat.div_le_self _ _) (Nat.mod_lt _ (by decide))
    simp only [e2, e3, hS, hR, QCmp.fn, QLen.fn, N4_W4 hlt, N4_W4 hn]
    have hcm : ∀ p q : Nat, (cmpN p q != 0) = decide (p ≠ q) := by
      intro p q
      rw [Bool.eq_iff_iff]; simp only [bne_iff_ne, ne_eq, decide_eq_true_eq]
      unfold cmpN; split
      · constructor <;> intro <;> omega
      · split
        · constructor <;> intro <;> omega
        · constructor
          · intro h; exact absurd rfl h
          · intro h; omega
    rw [hcm]
    -- the value fits if its length does
    have hfit : bl n + 8 * (3 - x) ≤ 256 → n * 2 ^ (8 * (3 - x)) < Big := fun h => by rw [big_pow, ← bl_le_iff, bl_mul hz]; exact h
    refine ⟨⟨ok4 hn, by omega⟩, ok4' _, ⟨ok4 hlt, ok4 hn⟩, fun hne => ?_, fun heq => ⟨ok4' _, fun hl => ?_, fun hl => ?_⟩⟩
    · have hne : n * 2 ^ (8 * (3 - x)) % Big / 2 ^ (8 * (3 - x)) ≠ n := of_decide_eq_true hne
      have hbig : ¬ bl n + 8 * (3 - x) ≤ 256 := fun h => by
        have := hfit h
        rw [Nat.mod_eq_of_lt this, Nat.mul_div_cancel _ (Nat.two_pow_pos _)] at hne
        exact hne rfl
      exact ⟨⟨by omega, by omega, hz⟩, hmes⟩
    · have heq : n * 2 ^ (8 * (3 - x)) % Big / 2 ^ (8 * (3 - x)) = n := by have := of_decide_eq_false heq; omega
      have hl : ((bl (N4 (Wn 4 (n * 2 ^ (8 * (3 - x))))) : Nat) : Int) ≤ 23 := of_decide_eq_true hl
      rw [N4_W] at hl
      -- no bits are lost
      have hq : n * 2 ^ (8 * (3 - x)) % Big = n * 2 ^ (8 * (3 - x)) := by
        have h1 := Nat.div_mul_le_self (n * 2 ^ (8 * (3 - x)) % Big) (2 ^ (8 * (3 - x)))
        rw [heq] at h1
        have h2 := Nat.mod_le (n * 2 ^ (8 * (3 - x))) Big
        omega
      rw [hq, bl_mul hz] at hl
      have hxe : x = expo n := by omega
      refine ⟨by omega, by omega, ret1.2 ?_⟩
      rw [show (Int.toNat 0) = 0 from rfl, Wn_getD _ (by omega)]
      have := compact_word hz hn
      rw [← hxe] at this
      rw [← this]
      unfold manti
      rw [← hxe, if_pos (by omega)]
    · have heq : n * 2 ^ (8 * (3 - x)) % Big / 2 ^ (8 * (3 - x)) = n := by have := of_decide_eq_false heq; omega
      have hl : ¬ ((bl (N4 (Wn 4 (n * 2 ^ (8 * (3 - x))))) : Nat) : Int) ≤ 23 := of_decide_eq_false hl
      rw [N4_W] at hl
      have hq : n * 2 ^ (8 * (3 - x)) % Big = n * 2 ^ (8 * (3 - x)) := by
        have h1 := Nat.div_mul_le_self (n * 2 ^ (8 * (3 - x)) % Big) (2 ^ (8 * (3 - x)))
        rw [heq] at h1
        have h2 := Nat.mod_le (n * 2 ^ (8 * (3 - x))) Big
        omega
      rw [hq, bl_mul hz] at hl
      exact ⟨⟨by omega, by omega, hz⟩, hmes⟩
  · have h3 : ¬ (x : Int) ≤ 3 := of_decide_eq_false h3
    have e2 : IntKind.i64.wrap ((x : Int) - 3) = (x : Int) - 3 := i64w (by omega) (by omega)
    have e3 : IntKind.i64.wrap (8 * ((x : Int) - 3)) = ((8 * (x - 3) : Nat) : Int) := by rw [i64w (by omega) (by omega)]; omega
    have hR : QShr.fn (Wn 4 n) ((8 * (x - 3) : Nat) : Int) = Wn 4 (n / 2 ^ (8 * (x - 3))) := by
      rw [QShr.fn, shrFn, if_neg (by omega), N4_W4 hn, Int.toNat_natCast]
    have hlt : n / 2 ^ (8 * (x - 3)) < Big := Nat.lt_of_le_of_lt (Nat.div_le_self _ _) hn
    simp only [e2, e3, hR, QLen.fn, N4_W4 hlt, bl_div]
    refine ⟨ok4 hn, ok4 hlt, fun hl => ?_, fun hl => ?_⟩
    · have hl : ((bl n - 8 * (x - 3) : Nat) : Int) ≤ 23 := of_decide_eq_true hl
      have hxe : x = expo n := by omega
      refine ⟨by omega, by omega, ret1.2 ?_⟩
      rw [show (Int.toNat 0) = 0 from rfl, Wn_getD _ (by omega)]
      have := compact_word hz hn
      rw [← hxe] at this
      rw [← this]
      unfold manti
      rw [← hxe, if_neg (by omega)]
    · have hl : ¬ ((bl n - 8 * (x - 3) : Nat) : Int) ≤ 23 := of_decide_eq_false hl
      exact ⟨⟨by omega, by omega, hz⟩, hmes⟩
end Lc
