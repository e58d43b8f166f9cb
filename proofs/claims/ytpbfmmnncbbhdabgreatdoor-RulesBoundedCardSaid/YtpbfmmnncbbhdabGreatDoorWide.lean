/- Numbers of 256 bits: the functions of the program and of the reference as plain functions, and the proofs of their conditions. -/
import Derived.Test.YtpbfmmnncbbhdabGreatDoorWideB
set_option linter.unusedVariables false
set_option maxRecDepth 100000
namespace Lc
open Go

def W64 (x : Int) : Prop := 0 ≤ x ∧ x ≤ 18446744073709551615
theorem W64.nat {x : Int} (h : W64 x) : ∃ n : Nat, n < 18446744073709551616 ∧ x = (n : Int) := by
  obtain ⟨n, rfl⟩ := Int.eq_ofNat_of_zero_le h.1
  exact ⟨n, by have := h.2; omega, rfl⟩
theorem u64_dig (n k : Nat) : W64 ((dig n k : Nat) : Int) := ⟨by omega, by have := dig_lt n k; omega⟩

/-! ## Sums and differences of words -/
def Add64.pre (x y c : Int) : Prop := W64 x ∧ W64 y ∧ 0 ≤ c ∧ c ≤ 1
def Add64.fn (x y c : Int) : Int × Int := ((x + y + c) % 18446744073709551616, (x + y + c) / 18446744073709551616)
def Sub64.pre (x y c : Int) : Prop := W64 x ∧ W64 y ∧ 0 ≤ c ∧ c ≤ 1
def Sub64.fn (x y c : Int) : Int × Int := ((x - y - c) % 18446744073709551616, if x < y + c then 1 else 0)

/-! ## Lengths and products of words -/
def Len8Tab : ByteArray := ⟨((List.range 256).map (fun n => UInt8.ofNat (bl n))).toArray⟩
theorem len8_size : Len8Tab.size = 256 := by decide +kernel
theorem len8_get {n : Nat} (h : n < 256) : (Len8Tab.toList.getD n 0).toNat = bl n := by
  have e : Len8Tab.toList = (List.range 256).map (fun n => UInt8.ofNat (bl n)) := by rw [baList]; rfl
  rw [e, List.getD_eq_getElem?_getD, List.getElem?_map, List.getElem?_range h]
  simp only [Option.map_some, Option.getD_some]
  have : bl n ≤ 8 := bl_le_iff.2 h
  simp only [UInt8.toNat_ofNat']
  omega
def Len64.pre (x : Int) : Prop := W64 x
def Len64.fn (x : Int) : Int := ((bl x.toNat : Nat) : Int)
def Len64.VC : Prop := ∀ (x0 : Int), Len64.pre x0 →
 (((decide (x0 ≥ (4294967296 : Int))) = true →
 0 ≤ (32 : Int) ∧
 (((decide ((ishr .u64 x0 (32 : Int)) ≥ (65536 : Int))) = true →
 0 ≤ (16 : Int) ∧
 (let v14 : Bool := (decide ((ishr .u64 (ishr .u64 x0 (32 : Int)) (16 : Int)) ≥ (256 : Int)))
 ((v14 = true →
 0 ≤ (8 : Int) ∧
 (let v16 : Int := (ishr .u64 (ishr .u64 (ishr .u64 x0 (32 : Int)) (16 : Int)) (8 : Int))
 (let v18 : Int := (IntKind.i64.wrap ((IntKind.i64.wrap ((32 : Int) + (16 : Int))) + (8 : Int)))
 (0 ≤ (IntKind.u8.wrap v16) ∧ (IntKind.u8.wrap v16) < (Len8Tab.size : Int)) ∧
 (let v22 : Int := (((Len8Tab.toList.getD (Int.toNat (IntKind.u8.wrap v16)) 0).toNat : Nat) : Int)
 (Ret1 (IntKind.i64.wrap (v18 + (IntKind.i64.wrap v22))) (Len64.fn x0)))))) ∧
 (v14 = false →
 (let v21 : Int := (IntKind.u8.wrap (ishr .u64 (ishr .u64 x0 (32 : Int)) (16 : Int)))
 (0 ≤ v21 ∧ v21 < (Len8Tab.size : Int)) ∧
 (let v22_1 : Int := (((Len8Tab.toList.getD (Int.toNat v21) 0).toNat : Nat) : Int)
 (let v24 : Int := (IntKind.i64.wrap ((IntKind.i64.wrap ((32 : Int) + (16 : Int))) + (IntKind.i64.wrap v22_1)))
 (Ret1 v24 (Len64.fn x0))))))))) ∧
 ((decide ((ishr .u64 x0 (32 : Int)) ≥ (65536 : Int))) = false →
 (((decide ((ishr .u64 x0 (32 : Int)) ≥ (256 : Int))) = true →
 0 ≤ (8 : Int) ∧
 (let v21_1 : Int := (IntKind.u8.wrap (ishr .u64 (ishr .u64 x0 (32 : Int)) (8 : Int)))
 (0 ≤ v21_1 ∧ v21_1 < (Len8Tab.size : Int)) ∧
 (let v22_2 : Int := (((Len8Tab.toList.getD (Int.toNat v21_1) 0).toNat : Nat) : Int)
 (let v24_1 : Int := (IntKind.i64.wrap ((IntKind.i64.wrap ((32 : Int) + (8 : Int))) + (IntKind.i64.wrap v22_2)))
 (Ret1 v24_1 (Len64.fn x0)))))) ∧
 ((decide ((ishr .u64 x0 (32 : Int)) ≥ (256 : Int))) = false →
 (0 ≤ (IntKind.u8.wrap (ishr .u64 x0 (32 : Int))) ∧ (IntKind.u8.wrap (ishr .u64 x0 (32 : Int))) < (Len8Tab.size : Int)) ∧
 (let v22_3 : Int := (((Len8Tab.toList.getD (Int.toNat (IntKind.u8.wrap (ishr .u64 x0 (32 : Int)))) 0).toNat : Nat) : Int)
 (Ret1 (IntKind.i64.wrap ((32 : Int) + (IntKind.i64.wrap v22_3))) (Len64.fn x0)))))))) ∧
 ((decide (x0 ≥ (4294967296 : Int))) = false →
 (((decide (x0 ≥ (65536 : Int))) = true →
 0 ≤ (16 : Int) ∧
 (((decide ((ishr .u64 x0 (16 : Int)) ≥ (256 : Int))) = true →
 0 ≤ (8 : Int) ∧
 (let v18_1 : Int := (IntKind.i64.wrap ((IntKind.i64.wrap ((0 : Int) + (16 : Int))) + (8 : Int)))
 (let v21_2 : Int := (IntKind.u8.wrap (ishr .u64 (ishr .u64 x0 (16 : Int)) (8 : Int)))
 (0 ≤ v21_2 ∧ v21_2 < (Len8Tab.size : Int)) ∧
 (let v22_4 : Int := (((Len8Tab.toList.getD (Int.toNat v21_2) 0).toNat : Nat) : Int)
 (Ret1 (IntKind.i64.wrap (v18_1 + (IntKind.i64.wrap v22_4))) (Len64.fn x0)))))) ∧
 ((decide ((ishr .u64 x0 (16 : Int)) ≥ (256 : Int))) = false →
 (0 ≤ (IntKind.u8.wrap (ishr .u64 x0 (16 : Int))) ∧ (IntKind.u8.wrap (ishr .u64 x0 (16 : Int))) < (Len8Tab.size : Int)) ∧
 (let v22_5 : Int := (((Len8Tab.toList.getD (Int.toNat (IntKind.u8.wrap (ishr .u64 x0 (16 : Int)))) 0).toNat : Nat) : Int)
 (let v24_2 : Int := (IntKind.i64.wrap ((IntKind.i64.wrap ((0 : Int) + (16 : Int))) + (IntKind.i64.wrap v22_5)))
 (Ret1 v24_2 (Len64.fn x0))))))) ∧
 ((decide (x0 ≥ (65536 : Int))) = false →
 (((decide (x0 ≥ (256 : Int))) = true →
 0 ≤ (8 : Int) ∧
 (0 ≤ (IntKind.u8.wrap (ishr .u64 x0 (8 : Int))) ∧ (IntKind.u8.wrap (ishr .u64 x0 (8 : Int))) < (Len8Tab.size : Int)) ∧
 (let v22_6 : Int := (((Len8Tab.toList.getD (Int.toNat (IntKind.u8.wrap (ishr .u64 x0 (8 : Int)))) 0).toNat : Nat) : Int)
 (let v24_3 : Int := (IntKind.i64.wrap ((IntKind.i64.wrap ((0 : Int) + (8 : Int))) + (IntKind.i64.wrap v22_6)))
 (Ret1 v24_3 (Len64.fn x0))))) ∧
 ((decide (x0 ≥ (256 : Int))) = false →
 (0 ≤ (IntKind.u8.wrap x0) ∧ (IntKind.u8.wrap x0) < (Len8Tab.size : Int)) ∧
 (let v22_7 : Int := (((Len8Tab.toList.getD (Int.toNat (IntKind.u8.wrap x0)) 0).toNat : Nat) : Int)
 (Ret1 (IntKind.i64.wrap ((0 : Int) + (IntKind.i64.wrap v22_7))) (Len64.fn x0)))))))))
theorem len64_core {x : Nat} (k : Nat) (h1 : 2 ^ k ≤ x ∨ k = 0) (h2 : x / 2 ^ k < 256) : bl x = k + bl (x / 2 ^ k) := by
  have := bl_div x k
  rcases h1 with h1 | h1
  · have h3 : ¬ bl x ≤ k := fun h => by have := bl_le_iff.1 h; omega
    omega
  · subst h1; simp
theorem len64_fin {x : Nat} {a : Int} (k : Nat) (h1 : 2 ^ k ≤ x ∨ k = 0) (h2 : x / 2 ^ k < 256) (hx : x < 18446744073709551616) {t : Int} (ht : t = ((x / 2 ^ k : Nat) : Int)) (hk : k ≤ 56) (ha : a = k) :
    (0 ≤ IntKind.u8.wrap t ∧ IntKind.u8.wrap t < (Len8Tab.size : Int)) ∧ Ret1 (IntKind.i64.wrap (a + IntKind.i64.wrap (((Len8Tab.toList.getD (IntKind.u8.wrap t).toNat 0).toNat : Nat) : Int))) (Len64.fn (x : Int)) := by
  have hl := len64_core k h1 h2
  have hb : bl (x / 2 ^ k) ≤ 8 := bl_le_iff.2 h2
  generalize x / 2 ^ k = y at *
  have hw : IntKind.u8.wrap t = (y : Int) := by rw [ht, u8w (by omega) (by omega)]
  rw [hw, len8_size, Int.toNat_natCast, len8_get h2, ha]
  rw [i64w (n := ((bl y : Nat) : Int)) (by omega) (by omega), i64w (by omega) (by omega)]
  refine ⟨⟨by omega, by omega⟩, ret1.2 ?_⟩
  simp only [Len64.fn, Int.toNat_natCast]
  omega
theorem Len64.vc : Len64.VC := by
  intro x0 h
  obtain ⟨x, hx, rfl⟩ := W64.nat h
  have s32 : ishr .u64 (x : Int) 32 = ((x / 2 ^ 32 : Nat) : Int) := shr64 (k := 32) (by omega)
  have s16 : ∀ y : Nat, ishr .u64 (y : Int) 16 = ((y / 2 ^ 16 : Nat) : Int) := fun y => shr64 (k := 16) (by omega)
  have s8 : ∀ y : Nat, ishr .u64 (y : Int) 8 = ((y / 2 ^ 8 : Nat) : Int) := fun y => shr64 (k := 8) (by omega)
  simp only [s32, s16, s8, decide_eq_true_eq, decide_eq_false_iff_not]
  have e1 : IntKind.i64.wrap (32 + 16) = 48 := rfl
  have e2 : IntKind.i64.wrap (48 + 8) = 56 := rfl
  have e3 : IntKind.i64.wrap (32 + 8) = 40 := rfl
  have e4 : IntKind.i64.wrap (0 + 16) = 16 := rfl
  have e5 : IntKind.i64.wrap (16 + 8) = 24 := rfl
  have e6 : IntKind.i64.wrap (0 + 8) = 8 := rfl
  simp only [e1, e2, e3, e4, e5, e6]
  refine ⟨fun h1 => ⟨by omega, fun h2 => ⟨by omega, fun h3 => ⟨by omega, ?_⟩, fun h3 => ?_⟩, fun h2 => ⟨fun h3 => ⟨by omega, ?_⟩, fun h3 => ?_⟩⟩, fun h1 => ⟨fun h2 => ⟨by omega, fun h3 => ⟨by omega, ?_⟩, fun h3 => ?_⟩, fun h2 => ⟨fun h3 => ⟨by omega, ?_⟩, fun h3 => ?_⟩⟩⟩
  · exact len64_fin 56 (by omega) (by omega) hx (by omega) (by omega) rfl
  · exact len64_fin 48 (by omega) (by omega) hx (by omega) (by omega) rfl
  · exact len64_fin 40 (by omega) (by omega) hx (by omega) (by omega) rfl
  · exact len64_fin 32 (by omega) (by omega) hx (by omega) (by omega) rfl
  · exact len64_fin 24 (by omega) (by omega) hx (by omega) (by omega) rfl
  · exact len64_fin 16 (by omega) (by omega) hx (by omega) (by omega) rfl
  · exact len64_fin 8 (by omega) (by omega) hx (by omega) (by omega) rfl
  · exact len64_fin 0 (by omega) (by omega) hx (by omega) (by omega) rfl

def Mul64.pre (x y : Int) : Prop := W64 x ∧ W64 y
def Mul64.fn (x y : Int) : Int × Int := (x * y / 18446744073709551616, x * y % 18446744073709551616)
def Mul64.VC : Prop := ∀ (x0 : Int) (x1 : Int), Mul64.pre x0 x1 →
 0 ≤ (32 : Int) ∧
 0 ≤ (32 : Int) ∧
 (let v24 : Int := (IntKind.u64.wrap ((iand .u64 x0 (4294967295 : Int)) * (iand .u64 x1 (4294967295 : Int))))
 (let v27 : Int := (IntKind.u64.wrap ((ishr .u64 x0 (32 : Int)) * (iand .u64 x1 (4294967295 : Int))))
 0 ≤ (32 : Int) ∧
 (let v32 : Int := (iand .u64 (IntKind.u64.wrap (v27 + (ishr .u64 v24 (32 : Int)))) (4294967295 : Int))
 0 ≤ (32 : Int) ∧
 (let v34 : Int := (ishr .u64 (IntKind.u64.wrap (v27 + (ishr .u64 v24 (32 : Int)))) (32 : Int))
 (let v38 : Int := (IntKind.u64.wrap ((iand .u64 x0 (4294967295 : Int)) * (ishr .u64 x1 (32 : Int))))
 (let v42 : Int := (IntKind.u64.wrap ((ishr .u64 x0 (32 : Int)) * (ishr .u64 x1 (32 : Int))))
 0 ≤ (32 : Int) ∧
 (let v47 : Int := (IntKind.u64.wrap ((IntKind.u64.wrap (v42 + v34)) + (ishr .u64 (IntKind.u64.wrap (v32 + v38)) (32 : Int))))
 (Ret2 v47 (IntKind.u64.wrap (x0 * x1)) (Mul64.fn x0 x1)))))))))
theorem and32 {a : Nat} (h : a < 18446744073709551616) : iand .u64 (a : Int) 4294967295 = ((a % 4294967296 : Nat) : Int) := by
  have : (4294967295 : Int) = ((4294967295 : Nat) : Int) := rfl
  rw [this, and64 h (by omega)]
  congr 1
  exact Nat.and_two_pow_sub_one_eq_mod a 32
theorem mul64_core {a b c d : Nat} (ha : a < 4294967296) (hb : b < 4294967296) (hc : c < 4294967296) (hd : d < 4294967296) :
    a * c + (a * d + b * c / 1 * 0 + 0) / 1 * 0 = a * c ∧ a * c ≤ 18446744065119617025 ∧ a * d ≤ 18446744065119617025 ∧ b * c ≤ 18446744065119617025 ∧ b * d ≤ 18446744065119617025 := by
  have h : ∀ {x y : Nat}, x < 4294967296 → y < 4294967296 → x * y ≤ 18446744065119617025 := by
    intro x y hx hy
    exact Nat.mul_le_mul (show x ≤ 4294967295 by omega) (show y ≤ 4294967295 by omega)
  exact ⟨by simp, h ha hc, h ha hd, h hb hc, h hb hd⟩
theorem Mul64.vc : Mul64.VC := by
  intro x0 x1 ⟨h0, h1⟩
  obtain ⟨x, hx, rfl⟩ := W64.nat h0
  obtain ⟨y, hy, rfl⟩ := W64.nat h1
  have s32 : ∀ a : Nat, ishr .u64 (a : Int) 32 = ((a / 4294967296 : Nat) : Int) := fun a => shr64 (k := 32) (by omega)
  refine ⟨by omega, by omega, ?_⟩
  simp only [and32 hx, and32 hy, s32]
  have bx : x / 4294967296 < 4294967296 := by omega
  have by' : y / 4294967296 < 4294967296 := by omega
  have cx : x % 4294967296 < 4294967296 := by omega
  have cy : y % 4294967296 < 4294967296 := by omega
  have hxy : x * y = 18446744073709551616 * (x / 4294967296 * (y / 4294967296)) + 4294967296 * (x / 4294967296 * (y % 4294967296)) + 4294967296 * (x % 4294967296 * (y / 4294967296)) + x % 4294967296 * (y % 4294967296) := by
    conv => lhs; rw [← Nat.div_add_mod x 4294967296, ← Nat.div_add_mod y 4294967296]
    rw [Nat.add_mul, Nat.mul_add, Nat.mul_add]
    generalize x / 4294967296 = a
    generalize y / 4294967296 = b
    generalize x % 4294967296 = c
    generalize y % 4294967296 = d
    rw [show 4294967296 * a * (4294967296 * b) = 18446744073709551616 * (a * b) by rw [Nat.mul_mul_mul_comm], Nat.mul_assoc 4294967296 a d, show c * (4294967296 * b) = 4294967296 * (c * b) by rw [Nat.mul_left_comm]]
    omega
  obtain ⟨_, k1, k2, k3, k4⟩ := mul64_core bx cx by' cy
  have hm : ((x : Int) * (y : Int)) = ((x * y : Nat) : Int) := by simp
  simp only [hm, ← Int.natCast_mul]
  generalize x * y = p at *
  generalize x / 4294967296 * (y / 4294967296) = hh at *
  generalize x / 4294967296 * (y % 4294967296) = hl at *
  generalize x % 4294967296 * (y / 4294967296) = lh at *
  generalize x % 4294967296 * (y % 4294967296) = ll at *
  refine ⟨by omega, ?_⟩
  have w1 : IntKind.u64.wrap (ll : Int) = (ll : Int) := u64w (by omega) (by omega)
  have w2 : IntKind.u64.wrap (hl : Int) = (hl : Int) := u64w (by omega) (by omega)
  have w3 : IntKind.u64.wrap (lh : Int) = (lh : Int) := u64w (by omega) (by omega)
  have w4 : IntKind.u64.wrap (hh : Int) = (hh : Int) := u64w (by omega) (by omega)
  simp only [w1, w2, w3, w4, s32]
  have w5 : IntKind.u64.wrap ((hl : Int) + ((ll / 4294967296 : Nat) : Int)) = ((hl + ll / 4294967296 : Nat) : Int) := by rw [u64w (by omega) (by omega)]; omega
  simp only [w5, s32, and32 (show hl + ll / 4294967296 < 18446744073709551616 by omega)]
  refine ⟨by omega, by omega, ?_⟩
  have w6 : IntKind.u64.wrap ((((hl + ll / 4294967296) % 4294967296 : Nat) : Int) + (lh : Int)) = (((hl + ll / 4294967296) % 4294967296 + lh : Nat) : Int) := by rw [u64w (by omega) (by omega)]; omega
  have w7 : IntKind.u64.wrap ((hh : Int) + (((hl + ll / 4294967296) / 4294967296 : Nat) : Int)) = ((hh + (hl + ll / 4294967296) / 4294967296 : Nat) : Int) := by rw [u64w (by omega) (by omega)]; omega
  simp only [w6, w7, s32]
  rw [u64w (by omega) (by omega), u64m]
  refine ret2.2 ?_
  simp only [Mul64.fn, hm]
  refine Prod.ext ?_ ?_ <;> simp only <;> omega

/-! ## Numbers -/
theorem ok4_get {n : Nat} {i : Int} (h : 0 ≤ i ∧ i < 4) : (Wn 4 n).getD i.toNat 0 = ((dig n i.toNat : Nat) : Int) := Wn_getD n (by omega)
theorem set0 {n : Nat} (h : n < 18446744073709551616) : (List.replicate 4 (0 : Int)).set 0 (n : Int) = Wn 4 n := by
  rw [W4_eq, dig0, dig1, dig2, dig3]
  have e1 : n % 18446744073709551616 = n := by omega
  have e2 : n / 18446744073709551616 % 18446744073709551616 = 0 := by omega
  have e3 : n / 340282366920938463463374607431768211456 % 18446744073709551616 = 0 := by omega
  have e4 : n / 6277101735386680763835789423207666416102355444464034512896 % 18446744073709551616 = 0 := by omega
  rw [e1, e2, e3, e4]; rfl
def WFrom.pre (x : Int) : Prop := W64 x
def WFrom.fn (x : Int) : List Int := Wn 4 x.toNat
def WFrom.VC : Prop := ∀ (x0 : Int), WFrom.pre x0 →
 (Ret1 ((List.replicate 4 (0 : Int)).set 0 x0) (WFrom.fn x0))
theorem WFrom.vc : WFrom.VC := by
  intro x0 h
  obtain ⟨x, hx, rfl⟩ := W64.nat h
  exact ret1.2 (by rw [set0 hx]; rfl)
def QFromUint.pre (x : Int) : Prop := W64 x
def QFromUint.fn (x : Int) : List Int := Wn 4 x.toNat
def QFromUint.VC : Prop := ∀ (x0 : Int), QFromUint.pre x0 →
 (Ret1 ((List.replicate 4 (0 : Int)).set 0 x0) (QFromUint.fn x0))
theorem QFromUint.vc : QFromUint.VC := WFrom.vc

/-! ## Comparisons -/
def cmpN (n m : Nat) : Int := if n < m then -1 else if m < n then 1 else 0
def WCmp.pre (a b : List Int) : Prop := Ok4 a ∧ Ok4 b
def WCmp.fn (a b : List Int) : Int := cmpN (N4 a) (N4 b)
def WCmp.inv2 (a b : List Int) (i : Int) : Prop := -1 ≤ i ∧ i ≤ 3 ∧ N4 a / 2 ^ (64 * (i + 1).toNat) = N4 b / 2 ^ (64 * (i + 1).toNat)
def WCmp.mes2 (a b : List Int) (i : Int) : Nat := (i + 1).toNat
def WCmp.VC : Prop := ∀ (x0 : (List Int)) (x1 : (List Int)), WCmp.pre x0 x1 →
 (WCmp.inv2 x0 x1 (3 : Int) ∧
 ∀ (v5 : Int), WCmp.inv2 x0 x1 v5 →
 (((decide (v5 ≥ (0 : Int))) = true →
 (0 ≤ v5 ∧ v5 < 4) ∧
 (0 ≤ v5 ∧ v5 < 4) ∧
 (let v16 : Bool := (decide ((x0.getD (Int.toNat v5) (0 : Int)) < (x1.getD (Int.toNat v5) (0 : Int))))
 ((v16 = true →
 (Ret1 (-1 : Int) (WCmp.fn x0 x1))) ∧
 (v16 = false →
 (0 ≤ v5 ∧ v5 < 4) ∧
 (0 ≤ v5 ∧ v5 < 4) ∧
 (let v23 : Bool := (decide ((x0.getD (Int.toNat v5) (0 : Int)) > (x1.getD (Int.toNat v5) (0 : Int))))
 ((v23 = true →
 (Ret1 (1 : Int) (WCmp.fn x0 x1))) ∧
 (v23 = false →
 (WCmp.inv2 x0 x1 (IntKind.i64.wrap (v5 - (1 : Int))) ∧ WCmp.mes2 x0 x1 (IntKind.i64.wrap (v5 - (1 : Int))) < WCmp.mes2 x0 x1 v5)))))))) ∧
 ((decide (v5 ≥ (0 : Int))) = false →
 (Ret1 (0 : Int) (WCmp.fn x0 x1)))))
theorem WCmp.vc : WCmp.VC := by
  rintro a b ⟨⟨n, hn, rfl⟩, ⟨m, hm, rfl⟩⟩
  simp only [WCmp.inv2, WCmp.fn, N4_W4 hn, N4_W4 hm]
  refine ⟨⟨by omega, by omega, ?_⟩, ?_⟩
  · unfold Big at hn hm
    show n / 2 ^ 256 = m / 2 ^ 256
    omega
  rintro i ⟨k1, k2, k3⟩
  refine ⟨fun hc => ?_, fun hc => ?_⟩
  · have hc : 0 ≤ i := of_decide_eq_true hc
    have hi : 0 ≤ i ∧ i < 4 := ⟨hc, by omega⟩
    rw [ok4_get hi, ok4_get hi]
    have e : (i + 1).toNat = i.toNat + 1 := by omega
    rw [e] at k3
    have d1 := div_split n i.toNat
    have d2 := div_split m i.toNat
    rw [k3] at d1
    refine ⟨hi, hi, fun h => ?_, fun h => ⟨hi, hi, fun h2 => ?_, fun h2 => ?_⟩⟩
    · have h : ((dig n i.toNat : Nat) : Int) < ((dig m i.toNat : Nat) : Int) := of_decide_eq_true h
      have hlt : n < m := by
        refine Nat.lt_of_not_le (fun hle => ?_)
        have := Nat.div_le_div_right (c := 2 ^ (64 * i.toNat)) hle
        omega
      rw [ret1, cmpN, if_pos hlt]
    · have h2 : ((dig n i.toNat : Nat) : Int) > ((dig m i.toNat : Nat) : Int) := of_decide_eq_true h2
      have hlt : m < n := by
        refine Nat.lt_of_not_le (fun hle => ?_)
        have := Nat.div_le_div_right (c := 2 ^ (64 * i.toNat)) hle
        omega
      rw [ret1, cmpN, if_neg (by omega), if_pos hlt]
    · have h : ¬ ((dig n i.toNat : Nat) : Int) < ((dig m i.toNat : Nat) : Int) := of_decide_eq_false h
      have h2 : ¬ ((dig n i.toNat : Nat) : Int) > ((dig m i.toNat : Nat) : Int) := of_decide_eq_false h2
      rw [i64w (by omega) (by omega)]
      refine ⟨⟨by omega, by omega, ?_⟩, by simp only [WCmp.mes2]; omega⟩
      rw [show i - 1 + 1 = i by omega]
      omega
  · have hc : ¬ 0 ≤ i := of_decide_eq_false hc
    have : (i + 1).toNat = 0 := by omega
    rw [this] at k3
    simp only [Nat.mul_zero, Nat.pow_zero, Nat.div_one] at k3
    rw [ret1, cmpN, k3]; simp
def QCmp.pre (a b : List Int) : Prop := Ok4 a ∧ Ok4 b
def QCmp.fn (a b : List Int) : Int := cmpN (N4 a) (N4 b)
def QCmp.inv2 (a b : List Int) (i : Int) : Prop := WCmp.inv2 a b i
def QCmp.mes2 (a b : List Int) (i : Int) : Nat := WCmp.mes2 a b i
def QCmp.VC : Prop := ∀ (x0 : (List Int)) (x1 : (List Int)), QCmp.pre x0 x1 →
 (QCmp.inv2 x0 x1 (3 : Int) ∧
 ∀ (v5 : Int), QCmp.inv2 x0 x1 v5 →
 (((decide (v5 ≥ (0 : Int))) = true →
 (0 ≤ v5 ∧ v5 < 4) ∧
 (0 ≤ v5 ∧ v5 < 4) ∧
 (let v16 : Bool := (decide ((x0.getD (Int.toNat v5) (0 : Int)) < (x1.getD (Int.toNat v5) (0 : Int))))
 ((v16 = true →
 (Ret1 (-1 : Int) (QCmp.fn x0 x1))) ∧
 (v16 = false →
 (0 ≤ v5 ∧ v5 < 4) ∧
 (0 ≤ v5 ∧ v5 < 4) ∧
 (let v23 : Bool := (decide ((x0.getD (Int.toNat v5) (0 : Int)) > (x1.getD (Int.toNat v5) (0 : Int))))
 ((v23 = true →
 (Ret1 (1 : Int) (QCmp.fn x0 x1))) ∧
 (v23 = false →
 (QCmp.inv2 x0 x1 (IntKind.i64.wrap (v5 - (1 : Int))) ∧ QCmp.mes2 x0 x1 (IntKind.i64.wrap (v5 - (1 : Int))) < QCmp.mes2 x0 x1 v5)))))))) ∧
 ((decide (v5 ≥ (0 : Int))) = false →
 (Ret1 (0 : Int) (QCmp.fn x0 x1)))))
theorem QCmp.vc : QCmp.VC := WCmp.vc

/-! ## Lengths -/
def WLen.pre (a : List Int) : Prop := Ok4 a
def WLen.fn (a : List Int) : Int := ((bl (N4 a) : Nat) : Int)
def WLen.inv2 (a : List Int) (i : Int) : Prop := -1 ≤ i ∧ i ≤ 3 ∧ N4 a < 2 ^ (64 * (i + 1).toNat)
def WLen.mes2 (a : List Int) (i : Int) : Nat := (i + 1).toNat
def WLen.VC : Prop := ∀ (x0 : (List Int)), WLen.pre x0 →
 (WLen.inv2 x0 (3 : Int) ∧
 ∀ (v3 : Int), WLen.inv2 x0 v3 →
 (((decide (v3 ≥ (0 : Int))) = true →
 (0 ≤ v3 ∧ v3 < 4) ∧
 ((((x0.getD (Int.toNat v3) (0 : Int)) != (0 : Int)) = true →
 (0 ≤ v3 ∧ v3 < 4) ∧
 Len64.pre (x0.getD (Int.toNat v3) (0 : Int)) ∧
 (let v18 : Int := (IntKind.i64.wrap ((IntKind.i64.wrap ((64 : Int) * v3)) + (Len64.fn (x0.getD (Int.toNat v3) (0 : Int)))))
 (Ret1 v18 (WLen.fn x0)))) ∧
 (((x0.getD (Int.toNat v3) (0 : Int)) != (0 : Int)) = false →
 (WLen.inv2 x0 (IntKind.i64.wrap (v3 - (1 : Int))) ∧ WLen.mes2 x0 (IntKind.i64.wrap (v3 - (1 : Int))) < WLen.mes2 x0 v3)))) ∧
 ((decide (v3 ≥ (0 : Int))) = false →
 (Ret1 (0 : Int) (WLen.fn x0)))))
theorem bl_big {n : Nat} (h : n < Big) : bl n ≤ 256 := bl_le_iff.2 (by rw [← big_pow]; exact h)
theorem WLen.vc : WLen.VC := by
  rintro a ⟨n, hn, rfl⟩
  have hb := bl_big hn
  simp only [WLen.inv2, WLen.fn, N4_W4 hn]
  refine ⟨⟨by omega, by omega, by rw [show ((3 : Int) + 1).toNat = 4 from rfl, ← show Big = 2 ^ (64 * 4) from big_pow]; exact hn⟩, ?_⟩
  rintro i ⟨k1, k2, k3⟩
  refine ⟨fun hc => ?_, fun hc => ?_⟩
  · have hc : 0 ≤ i := of_decide_eq_true hc
    have hi : 0 ≤ i ∧ i < 4 := ⟨hc, by omega⟩
    rw [ok4_get hi]
    have e : (i + 1).toNat = i.toNat + 1 := by omega
    rw [e] at k3
    have d1 := div_split n i.toNat
    rw [Nat.div_eq_of_lt k3, Nat.mul_zero, Nat.zero_add] at d1
    refine ⟨hi, fun h => ⟨hi, u64_dig _ _, ?_⟩, fun h => ?_⟩
    · have h : ((dig n i.toNat : Nat) : Int) ≠ 0 := by simpa using h
      simp only [Len64.fn, Int.toNat_natCast]
      rw [← d1, bl_div]
      have hl : 64 * i.toNat < bl n := by
        refine Nat.lt_of_not_le (fun hle => ?_)
        have := bl_le_iff.1 hle
        rw [Nat.div_eq_of_lt this] at d1
        omega
      rw [i64w (n := 64 * i) (by omega) (by omega), i64w (by omega) (by omega)]
      rw [ret1]; omega
    · have h : ((dig n i.toNat : Nat) : Int) = 0 := by simpa using h
      rw [i64w (by omega) (by omega)]
      refine ⟨⟨by omega, by omega, ?_⟩, by simp only [WLen.mes2]; omega⟩
      rw [show i - 1 + 1 = i by omega]
      have hz : n / 2 ^ (64 * i.toNat) = 0 := by omega
      exact (Nat.div_eq_zero_iff_lt (Nat.two_pow_pos _)).1 hz
  · have hc : ¬ 0 ≤ i := of_decide_eq_false hc
    have : (i + 1).toNat = 0 := by omega
    rw [this] at k3
    have : n = 0 := by simpa using k3
    subst this
    exact ret1.2 (by simp [bl_zero])

/-! ## Bits -/
def QBit.pre (a : List Int) (i : Int) : Prop := Ok4 a ∧ 0 ≤ i ∧ i < 256
def QBit.fn (a : List Int) (i : Int) : Bool := decide (N4 a / 2 ^ i.toNat % 2 = 1)
def QBit.VC : Prop := ∀ (x0 : (List Int)) (x1 : Int), QBit.pre x0 x1 →
 (64 : Int) ≠ 0 ∧
 (0 ≤ (IntKind.i64.wrap (Int.tdiv x1 (64 : Int))) ∧ (IntKind.i64.wrap (Int.tdiv x1 (64 : Int))) < 4) ∧
 (let v8 : Int := (x0.getD (Int.toNat (IntKind.i64.wrap (Int.tdiv x1 (64 : Int)))) (0 : Int))
 (64 : Int) ≠ 0 ∧
 0 ≤ (Int.tmod x1 (64 : Int)) ∧
 (let v12 : Int := (iand .u64 (ishr .u64 v8 (Int.tmod x1 (64 : Int))) (1 : Int))
 (Ret1 (v12 == (1 : Int)) (QBit.fn x0 x1))))
theorem QBit.vc : QBit.VC := by
  rintro a i ⟨⟨n, hn, rfl⟩, h1, h2⟩
  simp only [QBit.fn, N4_W4 hn]
  have e1 : Int.tdiv i 64 = i / 64 := Int.tdiv_eq_ediv_of_nonneg h1
  have e2 : Int.tmod i 64 = i % 64 := Int.tmod_eq_emod_of_nonneg h1
  rw [e1, e2, i64w (by omega) (by omega), ok4_get (by omega)]
  refine ⟨by omega, by omega, by omega, by omega, ?_⟩
  obtain ⟨j, rfl⟩ := Int.eq_ofNat_of_zero_le h1
  have e3 : (j : Int) % 64 = ((j % 64 : Nat) : Int) := by omega
  have e4 : ((j : Int) / 64).toNat = j / 64 := by omega
  rw [e3, e4, shr64 (by omega), show (1 : Int) = ((1 : Nat) : Int) from rfl, and64 (Nat.lt_of_le_of_lt (Nat.div_le_self _ _) (dig_lt _ _)) (by omega), Nat.and_one_is_mod, dig_bit n (Nat.mod_lt _ (by omega)), Nat.div_add_mod, Int.toNat_natCast]
  rw [ret1, Bool.eq_iff_iff]
  simp only [beq_iff_eq, decide_eq_true_eq]
  omega
def QLen.pre (a : List Int) : Prop := Ok4 a
def QLen.fn (a : List Int) : Int := ((bl (N4 a) : Nat) : Int)
def QLen.inv2 (a : List Int) (i : Int) : Prop := -1 ≤ i ∧ i ≤ 255 ∧ N4 a < 2 ^ (i + 1).toNat
def QLen.mes2 (a : List Int) (i : Int) : Nat := (i + 1).toNat
def QLen.VC : Prop := ∀ (x0 : (List Int)), QLen.pre x0 →
 (QLen.inv2 x0 (255 : Int) ∧
 ∀ (v3 : Int), QLen.inv2 x0 v3 →
 (((decide (v3 ≥ (0 : Int))) = true →
 QBit.pre x0 v3 ∧
 (((QBit.fn x0 v3) = true →
 (Ret1 (IntKind.i64.wrap (v3 + (1 : Int))) (QLen.fn x0))) ∧
 ((QBit.fn x0 v3) = false →
 (QLen.inv2 x0 (IntKind.i64.wrap (v3 - (1 : Int))) ∧ QLen.mes2 x0 (IntKind.i64.wrap (v3 - (1 : Int))) < QLen.mes2 x0 v3)))) ∧
 ((decide (v3 ≥ (0 : Int))) = false →
 (Ret1 (0 : Int) (QLen.fn x0)))))
theorem bit_top {n i : Nat} (h : n < 2 ^ (i + 1)) : (n / 2 ^ i % 2 = 1 → bl n = i + 1) ∧ (¬ n / 2 ^ i % 2 = 1 → n < 2 ^ i) := by
  have hd : n / 2 ^ i < 2 := by rw [Nat.div_lt_iff_lt_mul (Nat.two_pow_pos i), ← Nat.pow_succ']; exact h
  refine ⟨fun hb => bl_unique h (.inr ?_), fun hb => ?_⟩
  · rw [Nat.add_sub_cancel]
    refine Nat.le_of_not_lt (fun hlt => ?_)
    rw [Nat.div_eq_of_lt hlt] at hb; omega
  · refine (Nat.div_eq_zero_iff_lt (Nat.two_pow_pos _)).1 ?_
    generalize n / 2 ^ i = y at *
    omega
theorem QLen.vc : QLen.VC := by
  rintro a ⟨n, hn, rfl⟩
  have hb := bl_big hn
  simp only [QLen.inv2, QLen.fn, QBit.fn, N4_W4 hn]
  refine ⟨⟨by omega, by omega, by rw [show ((255 : Int) + 1).toNat = 256 from rfl, ← big_pow]; exact hn⟩, ?_⟩
  rintro i ⟨k1, k2, k3⟩
  refine ⟨fun hc => ?_, fun hc => ?_⟩
  · have hc : 0 ≤ i := of_decide_eq_true hc
    rw [show (i + 1).toNat = i.toNat + 1 by omega] at k3
    obtain ⟨b1, b2⟩ := bit_top k3
    refine ⟨⟨⟨n, hn, rfl⟩, hc, by omega⟩, fun h => ?_, fun h => ?_⟩
    · rw [i64w (by omega) (by omega), b1 (of_decide_eq_true h)]
      rw [ret1]; omega
    · rw [i64w (by omega) (by omega)]
      refine ⟨⟨by omega, by omega, ?_⟩, by simp only [QLen.mes2]; omega⟩
      rw [show i - 1 + 1 = i by omega]
      exact b2 (of_decide_eq_false h)
  · have hc : ¬ 0 ≤ i := of_decide_eq_false hc
    have : (i + 1).toNat = 0 := by omega
    rw [this] at k3
    have : n = 0 := by simpa using k3
    subst this
    exact ret1.2 (by simp [bl_zero])
def QZero.pre (a : List Int) : Prop := Ok4 a
def QZero.fn (a : List Int) : Bool := decide (N4 a = 0)
def QZero.VC : Prop := ∀ (x0 : (List Int)), QZero.pre x0 →
 (let v5 : Bool := (Ty.beq (.arr 4 (.int .u64)) x0 (List.replicate 4 (0 : Int)))
 (Ret1 v5 (QZero.fn x0)))
theorem beq4 {a b : List Int} : Ty.beq (.arr 4 (.int .u64)) a b = decide (a = b) := by
  rw [Bool.eq_iff_iff, beq_iff, decide_eq_true_iff]
theorem zeq {a : List Int} (h : Ok4 a) : Ty.beq (.arr 4 (.int .u64)) a (List.replicate 4 0) = decide (N4 a = 0) := by
  rw [beq4, decide_eq_decide]; exact h.eqz
theorem QZero.vc : QZero.VC := by
  intro a h
  exact ret1.2 (zeq h)
def QNot.pre (a : List Int) : Prop := Ok4 a
def QNot.fn (a : List Int) : List Int := Wn 4 (Big - 1 - N4 a)
def QNot.VC : Prop := ∀ (x0 : (List Int)), QNot.pre x0 →
 (0 ≤ (0 : Int) ∧ (0 : Int) < 4) ∧
 (0 ≤ (1 : Int) ∧ (1 : Int) < 4) ∧
 (0 ≤ (2 : Int) ∧ (2 : Int) < 4) ∧
 (0 ≤ (3 : Int) ∧ (3 : Int) < 4) ∧
 (let v15 : (List Int) := [(inot .u64 (x0.getD (Int.toNat (0 : Int)) (0 : Int))), (inot .u64 (x0.getD (Int.toNat (1 : Int)) (0 : Int))), (inot .u64 (x0.getD (Int.toNat (2 : Int)) (0 : Int))), (inot .u64 (x0.getD (Int.toNat (3 : Int)) (0 : Int)))]
 (Ret1 v15 (QNot.fn x0)))
theorem QNot.vc : QNot.VC := by
  rintro a ⟨n, hn, rfl⟩
  refine ⟨by omega, by omega, by omega, by omega, ?_⟩
  have hB := hn
  unfold Big at hB
  simp only [QNot.fn, N4_W4 hn]
  have g : ∀ k, k < 4 → inot .u64 ((Wn 4 n).getD k 0) = ((18446744073709551615 - dig n k : Nat) : Int) := fun k hk => by rw [Wn_getD n hk, not64 (dig_lt _ _)]
  have g0 := g 0 (by omega)
  have g1 := g 1 (by omega)
  have g2 := g 2 (by omega)
  have g3 := g 3 (by omega)
  refine ret1.2 ?_
  show [inot .u64 ((Wn 4 n).getD 0 0), inot .u64 ((Wn 4 n).getD 1 0), inot .u64 ((Wn 4 n).getD 2 0), inot .u64 ((Wn 4 n).getD 3 0)] = _
  rw [g0, g1, g2, g3, W4_eq]
  simp only [dig0, dig1, dig2, dig3, Big, List.cons.injEq, and_true]
  omega
end Lc
