/- Numbers of 256 bits: shifts, compact targets. -/
import Derived.Test.YtpbfmmnncbbhdabGreatDoorWide3b
set_option linter.unusedVariables false
set_option maxRecDepth 100000
namespace Lc
open Go

def shlFn (a : List Int) (n : Int) : List Int := if n < 0 then a else Wn 4 (N4 a * 2 ^ n.toNat)
def shrFn (a : List Int) (n : Int) : List Int := if n < 0 then a else Wn 4 (N4 a / 2 ^ n.toNat)
theorem shl_big (n k : Nat) (h : 256 ≤ k) : Wn 4 (n * 2 ^ k) = Wn 4 0 := by
  apply Wn_congr
  rw [show k = 256 + (k - 256) by omega, Nat.pow_add, ← big_pow, Nat.mul_left_comm, Nat.mul_mod_right]
  rfl
theorem shr_big {n k : Nat} (hn : n < Big) (h : 256 ≤ k) : Wn 4 (n / 2 ^ k) = Wn 4 0 := by
  rw [Nat.div_eq_of_lt]
  refine Nat.lt_of_lt_of_le hn ?_
  rw [big_pow]; exact Nat.pow_le_pow_right (by decide) h
theorem ok_shl {a : List Int} (h : Ok4 a) (n : Int) : Ok4 (shlFn a n) := by unfold shlFn; split; exact h; exact ok4' _
theorem ok_shr {a : List Int} (h : Ok4 a) (n : Int) : Ok4 (shrFn a n) := by unfold shrFn; split; exact h; exact ok4' _
theorem split64 {x : Int} (h0 : 0 ≤ x) (h1 : x < 256) : ∃ w r : Nat, r < 64 ∧ w < 4 ∧ x.toNat = 64 * w + r ∧ IntKind.i64.wrap (Int.tdiv x 64) = (w : Int) ∧ Int.tmod x 64 = (r : Int) := by
  refine ⟨x.toNat / 64, x.toNat % 64, by omega, by omega, by omega, ?_, ?_⟩
  · rw [Int.tdiv_eq_ediv_of_nonneg h0, i64w (by omega) (by omega)]; omega
  · rw [Int.tmod_eq_emod_of_nonneg h0]; omega

def WShl.pre (a : List Int) (n : Int) : Prop := Ok4 a
def WShl.fn (a : List Int) (n : Int) : List Int := shlFn a n
def WShl.inv8 (a : List Int) (n : Int) (v4 v5 : List Int) (i : Int) : Prop := n.toNat / 64 ≤ i.toNat ∧ 0 ≤ i ∧ i ≤ 4 ∧ v5 = mix (Wn 4 (N4 a * 2 ^ n.toNat)) Z4 i.toNat
def WShl.mes8 (a : List Int) (n : Int) (v4 v5 : List Int) (i : Int) : Nat := (4 - i).toNat
def WShl.VC : Prop := ∀ (x0 : (List Int)) (x1 : Int), WShl.pre x0 x1 →
 (((decide (x1 < (0 : Int))) = true →
 (Ret1 x0 (WShl.fn x0 x1))) ∧
 ((decide (x1 < (0 : Int))) = false →
 (((decide (x1 ≥ (256 : Int))) = true →
 (Ret1 (List.replicate 4 (0 : Int)) (WShl.fn x0 x1))) ∧
 ((decide (x1 ≥ (256 : Int))) = false →
 (64 : Int) ≠ 0 ∧
 (64 : Int) ≠ 0 ∧
 (WShl.inv8 x0 x1 (List.replicate 4 (0 : Int)) (List.replicate 4 (0 : Int)) (IntKind.i64.wrap (Int.tdiv x1 (64 : Int))) ∧
 ∀ (v4 : (List Int)) (v5 : (List Int)) (v8 : Int), WShl.inv8 x0 x1 v4 v5 v8 →
 (((decide (v8 < (4 : Int))) = true →
 (let v27 : Int := (IntKind.i64.wrap (v8 - (IntKind.i64.wrap (Int.tdiv x1 (64 : Int)))))
 (0 ≤ v27 ∧ v27 < 4) ∧
 0 ≤ (Int.tmod x1 (64 : Int)) ∧
 (let v31 : Int := (ishl .u64 (x0.getD (Int.toNat v27) (0 : Int)) (Int.tmod x1 (64 : Int)))
 (0 ≤ v8 ∧ v8 < 4) ∧
 (((decide (v8 > (IntKind.i64.wrap (Int.tdiv x1 (64 : Int))))) = true →
 (0 ≤ v8 ∧ v8 < 4) ∧
 (let v41 : Int := (IntKind.i64.wrap (v8 - (IntKind.i64.wrap (Int.tdiv x1 (64 : Int)))))
 (0 ≤ (IntKind.i64.wrap (v41 - (1 : Int))) ∧ (IntKind.i64.wrap (v41 - (1 : Int))) < 4) ∧
 (let v44 : Int := (x0.getD (Int.toNat (IntKind.i64.wrap (v41 - (1 : Int)))) (0 : Int))
 0 ≤ (IntKind.i64.wrap ((64 : Int) - (Int.tmod x1 (64 : Int)))) ∧
 (let v47 : Int := (ishr .u64 v44 (IntKind.i64.wrap ((64 : Int) - (Int.tmod x1 (64 : Int)))))
 (let v48 : Int := (ior .u64 ((v5.set (Int.toNat v8) v31).getD (Int.toNat v8) (0 : Int)) v47)
 (0 ≤ v8 ∧ v8 < 4) ∧
 (WShl.inv8 x0 x1 v4 ((v5.set (Int.toNat v8) v31).set (Int.toNat v8) v48) (IntKind.i64.wrap (v8 + (1 : Int))) ∧ WShl.mes8 x0 x1 v4 ((v5.set (Int.toNat v8) v31).set (Int.toNat v8) v48) (IntKind.i64.wrap (v8 + (1 : Int))) < WShl.mes8 x0 x1 v4 v5 v8)))))) ∧
 ((decide (v8 > (IntKind.i64.wrap (Int.tdiv x1 (64 : Int))))) = false →
 (WShl.inv8 x0 x1 v4 (v5.set (Int.toNat v8) v31) (IntKind.i64.wrap (v8 + (1 : Int))) ∧ WShl.mes8 x0 x1 v4 (v5.set (Int.toNat v8) v31) (IntKind.i64.wrap (v8 + (1 : Int))) < WShl.mes8 x0 x1 v4 v5 v8)))))) ∧
 ((decide (v8 < (4 : Int))) = false →
 (Ret1 v5 (WShl.fn x0 x1)))))))))
theorem Z4_get (j : Nat) : Z4.getD j 0 = 0 := zeros_get 4 j
theorem set_set_get {l : List Int} {k : Nat} {x : Int} (hk : k < l.length) : (l.set k x).getD k 0 = x := by rw [lget_set, if_pos ⟨rfl, hk⟩]
theorem WShl.vc : WShl.VC := by
  rintro a x ⟨n, hn, rfl⟩
  simp only [WShl.inv8, WShl.fn, shlFn, N4_W4 hn]
  refine ⟨fun hc => ?_, fun hc => ⟨fun hc2 => ?_, fun hc2 => ?_⟩⟩
  · rw [ret1, if_pos (of_decide_eq_true hc)]
  · have hc : ¬ x < 0 := of_decide_eq_false hc
    have hc2 : x ≥ 256 := of_decide_eq_true hc2
    rw [ret1, if_neg hc, shl_big _ _ (by omega)]; rfl
  · have hc : ¬ x < 0 := of_decide_eq_false hc
    have hc2 : ¬ x ≥ 256 := of_decide_eq_false hc2
    obtain ⟨w, r, hr, hw, e1, e2, e3⟩ := split64 (x := x) (by omega) (by omega)
    simp only [e1, e2, e3]
    have ew : (64 * w + r) / 64 = w := by omega
    simp only [ew]
    refine ⟨by omega, by omega, ⟨by omega, by omega, by omega, ?_⟩, ?_⟩
    · show Z4 = _
      apply ext_getD (by rw [mix_len (by rw [Wn_len]; rfl), Wn_len]; rfl)
      intro j hj
      rw [mix_getD (by rw [Wn_len]; rfl)]
      have hj : j < 4 := hj
      split
      · rw [Wn_getD _ hj, shl_words, if_neg (by omega), Z4_get]; rfl
      · rfl
    rintro v4 v5 i ⟨k0, k1, k2, rfl⟩
    refine ⟨fun hi => ?_, fun hi => ?_⟩
    · have hi : i < 4 := of_decide_eq_true hi
      have hi4 : 0 ≤ i ∧ i < 4 := ⟨k1, hi⟩
      obtain ⟨k, rfl⟩ := Int.eq_ofNat_of_zero_le k1
      have f1 : IntKind.i64.wrap ((k : Int) - (w : Int)) = ((k - w : Nat) : Int) := by rw [i64w (by omega) (by omega)]; omega
      have f2 : IntKind.i64.wrap ((k : Int) + 1) = (k : Int) + 1 := i64w (by omega) (by omega)
      have f3 : IntKind.i64.wrap ((64 : Int) - (r : Int)) = ((64 - r : Nat) : Int) := by rw [i64w (by omega) (by omega)]; omega
      simp only [f1, f2, f3, Int.toNat_natCast, Wn_getD n (show k - w < 4 by omega), shl64 (show r ≤ 64 by omega)]
      have hl : (mix (Wn 4 (n * 2 ^ (64 * w + r))) Z4 k).length = 4 := by rw [mix_len (by rw [Wn_len]; rfl), Wn_len]
      have hlt : dig n (k - w) * 2 ^ r % 18446744073709551616 < 18446744073709551616 := Nat.mod_lt _ (by omega)
      refine ⟨by omega, by omega, hi4, fun hg => ?_, fun hg => ?_⟩
      · have hg : (k : Int) > (w : Int) := of_decide_eq_true hg
        have f4 : IntKind.i64.wrap (((k - w : Nat) : Int) - 1) = ((k - w - 1 : Nat) : Int) := by rw [i64w (by omega) (by omega)]; omega
        simp only [f4, Int.toNat_natCast, Wn_getD n (show k - w - 1 < 4 by omega), shr64 (show 64 - r ≤ 64 by omega), set_set_get (show k < (mix (Wn 4 (n * 2 ^ (64 * w + r))) Z4 k).length by rw [hl]; omega), List.set_set]
        have hsr : dig n (k - w - 1) / 2 ^ (64 - r) < 18446744073709551616 := Nat.lt_of_le_of_lt (Nat.div_le_self _ _) (dig_lt _ _)
        rw [or64 hlt hsr, ← shl_dig hr (by omega)]
        refine ⟨hi4, by omega, by omega, hi4, ⟨by omega, by omega, by omega, ?_⟩, by simp only [WShl.mes8]; omega⟩
        have := mixZ_set (s := n * 2 ^ (64 * w + r)) (i := (k : Int)) (x := ((dig (n * 2 ^ r) (k - w) : Nat) : Int)) hi4 (by rw [Int.toNat_natCast, shl_words, if_pos (by omega)]) Z4_len
        simpa using this
      · have hg : ¬ (k : Int) > (w : Int) := of_decide_eq_false hg
        have hkw : k = w := by omega
        refine ⟨⟨by omega, by omega, by omega, ?_⟩, by simp only [WShl.mes8]; omega⟩
        have := mixZ_set (s := n * 2 ^ (64 * w + r)) (i := (k : Int)) (x := ((dig n (k - w) * 2 ^ r % 18446744073709551616 : Nat) : Int)) hi4 (by rw [Int.toNat_natCast, shl_words, if_pos (by omega), hkw, Nat.sub_self, shl_dig0]) Z4_len
        simpa using this
    · have hi : ¬ i < 4 := of_decide_eq_false hi
      rw [ret1, if_neg hc, show i.toNat = 4 by omega, mix_all (by rw [Wn_len]; omega) (by decide)]

def WShr.pre (a : List Int) (n : Int) : Prop := Ok4 a
def WShr.fn (a : List Int) (n : Int) : List Int := shrFn a n
def WShr.inv8 (a : List Int) (n : Int) (v4 v5 : List Int) (i : Int) : Prop := 0 ≤ i ∧ i.toNat + n.toNat / 64 ≤ 4 ∧ v5 = mix (Wn 4 (N4 a / 2 ^ n.toNat)) Z4 i.toNat
def WShr.mes8 (a : List Int) (n : Int) (v4 v5 : List Int) (i : Int) : Nat := (4 - i).toNat
def WShr.VC : Prop := ∀ (x0 : (List Int)) (x1 : Int), WShr.pre x0 x1 →
 (((decide (x1 < (0 : Int))) = true →
 (Ret1 x0 (WShr.fn x0 x1))) ∧
 ((decide (x1 < (0 : Int))) = false →
 (((decide (x1 ≥ (256 : Int))) = true →
 (Ret1 (List.replicate 4 (0 : Int)) (WShr.fn x0 x1))) ∧
 ((decide (x1 ≥ (256 : Int))) = false →
 (64 : Int) ≠ 0 ∧
 (64 : Int) ≠ 0 ∧
 (let v20 : Int := (IntKind.i64.wrap ((4 : Int) - (IntKind.i64.wrap (Int.tdiv x1 (64 : Int)))))
 (WShr.inv8 x0 x1 (List.replicate 4 (0 : Int)) (List.replicate 4 (0 : Int)) (0 : Int) ∧
 ∀ (v4 : (List Int)) (v5 : (List Int)) (v21 : Int), WShr.inv8 x0 x1 v4 v5 v21 →
 (((decide (v21 < v20)) = true →
 (let v27 : Int := (IntKind.i64.wrap (v21 + (IntKind.i64.wrap (Int.tdiv x1 (64 : Int)))))
 (0 ≤ v27 ∧ v27 < 4) ∧
 0 ≤ (Int.tmod x1 (64 : Int)) ∧
 (let v31 : Int := (ishr .u64 (x0.getD (Int.toNat v27) (0 : Int)) (Int.tmod x1 (64 : Int)))
 (0 ≤ v21 ∧ v21 < 4) ∧
 (let v35 : Int := (IntKind.i64.wrap (v21 + (IntKind.i64.wrap (Int.tdiv x1 (64 : Int)))))
 (((decide (v35 < (3 : Int))) = true →
 (0 ≤ v21 ∧ v21 < 4) ∧
 (let v39 : Int := ((v5.set (Int.toNat v21) v31).getD (Int.toNat v21) (0 : Int))
 (let v42 : Int := (IntKind.i64.wrap (v21 + (IntKind.i64.wrap (Int.tdiv x1 (64 : Int)))))
 (0 ≤ (IntKind.i64.wrap (v42 + (1 : Int))) ∧ (IntKind.i64.wrap (v42 + (1 : Int))) < 4) ∧
 (let v45 : Int := (x0.getD (Int.toNat (IntKind.i64.wrap (v42 + (1 : Int)))) (0 : Int))
 0 ≤ (IntKind.i64.wrap ((64 : Int) - (Int.tmod x1 (64 : Int)))) ∧
 (let v48 : Int := (ishl .u64 v45 (IntKind.i64.wrap ((64 : Int) - (Int.tmod x1 (64 : Int)))))
 (0 ≤ v21 ∧ v21 < 4) ∧
 (let v5_1h : (List Int) := ((v5.set (Int.toNat v21) v31).set (Int.toNat v21) (ior .u64 v39 v48))
 (WShr.inv8 x0 x1 v4 v5_1h (IntKind.i64.wrap (v21 + (1 : Int))) ∧ WShr.mes8 x0 x1 v4 v5_1h (IntKind.i64.wrap (v21 + (1 : Int))) < WShr.mes8 x0 x1 v4 v5 v21))))))) ∧
 ((decide (v35 < (3 : Int))) = false →
 (WShr.inv8 x0 x1 v4 (v5.set (Int.toNat v21) v31) (IntKind.i64.wrap (v21 + (1 : Int))) ∧ WShr.mes8 x0 x1 v4 (v5.set (Int.toNat v21) v31) (IntKind.i64.wrap (v21 + (1 : Int))) < WShr.mes8 x0 x1 v4 v5 v21))))))) ∧
 ((decide (v21 < v20)) = false →
 (Ret1 v5 (WShr.fn x0 x1))))))))))
theorem WShr.vc : WShr.VC := by
  rintro a x ⟨n, hn, rfl⟩
  simp only [WShr.inv8, WShr.fn, shrFn, N4_W4 hn]
  refine ⟨fun hc => ?_, fun hc => ⟨fun hc2 => ?_, fun hc2 => ?_⟩⟩
  · rw [ret1, if_pos (of_decide_eq_true hc)]
  · have hc : ¬ x < 0 := of_decide_eq_false hc
    have hc2 : x ≥ 256 := of_decide_eq_true hc2
    rw [ret1, if_neg hc, shr_big hn (by omega)]; rfl
  · have hc : ¬ x < 0 := of_decide_eq_false hc
    have hc2 : ¬ x ≥ 256 := of_decide_eq_false hc2
    obtain ⟨w, r, hr, hw, e1, e2, e3⟩ := split64 (x := x) (by omega) (by omega)
    simp only [e1, e2, e3]
    have ew : (64 * w + r) / 64 = w := by omega
    have f0 : IntKind.i64.wrap ((4 : Int) - (w : Int)) = ((4 - w : Nat) : Int) := by rw [i64w (by omega) (by omega)]; omega
    simp only [ew, f0]
    have hhigh : ∀ j, 4 ≤ j → dig n j = 0 := by
      intro j hj
      apply dig_high
      refine Nat.lt_of_lt_of_le hn ?_
      rw [big_pow]; exact Nat.pow_le_pow_right (by decide) (by omega)
    refine ⟨by omega, by omega, ⟨by omega, by rw [Int.toNat_zero]; omega, by rw [Int.toNat_zero, mix_zero]; rfl⟩, ?_⟩
    rintro v4 v5 i ⟨k1, k2, rfl⟩
    refine ⟨fun hi => ?_, fun hi => ?_⟩
    · have hi : i < ((4 - w : Nat) : Int) := of_decide_eq_true hi
      have hi4 : 0 ≤ i ∧ i < 4 := ⟨k1, by omega⟩
      obtain ⟨k, rfl⟩ := Int.eq_ofNat_of_zero_le k1
      have f1 : IntKind.i64.wrap ((k : Int) + (w : Int)) = ((k + w : Nat) : Int) := by rw [i64w (by omega) (by omega)]; omega
      have f2 : IntKind.i64.wrap ((k : Int) + 1) = (k : Int) + 1 := i64w (by omega) (by omega)
      have f3 : IntKind.i64.wrap ((64 : Int) - (r : Int)) = ((64 - r : Nat) : Int) := by rw [i64w (by omega) (by omega)]; omega
      simp only [f1, f2, f3, Int.toNat_natCast, Wn_getD n (show k + w < 4 by omega), shr64 (show r ≤ 64 by omega)]
      have hl : (mix (Wn 4 (n / 2 ^ (64 * w + r))) Z4 k).length = 4 := by rw [mix_len (by rw [Wn_len]; rfl), Wn_len]
      have hlt : dig n (k + w) / 2 ^ r < 18446744073709551616 := Nat.lt_of_le_of_lt (Nat.div_le_self _ _) (dig_lt _ _)
      refine ⟨by omega, by omega, hi4, fun hg => ?_, fun hg => ?_⟩
      · have hg : ((k + w : Nat) : Int) < 3 := of_decide_eq_true hg
        have f4 : IntKind.i64.wrap (((k + w : Nat) : Int) + 1) = ((k + w + 1 : Nat) : Int) := by rw [i64w (by omega) (by omega)]; omega
        simp only [f4, Int.toNat_natCast, Wn_getD n (show k + w + 1 < 4 by omega), shl64 (show 64 - r ≤ 64 by omega), set_set_get (show k < (mix (Wn 4 (n / 2 ^ (64 * w + r))) Z4 k).length by rw [hl]; omega), List.set_set]
        have hsr : dig n (k + w + 1) * 2 ^ (64 - r) % 18446744073709551616 < 18446744073709551616 := Nat.mod_lt _ (by omega)
        rw [or64 hlt hsr, ← shr_dig hr]
        refine ⟨hi4, by omega, by omega, hi4, ⟨by omega, by omega, ?_⟩, by simp only [WShr.mes8]; omega⟩
        have := mixZ_set (s := n / 2 ^ (64 * w + r)) (i := (k : Int)) (x := ((dig (n / 2 ^ r) (k + w) : Nat) : Int)) hi4 (by rw [Int.toNat_natCast, shr_words]) Z4_len
        simpa using this
      · have hg : ¬ ((k + w : Nat) : Int) < 3 := of_decide_eq_false hg
        refine ⟨⟨by omega, by omega, ?_⟩, by simp only [WShr.mes8]; omega⟩
        have := mixZ_set (s := n / 2 ^ (64 * w + r)) (i := (k : Int)) (x := ((dig n (k + w) / 2 ^ r : Nat) : Int)) hi4 (by rw [Int.toNat_natCast, shr_words, shr_dig hr, hhigh (k + w + 1) (by omega)]; simp) Z4_len
        simpa using this
    · have hi : ¬ i < ((4 - w : Nat) : Int) := of_decide_eq_false hi
      rw [ret1, if_neg hc]
      apply ext_getD (by rw [mix_len (by rw [Wn_len]; rfl)])
      intro j hj
      have hj : j < 4 := by rw [mix_len (by rw [Wn_len]; rfl), Wn_len] at hj; exact hj
      rw [mix_getD (by rw [Wn_len]; rfl)]
      split
      · rfl
      · rw [Z4_get, Wn_getD _ hj, shr_words, shr_dig hr, hhigh (j + w) (by omega), hhigh (j + w + 1) (by omega)]; simp

def QShl.pre (a : List Int) (n : Int) : Prop := Ok4 a ∧ -9223372036854775808 ≤ n
def QShl.fn (a : List Int) (n : Int) : List Int := shlFn a n
def QShl.inv3 (a : List Int) (n k : Int) (v2 v4 : List Int) : Prop := k ≤ n ∧ n < 256 ∧ (k = n ∨ 0 ≤ k) ∧ v2 = Wn 4 (N4 a * 2 ^ (n - k).toNat)
def QShl.mes3 (a : List Int) (n k : Int) (v2 v4 : List Int) : Nat := k.toNat
def QShl.VC : Prop := ∀ (x0 : (List Int)) (x1 : Int), QShl.pre x0 x1 →
 (((decide (x1 ≥ (256 : Int))) = true →
 (Ret1 (List.replicate 4 (0 : Int)) (QShl.fn x0 x1))) ∧
 ((decide (x1 ≥ (256 : Int))) = false →
 (QShl.inv3 x0 x1 x1 x0 (List.replicate 4 (0 : Int)) ∧
 ∀ (v1 : Int) (v2 : (List Int)) (v4 : (List Int)), QShl.inv3 x0 x1 v1 v2 v4 →
 (((decide (v1 > (0 : Int))) = true →
 QAdd.pre v2 v2 ∧
 (QShl.inv3 x0 x1 (IntKind.i64.wrap (v1 - (1 : Int))) ((QAdd.fn v2 v2).1) v4 ∧ QShl.mes3 x0 x1 (IntKind.i64.wrap (v1 - (1 : Int))) ((QAdd.fn v2 v2).1) v4 < QShl.mes3 x0 x1 v1 v2 v4)) ∧
 ((decide (v1 > (0 : Int))) = false →
 (Ret1 v2 (QShl.fn x0 x1)))))))
theorem QShl.vc : QShl.VC := by
  rintro a x ⟨⟨n, hn, rfl⟩, hx⟩
  simp only [QShl.inv3, QShl.fn, shlFn, N4_W4 hn]
  refine ⟨fun hc => ?_, fun hc => ?_⟩
  · have hc : x ≥ 256 := of_decide_eq_true hc
    rw [ret1, if_neg (by omega), shl_big _ _ (by omega)]; rfl
  have hc : ¬ x ≥ 256 := of_decide_eq_false hc
  refine ⟨⟨by omega, by omega, .inl trivial, by simp⟩, ?_⟩
  rintro k v2 v4 ⟨k1, k2, k3, rfl⟩
  refine ⟨fun h => ?_, fun h => ?_⟩
  · have h : k > 0 := of_decide_eq_true h
    rw [i64w (by omega) (by omega)]
    refine ⟨⟨ok4' _, ok4' _⟩, ⟨by omega, by omega, .inr (by omega), ?_⟩, by simp only [QShl.mes3]; omega⟩
    simp only [QAdd.fn, N4_W]
    apply Wn_congr
    rw [show (x - (k - 1)).toNat = (x - k).toNat + 1 by omega, Nat.pow_succ, ← Nat.mul_assoc]
    generalize n * 2 ^ (x - k).toNat = y
    unfold Big
    omega
  · have h : ¬ k > 0 := of_decide_eq_false h
    rw [ret1]
    split
    · rename_i hneg
      have : k = x := by omega
      subst this; simp
    · have : k = 0 := by omega
      subst this; simp

def QShr.pre (a : List Int) (n : Int) : Prop := Ok4 a
def QShr.fn (a : List Int) (n : Int) : List Int := shrFn a n
def QShr.inv7 (a : List Int) (n : Int) (v4 v5 : List Int) (i : Int) : Prop := 0 ≤ i ∧ i + n ≤ 256 ∧ v5 = Wn 4 (N4 a / 2 ^ n.toNat % 2 ^ i.toNat)
def QShr.mes7 (a : List Int) (n : Int) (v4 v5 : List Int) (i : Int) : Nat := (256 - i).toNat
def QShr.VC : Prop := ∀ (x0 : (List Int)) (x1 : Int), QShr.pre x0 x1 →
 (((decide (x1 ≤ (0 : Int))) = true →
 (Ret1 x0 (QShr.fn x0 x1))) ∧
 ((decide (x1 ≤ (0 : Int))) = false →
 (((decide (x1 ≥ (256 : Int))) = true →
 (Ret1 (List.replicate 4 (0 : Int)) (QShr.fn x0 x1))) ∧
 ((decide (x1 ≥ (256 : Int))) = false →
 (QShr.inv7 x0 x1 (List.replicate 4 (0 : Int)) (List.replicate 4 (0 : Int)) (0 : Int) ∧
 ∀ (v4 : (List Int)) (v5 : (List Int)) (v6 : Int), QShr.inv7 x0 x1 v4 v5 v6 →
 (((decide ((IntKind.i64.wrap (v6 + x1)) < (256 : Int))) = true →
 QBit.pre x0 (IntKind.i64.wrap (v6 + x1)) ∧
 (((QBit.fn x0 (IntKind.i64.wrap (v6 + x1))) = true →
 (64 : Int) ≠ 0 ∧
 (0 ≤ (IntKind.i64.wrap (Int.tdiv v6 (64 : Int))) ∧ (IntKind.i64.wrap (Int.tdiv v6 (64 : Int))) < 4) ∧
 (let v27 : Int := (v5.getD (Int.toNat (IntKind.i64.wrap (Int.tdiv v6 (64 : Int)))) (0 : Int))
 (64 : Int) ≠ 0 ∧
 0 ≤ (Int.tmod v6 (64 : Int)) ∧
 (let v31 : Int := (ior .u64 v27 (ishl .u64 (1 : Int) (Int.tmod v6 (64 : Int))))
 (0 ≤ (IntKind.i64.wrap (Int.tdiv v6 (64 : Int))) ∧ (IntKind.i64.wrap (Int.tdiv v6 (64 : Int))) < 4) ∧
 (let v5_1h : (List Int) := (v5.set (Int.toNat (IntKind.i64.wrap (Int.tdiv v6 (64 : Int)))) v31)
 (QShr.inv7 x0 x1 v4 v5_1h (IntKind.i64.wrap (v6 + (1 : Int))) ∧ QShr.mes7 x0 x1 v4 v5_1h (IntKind.i64.wrap (v6 + (1 : Int))) < QShr.mes7 x0 x1 v4 v5 v6))))) ∧
 ((QBit.fn x0 (IntKind.i64.wrap (v6 + x1))) = false →
 (QShr.inv7 x0 x1 v4 v5 (IntKind.i64.wrap (v6 + (1 : Int))) ∧ QShr.mes7 x0 x1 v4 v5 (IntKind.i64.wrap (v6 + (1 : Int))) < QShr.mes7 x0 x1 v4 v5 v6)))) ∧
 ((decide ((IntKind.i64.wrap (v6 + x1)) < (256 : Int))) = false →
 (Ret1 v5 (QShr.fn x0 x1)))))))))
theorem QShr.vc : QShr.VC := by
  rintro a x ⟨n, hn, rfl⟩
  simp only [QShr.inv7, QShr.fn, shrFn, N4_W4 hn]
  refine ⟨fun hc => ?_, fun hc => ⟨fun hc2 => ?_, fun hc2 => ?_⟩⟩
  · have hc : x ≤ 0 := of_decide_eq_true hc
    rw [ret1]
    split
    · rfl
    · have : x = 0 := by omega
      subst this; simp
  · have hc : ¬ x ≤ 0 := of_decide_eq_false hc
    have hc2 : x ≥ 256 := of_decide_eq_true hc2
    rw [ret1, if_neg (by omega), shr_big hn (by omega)]; rfl
  · have hc : ¬ x ≤ 0 := of_decide_eq_false hc
    have hc2 : ¬ x ≥ 256 := of_decide_eq_false hc2
    refine ⟨⟨by omega, by omega, by simp [Nat.mod_one]; rfl⟩, ?_⟩
    rintro v4 v5 i ⟨k1, k2, rfl⟩
    obtain ⟨k, rfl⟩ := Int.eq_ofNat_of_zero_le k1
    have e0 : IntKind.i64.wrap ((k : Int) + x) = (k : Int) + x := i64w (by omega) (by omega)
    have e1 : IntKind.i64.wrap ((k : Int) + 1) = (k : Int) + 1 := i64w (by omega) (by omega)
    simp only [e0, e1]
    have hbit : n / 2 ^ ((k : Int) + x).toNat = n / 2 ^ x.toNat / 2 ^ k := by
      rw [Nat.div_div_eq_div_mul, ← Nat.pow_add]; congr 2; omega
    have hy : n / 2 ^ x.toNat < 2 ^ (256 - x.toNat) := by
      rw [Nat.div_lt_iff_lt_mul (Nat.two_pow_pos _), ← Nat.pow_add, show 256 - x.toNat + x.toNat = 256 by omega, ← big_pow]; exact hn
    generalize hyd : n / 2 ^ x.toNat = y at *
    refine ⟨fun h => ?_, fun h => ?_⟩
    · have h : (k : Int) + x < 256 := of_decide_eq_true h
      obtain ⟨w, r, hr, hw, q1, q2, q3⟩ := split64 (x := (k : Int)) (by omega) (by omega)
      rw [Int.toNat_natCast] at q1
      have hsucc : y % 2 ^ (k + 1) = y % 2 ^ k + 2 ^ k * (y / 2 ^ k % 2) := by rw [Nat.pow_succ, Nat.mod_mul]
      have hk1 : ((k : Int) + 1).toNat = k + 1 := by omega
      simp only [q2, q3, QBit.fn, N4_W4 hn, hbit, Int.toNat_natCast, hk1]
      have hmes : ∀ p q p2 q2 : List Int, QShr.mes7 (Wn 4 n) x p q ((k : Int) + 1) < QShr.mes7 (Wn 4 n) x p2 q2 k := fun p q p2 q2 => by simp only [QShr.mes7]; omega
      refine ⟨⟨⟨n, hn, rfl⟩, by omega, by omega⟩, fun hb => ?_, fun hb => ?_⟩
      · have hb : y / 2 ^ k % 2 = 1 := of_decide_eq_true hb
        rw [hb, Nat.mul_one] at hsucc
        have hlow : y % 2 ^ k < 2 ^ k := Nat.mod_lt _ (Nat.two_pow_pos _)
        simp only [Wn_getD (y % 2 ^ k) hw, shl1 hr, or64 (dig_lt _ _) (pow_lt64 hr)]
        refine ⟨by omega, by omega, by omega, by omega, by omega, ⟨by omega, by omega, ?_⟩, hmes _ _ _ _⟩
        rw [Wn_or hw hr, ← q1, or_low hlow, hsucc]
      · have hb : y / 2 ^ k % 2 = 0 := by have := of_decide_eq_false hb; have := Nat.mod_lt (y / 2 ^ k) (show 0 < 2 by omega); omega
        have hs2 : y % 2 ^ (k + 1) = y % 2 ^ k := by rw [hsucc, hb]; rfl
        exact ⟨⟨by omega, by omega, by rw [hs2]⟩, hmes _ _ _ _⟩
    · have h : ¬ (k : Int) + x < 256 := of_decide_eq_false h
      rw [ret1, if_neg (by omega), Int.toNat_natCast, Nat.mod_eq_of_lt]
      rw [show k = 256 - x.toNat by omega]; exact hy
end Lc
