/- Numbers of 256 bits: quotients and shifts. -/
import Derived.Test.YtpbfmmnncbbhdabGreatDoorWide2
set_option linter.unusedVariables false
set_option maxRecDepth 100000
namespace Lc
open Go

/-! ## Quotients -/
def divFn (hi lo b : List Int) : List Int × List Int × Bool :=
  if N4 b ≤ N4 hi then (Wn 4 0, Wn 4 0, false) else (Wn 4 ((N4 hi * Big + N4 lo) / N4 b), Wn 4 ((N4 hi * Big + N4 lo) % N4 b), true)
/-- s bits are left. -/
def divQ (X b s : Nat) : Nat := X / 2 ^ s / b * 2 ^ s
def divR (X b s : Nat) : Nat := X / 2 ^ s % b
theorem div_half (X s : Nat) : X / 2 ^ s = 2 * (X / 2 ^ (s + 1)) + X / 2 ^ s % 2 := by
  rw [Nat.pow_succ, ← Nat.div_div_eq_div_mul, Nat.div_add_mod]
theorem div_mod_of {A b K r : Nat} (hb : 0 < b) (h : A = b * K + r) (hr : r < b) : A / b = K ∧ A % b = r := by
  subst h
  exact ⟨by rw [Nat.mul_add_div hb, Nat.div_eq_of_lt hr, Nat.add_zero], by rw [Nat.mul_add_mod, Nat.mod_eq_of_lt hr]⟩
theorem div_down {X b s : Nat} (hb : 0 < b) :
    divR X b s = (if b ≤ 2 * divR X b (s + 1) + X / 2 ^ s % 2 then 2 * divR X b (s + 1) + X / 2 ^ s % 2 - b else 2 * divR X b (s + 1) + X / 2 ^ s % 2) ∧
    divQ X b s = (if b ≤ 2 * divR X b (s + 1) + X / 2 ^ s % 2 then divQ X b (s + 1) + 2 ^ s else divQ X b (s + 1)) := by
  have hA := div_half X s
  have hr : divR X b (s + 1) < b := Nat.mod_lt _ hb
  have h0 : X / 2 ^ (s + 1) = b * (X / 2 ^ (s + 1) / b) + divR X b (s + 1) := (Nat.div_add_mod _ _).symm
  have h1 := div_next (t := X / 2 ^ s % 2) h0 hr
  rw [← hA] at h1
  have ht : X / 2 ^ s % 2 < 2 := Nat.mod_lt _ (by omega)
  have hr2 : (if b ≤ 2 * divR X b (s + 1) + X / 2 ^ s % 2 then 2 * divR X b (s + 1) + X / 2 ^ s % 2 - b else 2 * divR X b (s + 1) + X / 2 ^ s % 2) < b := by
    generalize X / 2 ^ s % 2 = t at *
    generalize divR X b (s + 1) = r at *
    split <;> omega
  obtain ⟨hq, hm⟩ := div_mod_of hb h1 hr2
  constructor
  · exact hm
  · unfold divQ
    rw [hq, Nat.pow_succ]
    split
    · rw [Nat.add_mul, Nat.one_mul, Nat.mul_comm 2, Nat.mul_assoc, Nat.mul_comm 2]
    · rw [Nat.mul_comm 2, Nat.mul_assoc, Nat.mul_comm 2]
theorem div_top {hi lo b : Nat} (hlo : lo < Big) (h : hi < b) : divR (hi * Big + lo) b 256 = hi ∧ divQ (hi * Big + lo) b 256 = 0 := by
  have e : (hi * Big + lo) / 2 ^ 256 = hi := by
    rw [← big_pow, Nat.mul_comm, Nat.mul_add_div (by decide), Nat.div_eq_of_lt hlo, Nat.add_zero]
  unfold divR divQ
  rw [e, Nat.mod_eq_of_lt h, Nat.div_eq_of_lt h, Nat.zero_mul]
  exact ⟨rfl, rfl⟩
theorem div_zero_s (X b : Nat) : divR X b 0 = X % b ∧ divQ X b 0 = X / b := by simp [divR, divQ]
theorem div_bit {hi lo s : Nat} (hs : s < 256) : (hi * Big + lo) / 2 ^ s % 2 = lo / 2 ^ s % 2 := by
  have e : Big = 2 ^ s * (2 * 2 ^ (255 - s)) := by
    rw [big_pow, ← Nat.pow_succ', ← Nat.pow_add]; congr 1; omega
  rw [e, Nat.mul_left_comm, Nat.mul_add_div (Nat.two_pow_pos s), Nat.mul_left_comm, Nat.mul_add_mod]
theorem divQ_mul (X b s : Nat) : divQ X b (s + 1) % 2 ^ (s + 1) = 0 := by unfold divQ; rw [Nat.mul_mod_left]
/-- One step on words: r' is the double with the next bit. -/
theorem sub_big {v b r : Nat} (hb : b < Big) (hr : r < b) (hv : v ≤ 2 * r + 1) (h : b ≤ v) : Wn 4 (v % Big + Big - b) = Wn 4 (v - b) := by
  apply Wn_congr
  unfold Big at *
  omega
theorem q_set {X b s : Nat} {q : Nat} (hq : q = divQ X b (s + 1)) (hs : s < 256) : (Wn 4 q).set (s / 64) (((dig q (s / 64) ||| 2 ^ (s % 64) : Nat) : Int)) = Wn 4 (q + 2 ^ s) := by
  rw [Wn_or (by omega) (Nat.mod_lt _ (by omega)), Nat.div_add_mod, or_high (by rw [hq]; exact divQ_mul X b s)]
theorem shl1 {k : Nat} (hk : k < 64) : ishl .u64 (1 : Int) (k : Int) = ((2 ^ k : Nat) : Int) := by
  have := shl64 (a := 1) (k := k) (by omega)
  rw [Nat.one_mul, Nat.mod_eq_of_lt (Nat.pow_lt_pow_right (by decide) hk : 2 ^ k < 2 ^ 64)] at this
  exact this
theorem pow_lt64 {k : Nat} (hk : k < 64) : 2 ^ k < 18446744073709551616 := Nat.pow_lt_pow_right (by decide) hk

def QDiv.pre (hi lo b : List Int) : Prop := Ok4 hi ∧ Ok4 lo ∧ Ok4 b
def QDiv.fn (hi lo b : List Int) : List Int × List Int × Bool := divFn hi lo b
def QDiv.inv5 (hi lo b q r : List Int) (i : Int) : Prop := -1 ≤ i ∧ i ≤ 255 ∧ N4 hi < N4 b ∧ q = Wn 4 (divQ (N4 hi * Big + N4 lo) (N4 b) (i + 1).toNat) ∧ r = Wn 4 (divR (N4 hi * Big + N4 lo) (N4 b) (i + 1).toNat)
def QDiv.mes5 (hi lo b q r : List Int) (i : Int) : Nat := (i + 1).toNat
def QDiv.VC : Prop := ∀ (x0 : (List Int)) (x1 : (List Int)) (x2 : (List Int)), QDiv.pre x0 x1 x2 →
 QCmp.pre x2 x0 ∧
 (((decide ((QCmp.fn x2 x0) ≤ (0 : Int))) = true →
 (Ret3 (List.replicate 4 (0 : Int)) (List.replicate 4 (0 : Int)) false (QDiv.fn x0 x1 x2))) ∧
 ((decide ((QCmp.fn x2 x0) ≤ (0 : Int))) = false →
 (QDiv.inv5 x0 x1 x2 (List.replicate 4 (0 : Int)) x0 (255 : Int) ∧
 ∀ (v6 : (List Int)) (v7 : (List Int)) (v9 : Int), QDiv.inv5 x0 x1 x2 v6 v7 v9 →
 (((decide (v9 ≥ (0 : Int))) = true →
 QBit.pre v7 (255 : Int) ∧
 QAdd.pre v7 v7 ∧
 QBit.pre x1 v9 ∧
 (((QBit.fn x1 v9) = true →
 (0 ≤ (0 : Int) ∧ (0 : Int) < 4) ∧
 (let v35 : Int := (ior .u64 ((QAdd.fn v7 v7).1.getD (Int.toNat (0 : Int)) (0 : Int)) (1 : Int))
 (0 ≤ (0 : Int) ∧ (0 : Int) < 4) ∧
 ((QBit.fn v7 (255 : Int)) = false → (QBit.fn v7 (255 : Int)) = false) ∧
 ((QBit.fn v7 (255 : Int)) = false → (QBit.fn v7 (255 : Int)) = false) ∧
 ((QBit.fn v7 (255 : Int)) = false → QCmp.pre ((QAdd.fn v7 v7).1.set (Int.toNat (0 : Int)) v35) x2) ∧
 ((QBit.fn v7 (255 : Int)) = false → (QBit.fn v7 (255 : Int)) = false) ∧
 ((QBit.fn v7 (255 : Int)) = false → (QBit.fn v7 (255 : Int)) = false) ∧
 (let v43 : Bool := (bif (QBit.fn v7 (255 : Int)) then true else (decide ((QCmp.fn ((QAdd.fn v7 v7).1.set (Int.toNat (0 : Int)) v35) x2) ≥ (0 : Int))))
 ((v43 = true →
 QSub.pre ((QAdd.fn v7 v7).1.set (Int.toNat (0 : Int)) v35) x2 ∧
 (let v48 : (List Int) := (QSub.fn ((QAdd.fn v7 v7).1.set (Int.toNat (0 : Int)) v35) x2).1
 (let v49 : Bool := (QSub.fn ((QAdd.fn v7 v7).1.set (Int.toNat (0 : Int)) v35) x2).2
 (64 : Int) ≠ 0 ∧
 (0 ≤ (IntKind.i64.wrap (Int.tdiv v9 (64 : Int))) ∧ (IntKind.i64.wrap (Int.tdiv v9 (64 : Int))) < 4) ∧
 (let v53 : Int := (v6.getD (Int.toNat (IntKind.i64.wrap (Int.tdiv v9 (64 : Int)))) (0 : Int))
 (64 : Int) ≠ 0 ∧
 0 ≤ (Int.tmod v9 (64 : Int)) ∧
 (let v57 : Int := (ior .u64 v53 (ishl .u64 (1 : Int) (Int.tmod v9 (64 : Int))))
 (0 ≤ (IntKind.i64.wrap (Int.tdiv v9 (64 : Int))) ∧ (IntKind.i64.wrap (Int.tdiv v9 (64 : Int))) < 4) ∧
 (let v6_1h : (List Int) := (v6.set (Int.toNat (IntKind.i64.wrap (Int.tdiv v9 (64 : Int)))) v57)
 (QDiv.inv5 x0 x1 x2 v6_1h v48 (IntKind.i64.wrap (v9 - (1 : Int))) ∧ QDiv.mes5 x0 x1 x2 v6_1h v48 (IntKind.i64.wrap (v9 - (1 : Int))) < QDiv.mes5 x0 x1 x2 v6 v7 v9))))))) ∧
 (v43 = false →
 (QDiv.inv5 x0 x1 x2 v6 ((QAdd.fn v7 v7).1.set (Int.toNat (0 : Int)) v35) (IntKind.i64.wrap (v9 - (1 : Int))) ∧ QDiv.mes5 x0 x1 x2 v6 ((QAdd.fn v7 v7).1.set (Int.toNat (0 : Int)) v35) (IntKind.i64.wrap (v9 - (1 : Int))) < QDiv.mes5 x0 x1 x2 v6 v7 v9)))))) ∧
 ((QBit.fn x1 v9) = false →
 ((QBit.fn v7 (255 : Int)) = false → (QBit.fn v7 (255 : Int)) = false) ∧
 ((QBit.fn v7 (255 : Int)) = false → (QBit.fn v7 (255 : Int)) = false) ∧
 ((QBit.fn v7 (255 : Int)) = false → QCmp.pre ((QAdd.fn v7 v7).1) x2) ∧
 ((QBit.fn v7 (255 : Int)) = false → (QBit.fn v7 (255 : Int)) = false) ∧
 ((QBit.fn v7 (255 : Int)) = false → (QBit.fn v7 (255 : Int)) = false) ∧
 (let v43_1 : Bool := (bif (QBit.fn v7 (255 : Int)) then true else (decide ((QCmp.fn ((QAdd.fn v7 v7).1) x2) ≥ (0 : Int))))
 ((v43_1 = true →
 QSub.pre ((QAdd.fn v7 v7).1) x2 ∧
 (64 : Int) ≠ 0 ∧
 (0 ≤ (IntKind.i64.wrap (Int.tdiv v9 (64 : Int))) ∧ (IntKind.i64.wrap (Int.tdiv v9 (64 : Int))) < 4) ∧
 (let v53_1 : Int := (v6.getD (Int.toNat (IntKind.i64.wrap (Int.tdiv v9 (64 : Int)))) (0 : Int))
 (64 : Int) ≠ 0 ∧
 0 ≤ (Int.tmod v9 (64 : Int)) ∧
 (let v57_1 : Int := (ior .u64 v53_1 (ishl .u64 (1 : Int) (Int.tmod v9 (64 : Int))))
 (0 ≤ (IntKind.i64.wrap (Int.tdiv v9 (64 : Int))) ∧ (IntKind.i64.wrap (Int.tdiv v9 (64 : Int))) < 4) ∧
 (let v6_2h : (List Int) := (v6.set (Int.toNat (IntKind.i64.wrap (Int.tdiv v9 (64 : Int)))) v57_1)
 (QDiv.inv5 x0 x1 x2 v6_2h ((QSub.fn ((QAdd.fn v7 v7).1) x2).1) (IntKind.i64.wrap (v9 - (1 : Int))) ∧ QDiv.mes5 x0 x1 x2 v6_2h ((QSub.fn ((QAdd.fn v7 v7).1) x2).1) (IntKind.i64.wrap (v9 - (1 : Int))) < QDiv.mes5 x0 x1 x2 v6 v7 v9))))) ∧
 (v43_1 = false →
 (QDiv.inv5 x0 x1 x2 v6 ((QAdd.fn v7 v7).1) (IntKind.i64.wrap (v9 - (1 : Int))) ∧ QDiv.mes5 x0 x1 x2 v6 ((QAdd.fn v7 v7).1) (IntKind.i64.wrap (v9 - (1 : Int))) < QDiv.mes5 x0 x1 x2 v6 v7 v9))))))) ∧
 ((decide (v9 ≥ (0 : Int))) = false →
 (Ret3 v6 v7 true (QDiv.fn x0 x1 x2)))))))
theorem cmp_le {n m : Nat} : decide (cmpN n m ≤ 0) = decide (n ≤ m) := by
  rw [decide_eq_decide]; unfold cmpN
  split
  · constructor <;> intro <;> omega
  · split
    · constructor <;> intro <;> omega
    · constructor <;> intro <;> omega
theorem cmp_ge {n m : Nat} : decide (cmpN n m ≥ 0) = decide (m ≤ n) := by
  rw [decide_eq_decide]; unfold cmpN
  split
  · constructor <;> intro <;> omega
  · split
    · constructor <;> intro <;> omega
    · constructor <;> intro <;> omega
theorem bit255 {R : Nat} (hR : R < Big) : decide (R / 2 ^ 255 % 2 = 1) = decide (Big ≤ 2 * R) := by
  rw [decide_eq_decide]
  have e : (2 : Nat) ^ 255 = 57896044618658097711785492504343953926634992332820282019728792003956564819968 := by decide +kernel
  rw [e]
  unfold Big at *
  omega
theorem cmp_over {R b v : Nat} (hb : b < Big) (hBv : Big ≤ 2 * R ↔ Big ≤ v) : (bif decide (Big ≤ 2 * R) then true else decide (cmpN (N4 (Wn 4 v)) b ≥ 0)) = decide (b ≤ v) := by
  rw [cmp_ge, N4_W]
  by_cases hB : Big ≤ 2 * R
  · have : b ≤ v := by have := hBv.1 hB; omega
    simp [hB, this]
  · have hnv : ¬ Big ≤ v := fun h => hB (hBv.2 h)
    rw [Nat.mod_eq_of_lt (by omega)]
    simp [hB]
theorem big_odd {R : Nat} : Big ≤ 2 * R ↔ Big ≤ 2 * R + 1 := by unfold Big; omega
theorem or_one (R : Nat) : (Wn 4 (2 * R)).set (Int.toNat 0) (ior .u64 ((Wn 4 (2 * R)).getD (Int.toNat 0) 0) 1) = Wn 4 (2 * R + 1) := by
  show (Wn 4 (2 * R)).set 0 (ior .u64 ((Wn 4 (2 * R)).getD 0 0) ((1 : Nat) : Int)) = _
  rw [Wn_getD _ (by omega), or64 (dig_lt _ _) (by omega)]
  have := Wn_or (m := 4) (w := 0) (b := 0) (x := 2 * R) (by omega) (by omega)
  rw [this]
  congr 1
  exact or_high (by simp)
theorem QDiv.vc : QDiv.VC := by
  rintro hi lo b ⟨⟨h, hh, rfl⟩, ⟨l, hl, rfl⟩, ⟨b, hb, rfl⟩⟩
  have hin : ∀ q r i, QDiv.inv5 (Wn 4 h) (Wn 4 l) (Wn 4 b) q r i ↔ -1 ≤ i ∧ i ≤ 255 ∧ h < b ∧ q = Wn 4 (divQ (h * Big + l) b (i + 1).toNat) ∧ r = Wn 4 (divR (h * Big + l) b (i + 1).toNat) := by
    intro q r i; simp only [QDiv.inv5, N4_W4 hh, N4_W4 hl, N4_W4 hb]
  simp only [hin]
  simp only [QCmp.fn, QDiv.fn, divFn, N4_W4 hh, N4_W4 hl, N4_W4 hb, cmp_le]
  refine ⟨⟨ok4 hb, ok4 hh⟩, fun hc => ?_, fun hc => ?_⟩
  · rw [ret3, if_pos (of_decide_eq_true hc)]; rfl
  have hlt : h < b := by have := of_decide_eq_false hc; omega
  have hbp : 0 < b := by omega
  obtain ⟨t1, t2⟩ := div_top hl hlt
  refine ⟨⟨by omega, by omega, hlt, by rw [show ((255 : Int) + 1).toNat = 256 from rfl, t2]; rfl, by rw [show ((255 : Int) + 1).toNat = 256 from rfl, t1]⟩, ?_⟩
  rintro q r i ⟨k1, k2, _, hq, hr⟩
  refine ⟨fun hc => ?_, fun hc => ?_⟩
  · have hc : 0 ≤ i := of_decide_eq_true hc
    obtain ⟨s, rfl⟩ := Int.eq_ofNat_of_zero_le hc
    have hs : s < 256 := by omega
    rw [show ((s : Int) + 1).toNat = s + 1 by omega] at hq hr
    have hi1 : IntKind.i64.wrap ((s : Int) - 1) = (s : Int) - 1 := i64w (by omega) (by omega)
    have hi2 : ((s : Int) - 1 + 1).toNat = s := by omega
    have ht1 : Int.tdiv (s : Int) 64 = ((s / 64 : Nat) : Int) := by rw [Int.tdiv_eq_ediv_of_nonneg (by omega)]; omega
    have ht2 : Int.tmod (s : Int) 64 = ((s % 64 : Nat) : Int) := by rw [Int.tmod_eq_emod_of_nonneg (by omega)]; omega
    have ht3 : IntKind.i64.wrap ((s / 64 : Nat) : Int) = ((s / 64 : Nat) : Int) := i64w (by omega) (by omega)
    have ht4 : (0 : Int) ≤ ((s / 64 : Nat) : Int) ∧ ((s / 64 : Nat) : Int) < 4 := by omega
    have hbit := div_bit (hi := h) (lo := l) hs
    obtain ⟨d1, d2⟩ := div_down (X := h * Big + l) (b := b) (s := s) hbp
    rw [hbit] at d1 d2
    have hrl : divR (h * Big + l) b (s + 1) < b := Nat.mod_lt _ hbp
    generalize hR : divR (h * Big + l) b (s + 1) = R at *
    generalize hQ : divQ (h * Big + l) b (s + 1) = Q at *
    subst hr hq
    have hRB : R < Big := by omega
    have hmes : ∀ q r q2 r2 : List Int, QDiv.mes5 (Wn 4 h) (Wn 4 l) (Wn 4 b) q r ((s : Int) - 1) < QDiv.mes5 (Wn 4 h) (Wn 4 l) (Wn 4 b) q2 r2 s := fun q r q2 r2 => by simp only [QDiv.mes5]; omega
    simp only [hi1, hi2, ht1, ht2, ht3, Int.toNat_natCast, Wn_getD Q (show s / 64 < 4 by omega), shl1 (Nat.mod_lt s (show 0 < 64 by omega)), or64 (dig_lt _ _) (pow_lt64 (Nat.mod_lt s (show 0 < 64 by omega)))]
    simp only [q_set hQ.symm hs]
    have hQadd : (QAdd.fn (Wn 4 R) (Wn 4 R)).1 = Wn 4 (2 * R) := by simp only [QAdd.fn, N4_W4 hRB]; congr 1; omega
    have hov : QBit.fn (Wn 4 R) 255 = decide (Big ≤ 2 * R) := by
      simp only [QBit.fn, N4_W4 hRB]
      exact bit255 hRB
    have hlb : QBit.fn (Wn 4 l) (s : Int) = decide (l / 2 ^ s % 2 = 1) := by simp only [QBit.fn, N4_W4 hl, Int.toNat_natCast]
    have ht : l / 2 ^ s % 2 < 2 := Nat.mod_lt _ (by omega)
    have z64 : (64 : Int) ≠ 0 := by decide
    have z0 : (0 : Int) ≤ 0 ∧ (0 : Int) < 4 := by decide
    have zs : (0 : Int) ≤ ((s % 64 : Nat) : Int) := Int.natCast_nonneg _
    have zb : (0 : Int) ≤ 255 ∧ (255 : Int) < 256 := by decide
    have zi : (0 : Int) ≤ (s : Int) ∧ (s : Int) < 256 := ⟨Int.natCast_nonneg _, by omega⟩
    have zj : -1 ≤ (s : Int) - 1 ∧ (s : Int) - 1 ≤ 255 := ⟨by omega, by omega⟩
    generalize hv : 2 * R + l / 2 ^ s % 2 = v at d1 d2
    clear hi1 hi2 ht1 ht2 ht3 k1 k2 hbit hR hQ
    rw [hQadd, hlb]
    rw [or_one, hov]
    refine ⟨⟨ok4 hRB, zb.1, zb.2⟩, ⟨ok4 hRB, ok4 hRB⟩, ⟨ok4 hl, zi.1, zi.2⟩, fun hb1 => ?_, fun hb1 => ?_⟩
    · have hb1 : l / 2 ^ s % 2 = 1 := of_decide_eq_true hb1
      rw [hb1] at hv
      subst hv
      rw [cmp_over hb big_odd]
      refine ⟨z0, z0, fun h => h, fun h => h, fun _ => ⟨ok4' _, ok4 hb⟩, fun h => h, fun h => h, fun hge => ?_, fun hge => ?_⟩
      · have hge : b ≤ 2 * R + 1 := of_decide_eq_true hge
        rw [if_pos hge] at d1 d2
        refine ⟨⟨ok4' _, ok4 hb⟩, z64, ht4, z64, zs, ht4, ⟨zj.1, zj.2, hlt, by rw [d2], ?_⟩, hmes _ _ _ _⟩
        simp only [QSub.fn, WSub.fn, N4_W, N4_W4 hb]
        rw [sub_big hb hrl (Nat.le_refl _) hge, d1]
      · have hge : ¬ b ≤ 2 * R + 1 := of_decide_eq_false hge
        rw [if_neg hge] at d1 d2
        exact ⟨⟨zj.1, zj.2, hlt, by rw [d2], by rw [d1]⟩, hmes _ _ _ _⟩
    · have hb1 : l / 2 ^ s % 2 = 0 := by have := of_decide_eq_false hb1; omega
      rw [hb1, Nat.add_zero] at hv
      subst hv
      rw [cmp_over hb Iff.rfl]
      refine ⟨fun h => h, fun h => h, fun _ => ⟨ok4' _, ok4 hb⟩, fun h => h, fun h => h, fun hge => ?_, fun hge => ?_⟩
      · have hge : b ≤ 2 * R := of_decide_eq_true hge
        rw [if_pos hge] at d1 d2
        refine ⟨⟨ok4' _, ok4 hb⟩, z64, ht4, z64, zs, ht4, ⟨zj.1, zj.2, hlt, by rw [d2], ?_⟩, hmes _ _ _ _⟩
        simp only [QSub.fn, WSub.fn, N4_W, N4_W4 hb]
        rw [sub_big hb hrl (Nat.le_succ _) hge, d1]
      · have hge : ¬ b ≤ 2 * R := of_decide_eq_false hge
        rw [if_neg hge] at d1 d2
        exact ⟨⟨zj.1, zj.2, hlt, by rw [d2], by rw [d1]⟩, hmes _ _ _ _⟩
  · have hc : ¬ 0 ≤ i := of_decide_eq_false hc
    have e : (i + 1).toNat = 0 := by omega
    rw [e, (div_zero_s _ _).2] at hq
    rw [e, (div_zero_s _ _).1] at hr
    rw [ret3, if_neg (by omega), hq, hr]
end Lc
