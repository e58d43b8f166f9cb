/- Numbers of 256 bits: the program's quotients. -/
import Derived.Test.YtpbfmmnncbbhdabGreatDoorWide3
set_option linter.unusedVariables false
set_option maxRecDepth 100000
namespace Lc
open Go

def WDiv.pre (hi lo b : List Int) : Prop := Ok4 hi ∧ Ok4 lo ∧ Ok4 b
def WDiv.fn (hi lo b : List Int) : List Int × List Int × Bool := divFn hi lo b
def divI (hi lo b l q r z : List Int) (s : Nat) : Prop := N4 hi < N4 b ∧ z = Z4 ∧ s ≤ 256 ∧ l = Wn 4 (N4 lo * 2 ^ (256 - s)) ∧ q = Wn 4 (divQ (N4 hi * Big + N4 lo) (N4 b) s) ∧ r = Wn 4 (divR (N4 hi * Big + N4 lo) (N4 b) s)
def WDiv.inv6 (hi lo b l q r z : List Int) (w : Int) : Prop := -1 ≤ w ∧ w ≤ 3 ∧ divI hi lo b l q r z (64 * (w + 1).toNat)
def WDiv.mes6 (hi lo b l q r z : List Int) (w : Int) : Nat := (w + 1).toNat
def WDiv.inv9 (hi lo b : List Int) (w : Int) (l q r z : List Int) (i : Int) : Prop := 0 ≤ w ∧ w ≤ 3 ∧ -1 ≤ i ∧ i ≤ 63 ∧ divI hi lo b l q r z (64 * w.toNat + (i + 1).toNat)
def WDiv.mes9 (hi lo b : List Int) (w : Int) (l q r z : List Int) (i : Int) : Nat := (i + 1).toNat
def WDiv.VC : Prop := ∀ (x0 : (List Int)) (x1 : (List Int)) (x2 : (List Int)), WDiv.pre x0 x1 x2 →
 WCmp.pre x2 x0 ∧
 (((decide ((WCmp.fn x2 x0) ≤ (0 : Int))) = true →
 (Ret3 (List.replicate 4 (0 : Int)) (List.replicate 4 (0 : Int)) false (WDiv.fn x0 x1 x2))) ∧
 ((decide ((WCmp.fn x2 x0) ≤ (0 : Int))) = false →
 (WDiv.inv6 x0 x1 x2 x1 (List.replicate 4 (0 : Int)) x0 (List.replicate 4 (0 : Int)) (3 : Int) ∧
 ∀ (v4 : (List Int)) (v6 : (List Int)) (v7 : (List Int)) (v9 : (List Int)) (v10 : Int), WDiv.inv6 x0 x1 x2 v4 v6 v7 v9 v10 →
 (((decide (v10 ≥ (0 : Int))) = true →
 (WDiv.inv9 x0 x1 x2 v10 v4 v6 v7 v9 (63 : Int) ∧
 ∀ (v4_1 : (List Int)) (v6_1 : (List Int)) (v7_1 : (List Int)) (v9_1 : (List Int)) (v11 : Int), WDiv.inv9 x0 x1 x2 v10 v4_1 v6_1 v7_1 v9_1 v11 →
 (((decide (v11 ≥ (0 : Int))) = true →
 ((Ty.beq (.arr 4 (.int .u64)) v7_1 v9_1) = true → (Ty.beq (.arr 4 (.int .u64)) v7_1 v9_1) = true) ∧
 ((Ty.beq (.arr 4 (.int .u64)) v7_1 v9_1) = true → (Ty.beq (.arr 4 (.int .u64)) v7_1 v9_1) = true) ∧
 ((Ty.beq (.arr 4 (.int .u64)) v7_1 v9_1) = true → (Ty.beq (.arr 4 (.int .u64)) v7_1 v9_1) = true) ∧
 (let v37 : Bool := (bif (Ty.beq (.arr 4 (.int .u64)) v7_1 v9_1) then (Ty.beq (.arr 4 (.int .u64)) v4_1 v9_1) else false)
 ((v37 = true →
 (Ret3 v6_1 v7_1 true (WDiv.fn x0 x1 x2))) ∧
 (v37 = false →
 WDbl.pre v4_1 (0 : Int) ∧
 WDbl.pre v7_1 ((WDbl.fn v4_1 (0 : Int)).2) ∧
 (((WDbl.fn v7_1 ((WDbl.fn v4_1 (0 : Int)).2)).2 != (0 : Int)) = false → ((WDbl.fn v7_1 ((WDbl.fn v4_1 (0 : Int)).2)).2 != (0 : Int)) = false) ∧
 (((WDbl.fn v7_1 ((WDbl.fn v4_1 (0 : Int)).2)).2 != (0 : Int)) = false → ((WDbl.fn v7_1 ((WDbl.fn v4_1 (0 : Int)).2)).2 != (0 : Int)) = false) ∧
 (((WDbl.fn v7_1 ((WDbl.fn v4_1 (0 : Int)).2)).2 != (0 : Int)) = false → WCmp.pre ((WDbl.fn v7_1 ((WDbl.fn v4_1 (0 : Int)).2)).1) x2) ∧
 (((WDbl.fn v7_1 ((WDbl.fn v4_1 (0 : Int)).2)).2 != (0 : Int)) = false → ((WDbl.fn v7_1 ((WDbl.fn v4_1 (0 : Int)).2)).2 != (0 : Int)) = false) ∧
 (((WDbl.fn v7_1 ((WDbl.fn v4_1 (0 : Int)).2)).2 != (0 : Int)) = false → ((WDbl.fn v7_1 ((WDbl.fn v4_1 (0 : Int)).2)).2 != (0 : Int)) = false) ∧
 (let v56 : Bool := (bif ((WDbl.fn v7_1 ((WDbl.fn v4_1 (0 : Int)).2)).2 != (0 : Int)) then true else (decide ((WCmp.fn ((WDbl.fn v7_1 ((WDbl.fn v4_1 (0 : Int)).2)).1) x2) ≥ (0 : Int))))
 ((v56 = true →
 WSub.pre ((WDbl.fn v7_1 ((WDbl.fn v4_1 (0 : Int)).2)).1) x2 ∧
 (let v61 : (List Int) := (WSub.fn ((WDbl.fn v7_1 ((WDbl.fn v4_1 (0 : Int)).2)).1) x2).1
 (let v62 : Bool := (WSub.fn ((WDbl.fn v7_1 ((WDbl.fn v4_1 (0 : Int)).2)).1) x2).2
 (0 ≤ v10 ∧ v10 < 4) ∧
 0 ≤ v11 ∧
 (let v68 : Int := (ior .u64 (v6_1.getD (Int.toNat v10) (0 : Int)) (ishl .u64 (1 : Int) v11))
 (0 ≤ v10 ∧ v10 < 4) ∧
 (WDiv.inv9 x0 x1 x2 v10 ((WDbl.fn v4_1 (0 : Int)).1) (v6_1.set (Int.toNat v10) v68) v61 v9_1 (IntKind.i64.wrap (v11 - (1 : Int))) ∧ WDiv.mes9 x0 x1 x2 v10 ((WDbl.fn v4_1 (0 : Int)).1) (v6_1.set (Int.toNat v10) v68) v61 v9_1 (IntKind.i64.wrap (v11 - (1 : Int))) < WDiv.mes9 x0 x1 x2 v10 v4_1 v6_1 v7_1 v9_1 v11))))) ∧
 (v56 = false →
 (WDiv.inv9 x0 x1 x2 v10 ((WDbl.fn v4_1 (0 : Int)).1) v6_1 ((WDbl.fn v7_1 ((WDbl.fn v4_1 (0 : Int)).2)).1) v9_1 (IntKind.i64.wrap (v11 - (1 : Int))) ∧ WDiv.mes9 x0 x1 x2 v10 ((WDbl.fn v4_1 (0 : Int)).1) v6_1 ((WDbl.fn v7_1 ((WDbl.fn v4_1 (0 : Int)).2)).1) v9_1 (IntKind.i64.wrap (v11 - (1 : Int))) < WDiv.mes9 x0 x1 x2 v10 v4_1 v6_1 v7_1 v9_1 v11)))))))) ∧
 ((decide (v11 ≥ (0 : Int))) = false →
 (WDiv.inv6 x0 x1 x2 v4_1 v6_1 v7_1 v9_1 (IntKind.i64.wrap (v10 - (1 : Int))) ∧ WDiv.mes6 x0 x1 x2 v4_1 v6_1 v7_1 v9_1 (IntKind.i64.wrap (v10 - (1 : Int))) < WDiv.mes6 x0 x1 x2 v4 v6 v7 v9 v10))))) ∧
 ((decide (v10 ≥ (0 : Int))) = false →
 (Ret3 v6 v7 true (WDiv.fn x0 x1 x2)))))))
theorem lo_step {l s : Nat} (hs : s < 256) : Wn 4 (2 * (l * 2 ^ (256 - (s + 1)) % Big) + 0) = Wn 4 (l * 2 ^ (256 - s)) ∧ (2 * (l * 2 ^ (256 - (s + 1)) % Big) + 0) / Big = l / 2 ^ s % 2 := by
  have e : 256 - s = (256 - (s + 1)) + 1 := by omega
  constructor
  · apply Wn_congr
    rw [e, Nat.pow_succ, ← Nat.mul_assoc]
    generalize l * 2 ^ (256 - (s + 1)) = y
    unfold Big
    omega
  · have e2 : l * 2 ^ (256 - (s + 1)) / 57896044618658097711785492504343953926634992332820282019728792003956564819968 = l / 2 ^ s := by
      rw [show (57896044618658097711785492504343953926634992332820282019728792003956564819968 : Nat) = 2 ^ 255 from rfl, show 255 = s + (256 - (s + 1)) by omega, Nat.pow_add, Nat.mul_div_mul_right _ _ (Nat.two_pow_pos _)]
    rw [← e2]
    generalize l * 2 ^ (256 - (s + 1)) = y
    unfold Big
    omega
theorem stop_here {h l b s : Nat} (hs : s ≤ 256) (hb : 0 < b) (h1 : divR (h * Big + l) b s = 0) (h2 : l * 2 ^ (256 - s) % Big = 0) : divQ (h * Big + l) b s = (h * Big + l) / b ∧ (h * Big + l) % b = 0 := by
  have e : Big = 2 ^ s * 2 ^ (256 - s) := by rw [big_pow, ← Nat.pow_add]; congr 1; omega
  rw [e, Nat.mul_mod_mul_right] at h2
  have h3 : l % 2 ^ s = 0 := by
    rcases Nat.mul_eq_zero.1 h2 with h | h
    · exact h
    · have := Nat.two_pow_pos (256 - s); omega
  have h4 : (h * Big + l) % 2 ^ s = 0 := by
    rw [e, Nat.mul_left_comm, Nat.mul_add_mod, h3]
  have h5 : h * Big + l = 2 ^ s * ((h * Big + l) / 2 ^ s) := by have := Nat.div_add_mod (h * Big + l) (2 ^ s); omega
  have h6 : (h * Big + l) / 2 ^ s = b * ((h * Big + l) / 2 ^ s / b) := by
    have := Nat.div_add_mod ((h * Big + l) / 2 ^ s) b
    unfold divR at h1
    omega
  generalize hK : (h * Big + l) / 2 ^ s / b = K at *
  unfold divQ
  rw [hK]
  rw [h6] at h5
  generalize h * Big + l = X at *
  subst h5
  rw [Nat.mul_left_comm]
  refine ⟨?_, Nat.mul_mod_right _ _⟩
  rw [Nat.mul_div_cancel_left _ hb, Nat.mul_comm]
theorem WDiv.vc : WDiv.VC := by
  rintro hi lo b ⟨⟨h, hh, rfl⟩, ⟨l, hl, rfl⟩, ⟨b, hb, rfl⟩⟩
  have hin : ∀ lw q r z s, divI (Wn 4 h) (Wn 4 l) (Wn 4 b) lw q r z s ↔ h < b ∧ z = Z4 ∧ s ≤ 256 ∧ lw = Wn 4 (l * 2 ^ (256 - s)) ∧ q = Wn 4 (divQ (h * Big + l) b s) ∧ r = Wn 4 (divR (h * Big + l) b s) := by
    intro lw q r z s; simp only [divI, N4_W4 hh, N4_W4 hl, N4_W4 hb]
  simp only [WDiv.inv6, WDiv.inv9, hin]
  simp only [WCmp.fn, WDiv.fn, divFn, N4_W4 hh, N4_W4 hl, N4_W4 hb, cmp_le]
  refine ⟨⟨ok4 hb, ok4 hh⟩, fun hc => ?_, fun hc => ?_⟩
  · rw [ret3, if_pos (of_decide_eq_true hc)]; rfl
  have hlt : h < b := by have := of_decide_eq_false hc; omega
  have hbp : 0 < b := by omega
  have hnb : ¬ b ≤ h := by omega
  obtain ⟨t1, t2⟩ := div_top hl hlt
  refine ⟨⟨by omega, by omega, hlt, rfl, by decide, ?_, ?_, ?_⟩, ?_⟩
  · rw [show 64 * ((3 : Int) + 1).toNat = 256 from rfl]; simp
  · rw [show 64 * ((3 : Int) + 1).toNat = 256 from rfl, t2]; rfl
  · rw [show 64 * ((3 : Int) + 1).toNat = 256 from rfl, t1]
  rintro lw q r z w ⟨k1, k2, _, rfl, _, hlw, hq, hr⟩
  refine ⟨fun hc => ?_, fun hc => ?_⟩
  · have hc : 0 ≤ w := of_decide_eq_true hc
    refine ⟨⟨hc, k2, by omega, by omega, hlt, rfl, by omega, ?_, ?_, ?_⟩, ?_⟩
    · rw [hlw]; congr 3; omega
    · rw [hq]; congr 2; omega
    · rw [hr]; congr 2; omega
    clear hlw hq hr
    rintro lw q r z i ⟨_, _, k3, k4, _, rfl, _, hlw, hq, hr⟩
    refine ⟨fun hc2 => ?_, fun hc2 => ?_⟩
    · have hc2 : 0 ≤ i := of_decide_eq_true hc2
      obtain ⟨wn, rfl⟩ := Int.eq_ofNat_of_zero_le hc
      obtain ⟨n, rfl⟩ := Int.eq_ofNat_of_zero_le hc2
      simp only [Int.toNat_natCast] at hlw hq hr
      have hs : 64 * wn + n < 256 := by omega
      generalize hsd : 64 * wn + n = s at hs
      have e1 : 64 * wn + ((n : Int) + 1).toNat = s + 1 := by omega
      rw [e1] at hlw hq hr
      have hi1 : IntKind.i64.wrap ((n : Int) - 1) = (n : Int) - 1 := i64w (by omega) (by omega)
      have hi2 : 64 * wn + ((n : Int) - 1 + 1).toNat = s := by omega
      have ht4 : (0 : Int) ≤ (wn : Int) ∧ (wn : Int) < 4 := by omega
      have hbit := div_bit (hi := h) (lo := l) hs
      obtain ⟨d1, d2⟩ := div_down (X := h * Big + l) (b := b) (s := s) hbp
      rw [hbit] at d1 d2
      have hrl : divR (h * Big + l) b (s + 1) < b := Nat.mod_lt _ hbp
      obtain ⟨l1, l2⟩ := lo_step (l := l) hs
      have hstop : divR (h * Big + l) b (s + 1) = 0 → l * 2 ^ (256 - (s + 1)) % Big = 0 → divQ (h * Big + l) b (s + 1) = (h * Big + l) / b ∧ (h * Big + l) % b = 0 := stop_here (by omega) hbp
      generalize hR : divR (h * Big + l) b (s + 1) = R at *
      generalize hQ : divQ (h * Big + l) b (s + 1) = Q at *
      subst hr hq hlw
      have hRB : R < Big := by omega
      have hmes : ∀ lw q r z lw2 q2 r2 z2 : List Int, WDiv.mes9 (Wn 4 h) (Wn 4 l) (Wn 4 b) wn lw q r z ((n : Int) - 1) < WDiv.mes9 (Wn 4 h) (Wn 4 l) (Wn 4 b) wn lw2 q2 r2 z2 n := fun lw q r z lw2 q2 r2 z2 => by simp only [WDiv.mes9]; omega
      have hn64 : n < 64 := by omega
      have hqs : (Wn 4 Q).set wn (((dig Q wn ||| 2 ^ n : Nat) : Int)) = Wn 4 (Q + 2 ^ s) := by
        have := q_set hQ.symm hs
        rw [show s / 64 = wn by omega, show s % 64 = n by omega] at this
        exact this
      have hD1 : WDbl.fn (Wn 4 (l * 2 ^ (256 - (s + 1)))) 0 = (Wn 4 (l * 2 ^ (256 - s)), ((l / 2 ^ s % 2 : Nat) : Int)) := by
        simp only [WDbl.fn, N4_W, Int.toNat_zero]
        rw [l1, l2]
      have ht : l / 2 ^ s % 2 < 2 := Nat.mod_lt _ (by omega)
      generalize hbt : l / 2 ^ s % 2 = t at *
      have hD2 : WDbl.fn (Wn 4 R) ((t : Nat) : Int) = (Wn 4 (2 * R + t), (((2 * R + t) / Big : Nat) : Int)) := by simp only [WDbl.fn, N4_W4 hRB, Int.toNat_natCast]
      have hov : ((((2 * R + t) / Big : Nat) : Int) != 0) = decide (Big ≤ 2 * R + t) := by
        rw [Bool.eq_iff_iff]
        simp only [bne_iff_ne, ne_eq, decide_eq_true_eq]
        unfold Big at *
        omega
      simp only [hi1, hi2, Int.toNat_natCast, Wn_getD Q (show wn < 4 by omega), shl1 hn64, or64 (dig_lt _ _) (pow_lt64 hn64), hqs, hD1, hD2, hov]
      have hz1 : Ty.beq (.arr 4 (.int .u64)) (Wn 4 R) Z4 = decide (R = 0) := by rw [show Z4 = List.replicate 4 0 from rfl, zeq (ok4 hRB), N4_W4 hRB]
      have hz2 : Ty.beq (.arr 4 (.int .u64)) (Wn 4 (l * 2 ^ (256 - (s + 1)))) Z4 = decide (l * 2 ^ (256 - (s + 1)) % Big = 0) := by rw [show Z4 = List.replicate 4 0 from rfl, zeq (ok4' _), N4_W]
      rw [hz1, hz2]
      refine ⟨fun h => h, fun h => h, fun h => h, fun hstp => ?_, fun hstp => ?_⟩
      · have hstp2 : R = 0 ∧ l * 2 ^ (256 - (s + 1)) % Big = 0 := by
          by_cases hR0 : R = 0
          · refine ⟨hR0, ?_⟩
            rw [decide_eq_true hR0] at hstp
            exact of_decide_eq_true hstp
          · rw [decide_eq_false hR0] at hstp
            cases hstp
        obtain ⟨g1, g2⟩ := hstop hstp2.1 hstp2.2
        rw [ret3, if_neg hnb, g1, g2, hstp2.1]
      · have key : (bif decide (Big ≤ 2 * R + t) then true else decide (cmpN (N4 (Wn 4 (2 * R + t))) b ≥ 0)) = decide (b ≤ 2 * R + t) := by
          rw [cmp_ge, N4_W]
          by_cases hB : Big ≤ 2 * R + t
          · have : b ≤ 2 * R + t := by omega
            simp [hB, this]
          · rw [Nat.mod_eq_of_lt (by omega)]
            simp [hB]
        rw [key]
        refine ⟨⟨ok4' _, by omega, by omega⟩, ⟨ok4 hRB, by omega, by omega⟩, fun h => h, fun h => h, fun _ => ⟨ok4' _, ok4 hb⟩, fun h => h, fun h => h, fun hge => ?_, fun hge => ?_⟩
        · have hge : b ≤ 2 * R + t := of_decide_eq_true hge
          rw [if_pos hge] at d1 d2
          refine ⟨⟨ok4' _, ok4 hb⟩, ht4, by omega, ht4, ⟨by omega, by omega, by omega, by omega, hlt, trivial, by omega, trivial, by rw [d2], ?_⟩, hmes _ _ _ _ _ _ _ _⟩
          simp only [WSub.fn, N4_W, N4_W4 hb]
          rw [sub_big hb hrl (by omega) hge, d1]
        · have hge : ¬ b ≤ 2 * R + t := of_decide_eq_false hge
          rw [if_neg hge] at d1 d2
          exact ⟨⟨by omega, by omega, by omega, by omega, hlt, trivial, by omega, trivial, by rw [d2], by rw [d1]⟩, hmes _ _ _ _ _ _ _ _⟩
    · have hc2 : ¬ 0 ≤ i := of_decide_eq_false hc2
      rw [i64w (by omega) (by omega)]
      have e : 64 * (w - 1 + 1).toNat = 64 * w.toNat + (i + 1).toNat := by omega
      rw [e]
      exact ⟨⟨by omega, by omega, hlt, rfl, by omega, hlw, hq, hr⟩, by simp only [WDiv.mes6]; omega⟩
  · have hc : ¬ 0 ≤ w := of_decide_eq_false hc
    have e : 64 * (w + 1).toNat = 0 := by omega
    rw [e, (div_zero_s _ _).2] at hq
    rw [e, (div_zero_s _ _).1] at hr
    rw [ret3, if_neg hnb, hq, hr]
end Lc
