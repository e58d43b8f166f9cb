/- Headers: their bytes and digests, and digests as numbers. -/
import Derived.Test.YtpbfmmnncbbhdabGreatDoorShaB
import Derived.Test.YtpbfmmnncbbhdabGreatDoorRetarget
set_option linter.unusedVariables false
set_option maxRecDepth 100000
namespace Lc
open Go

def HOk (h : List Int) : Prop := h.length = 32 ∧ Bytes h
theorem HOk.zero : HOk (List.replicate 32 0) := ⟨by simp, Bytes.zeros 32⟩
theorem U32.zero : U32 0 := ⟨by omega, by omega⟩
def HdrOk (h : Hdr) : Prop := U32 h.1 ∧ HOk h.2.1 ∧ HOk h.2.2.1 ∧ U32 h.2.2.2.1 ∧ U32 h.2.2.2.2.1 ∧ U32 h.2.2.2.2.2.1

/-! ## Digests as numbers -/
def beN (l : List Int) : Nat := l.foldl (fun a b => 256 * a + b.toNat) 0
theorem beN_snoc (l : List Int) (x : Int) : beN (l ++ [x]) = 256 * beN l + x.toNat := by simp [beN, List.foldl_append]
theorem beN_lt : ∀ (n : Nat) (l : List Int), l.length = n → Bytes l → beN l < 256 ^ n := by
  intro n
  induction n with
  | zero => intro l h _; rw [List.eq_nil_of_length_eq_zero h]; decide
  | succ n ih =>
    intro l h hb
    have hne : l ≠ [] := by intro e; subst e; simp at h
    have e := List.dropLast_concat_getLast hne
    rw [← e, beN_snoc, Nat.pow_succ]
    have h1 := ih l.dropLast (by rw [List.length_dropLast]; omega) (fun x hx => hb x (List.dropLast_subset l hx))
    have h2 := hb (l.getLast hne) (List.getLast_mem hne)
    omega
/-- The bytes of word w that lie ahead of place i. -/
def wpart (h : List Int) (i w : Nat) : List Int := (h.drop (8 * (3 - w))).take (min 8 (i - 8 * (3 - w)))
def beWords (h : List Int) : List Int := (List.range 4).map (fun w => ((beN (wpart h 32 w) : Nat) : Int))
theorem wpart_len {h : List Int} (hl : h.length = 32) (i : Nat) {w : Nat} (hw : w < 4) : (wpart h i w).length = min 8 (i - 8 * (3 - w)) := by
  simp only [wpart, List.length_take, List.length_drop]; omega
theorem wpart_bytes {h : List Int} (hb : Bytes h) (i w : Nat) : Bytes (wpart h i w) := (hb.drop _).take _
theorem wpart_step {h : List Int} (hl : h.length = 32) {i : Nat} (hi : i < 32) : wpart h (i + 1) (3 - i / 8) = wpart h i (3 - i / 8) ++ [h.getD i 0] := by
  unfold wpart
  have e1 : 8 * (3 - (3 - i / 8)) = 8 * (i / 8) := by omega
  rw [e1, show min 8 (i + 1 - 8 * (i / 8)) = i % 8 + 1 by omega, show min 8 (i - 8 * (i / 8)) = i % 8 by omega, List.take_add_one]
  congr 1
  rw [List.getElem?_drop, show 8 * (i / 8) + i % 8 = i by omega, List.getD_eq_getElem?_getD, List.getElem?_eq_getElem (by omega)]
  rfl
theorem wpart_other {h : List Int} {i w : Nat} (hi : i < 32) (hw : w < 4) (hne : w ≠ 3 - i / 8) : wpart h (i + 1) w = wpart h i w := by
  unfold wpart
  congr 1
  omega
theorem beWords_ok {h : List Int} (hh : HOk h) : Ok4 (beWords h) := by
  refine Ok4.of (by simp [beWords]) (fun x hx => ?_)
  simp only [beWords, List.mem_map, List.mem_range] at hx
  obtain ⟨w, hw, rfl⟩ := hx
  have := beN_lt _ _ (wpart_len hh.1 32 hw) (wpart_bytes hh.2 32 w)
  have h8 : min 8 (32 - 8 * (3 - w)) = 8 := by omega
  rw [h8] at this
  omega
theorem map4_getD {f : Nat → Nat} {w : Nat} (hw : w < 4) : ((List.range 4).map (fun w => ((f w : Nat) : Int))).getD w 0 = ((f w : Nat) : Int) := by
  simp [List.getD_eq_getElem?_getD, hw]
theorem map4_set {f g : Nat → Nat} {w : Nat} {x : Int} (hw : w < 4) (hx : x = ((g w : Nat) : Int)) (ho : ∀ j, j < 4 → j ≠ w → g j = f j) :
    ((List.range 4).map (fun w => ((f w : Nat) : Int))).set w x = (List.range 4).map (fun w => ((g w : Nat) : Int)) := by
  apply ext_getD (by simp)
  intro i hi
  have hi : i < 4 := by simpa using hi
  rw [lget_set, map4_getD hi, map4_getD hi]
  by_cases h : w = i
  · subst h; rw [if_pos ⟨rfl, by simpa using hi⟩, hx]
  · rw [if_neg (fun h2 => h h2.1), ho i hi (fun e => h e.symm)]

def WBytes.pre (h : List Int) : Prop := HOk h
def WBytes.fn (h : List Int) : List Int := beWords h
def WBytes.inv3 (h v2 v3 : List Int) (i : Int) : Prop := 0 ≤ i ∧ i ≤ 32 ∧ v3 = (List.range 4).map (fun w => ((beN (wpart h i.toNat w) : Nat) : Int))
def WBytes.mes3 (h v2 v3 : List Int) (i : Int) : Nat := (32 - i).toNat
def WBytes.VC : Prop := ∀ (x0 : (List Int)), WBytes.pre x0 →
 (WBytes.inv3 x0 (List.replicate 4 (0 : Int)) (List.replicate 4 (0 : Int)) (0 : Int) ∧
 ∀ (v2 : (List Int)) (v3 : (List Int)) (v8 : Int), WBytes.inv3 x0 v2 v3 v8 →
 (((decide (v8 < (32 : Int))) = true →
 (0 ≤ v8 ∧ v8 < 32) ∧
 (8 : Int) ≠ 0 ∧
 (let v14 : Int := (IntKind.i64.wrap ((3 : Int) - (IntKind.i64.wrap (Int.tdiv v8 (8 : Int)))))
 (0 ≤ v14 ∧ v14 < 4) ∧
 0 ≤ (8 : Int) ∧
 (let v22 : Int := (ior .u64 (ishl .u64 (v3.getD (Int.toNat v14) (0 : Int)) (8 : Int)) (IntKind.u64.wrap (x0.getD (Int.toNat v8) (0 : Int))))
 (0 ≤ v14 ∧ v14 < 4) ∧
 (WBytes.inv3 x0 v2 (v3.set (Int.toNat v14) v22) (IntKind.i64.wrap (v8 + (1 : Int))) ∧ WBytes.mes3 x0 v2 (v3.set (Int.toNat v14) v22) (IntKind.i64.wrap (v8 + (1 : Int))) < WBytes.mes3 x0 v2 v3 v8)))) ∧
 ((decide (v8 < (32 : Int))) = false →
 (Ret1 v3 (WBytes.fn x0)))))
theorem words_start (h : List Int) : List.replicate 4 (0 : Int) = (List.range 4).map (fun w => ((beN (wpart h 0 w) : Nat) : Int)) := by
  have : ∀ w, beN (wpart h 0 w) = 0 := fun w => by simp [wpart, beN]
  simp [this]; rfl
theorem WBytes.vc : WBytes.VC := by
  intro h hh
  refine ⟨⟨by omega, by omega, words_start h⟩, ?_⟩
  rintro v2 v3 i ⟨k1, k2, rfl⟩
  refine ⟨fun hc => ?_, fun hc => ?_⟩
  · have hc : i < 32 := of_decide_eq_true hc
    obtain ⟨n, rfl⟩ := Int.eq_ofNat_of_zero_le k1
    have hn : n < 32 := by omega
    have e1 : Int.tdiv (n : Int) 8 = ((n / 8 : Nat) : Int) := by rw [Int.tdiv_eq_ediv_of_nonneg (by omega)]; omega
    have e2 : IntKind.i64.wrap ((n / 8 : Nat) : Int) = ((n / 8 : Nat) : Int) := i64w (by omega) (by omega)
    have e3 : IntKind.i64.wrap (3 - ((n / 8 : Nat) : Int)) = ((3 - n / 8 : Nat) : Int) := by rw [i64w (by omega) (by omega)]; omega
    have e4 : IntKind.i64.wrap ((n : Int) + 1) = ((n + 1 : Nat) : Int) := by rw [i64w (by omega) (by omega)]; omega
    simp only [e1, e2, e3, e4, Int.toNat_natCast, map4_getD (f := fun w => beN (wpart h n w)) (show 3 - n / 8 < 4 by omega)]
    have hb := hh.2.getD n
    have hlt := beN_lt _ _ (wpart_len hh.1 n (show 3 - n / 8 < 4 by omega)) (wpart_bytes hh.2 n (3 - n / 8))
    have h7 : min 8 (n - 8 * (3 - (3 - n / 8))) ≤ 7 := by omega
    have hlt2 : beN (wpart h n (3 - n / 8)) < 72057594037927936 := Nat.lt_of_lt_of_le hlt (by
      have := Nat.pow_le_pow_right (show 0 < 256 by omega) h7
      exact this)
    obtain ⟨x, hx⟩ := Int.eq_ofNat_of_zero_le hb.1
    have hor : ior .u64 (ishl .u64 ((beN (wpart h n (3 - n / 8)) : Nat) : Int) 8) (IntKind.u64.wrap (h.getD n 0)) = ((beN (wpart h (n + 1) (3 - n / 8)) : Nat) : Int) := by
      rw [wpart_step hh.1 hn, beN_snoc, hx, u64w (by omega) (by omega)]
      have s8 : ishl .u64 ((beN (wpart h n (3 - n / 8)) : Nat) : Int) 8 = ((beN (wpart h n (3 - n / 8)) * 2 ^ 8 % 18446744073709551616 : Nat) : Int) := shl64 (k := 8) (by omega)
      rw [s8, Nat.mod_eq_of_lt (by omega), or64 (by omega) (by omega), Int.toNat_natCast, Nat.mul_comm _ (2 ^ 8), ← Nat.two_pow_add_eq_or_of_lt (by omega)]
    rw [hor]
    refine ⟨by omega, by omega, by omega, by omega, by omega, ⟨by omega, by omega, ?_⟩, by simp only [WBytes.mes3]; omega⟩
    rw [Int.toNat_natCast]
    exact map4_set (f := fun w => beN (wpart h n w)) (g := fun w => beN (wpart h (n + 1) w)) (by omega) rfl (fun j hj hne => by rw [wpart_other hn hj hne])
  · have hc : ¬ i < 32 := of_decide_eq_false hc
    rw [ret1, show i.toNat = 32 by omega]; rfl

def QBytes.pre (h : List Int) : Prop := HOk h
def QBytes.fn (h : List Int) : List Int := beWords h
def qword (h : List Int) (i w : Nat) : Nat := beN (wpart h i w) * 2 ^ (8 * (8 - min 8 (i - 8 * (3 - w))))
def QBytes.inv3 (h v2 v3 : List Int) (i : Int) : Prop := 0 ≤ i ∧ i ≤ 32 ∧ v3 = (List.range 4).map (fun w => ((qword h i.toNat w : Nat) : Int))
def QBytes.mes3 (h v2 v3 : List Int) (i : Int) : Nat := (32 - i).toNat
def QBytes.VC : Prop := ∀ (x0 : (List Int)), QBytes.pre x0 →
 (QBytes.inv3 x0 (List.replicate 4 (0 : Int)) (List.replicate 4 (0 : Int)) (0 : Int) ∧
 ∀ (v2 : (List Int)) (v3 : (List Int)) (v6 : Int), QBytes.inv3 x0 v2 v3 v6 →
 (((decide (v6 < (32 : Int))) = true →
 (8 : Int) ≠ 0 ∧
 (let v12 : Int := (IntKind.i64.wrap (Int.tdiv (IntKind.i64.wrap ((31 : Int) - v6)) (8 : Int)))
 (0 ≤ v12 ∧ v12 < 4) ∧
 (0 ≤ v6 ∧ v6 < 32) ∧
 (8 : Int) ≠ 0 ∧
 (let v21 : Int := (IntKind.i64.wrap ((8 : Int) * (Int.tmod (IntKind.i64.wrap ((31 : Int) - v6)) (8 : Int))))
 0 ≤ v21 ∧
 (let v22 : Int := (ishl .u64 (IntKind.u64.wrap (x0.getD (Int.toNat v6) (0 : Int))) v21)
 (0 ≤ v12 ∧ v12 < 4) ∧
 (let v3_1h : (List Int) := (v3.set (Int.toNat v12) (ior .u64 (v3.getD (Int.toNat v12) (0 : Int)) v22))
 (QBytes.inv3 x0 v2 v3_1h (IntKind.i64.wrap (v6 + (1 : Int))) ∧ QBytes.mes3 x0 v2 v3_1h (IntKind.i64.wrap (v6 + (1 : Int))) < QBytes.mes3 x0 v2 v3 v6)))))) ∧
 ((decide (v6 < (32 : Int))) = false →
 (Ret1 v3 (QBytes.fn x0)))))
theorem qword_zero (h : List Int) (w : Nat) : qword h 0 w = 0 := by simp [qword, wpart, beN]
theorem QBytes.vc : QBytes.VC := by
  intro h hh
  refine ⟨⟨by omega, by omega, by simp [qword_zero]; rfl⟩, ?_⟩
  rintro v2 v3 i ⟨k1, k2, rfl⟩
  refine ⟨fun hc => ?_, fun hc => ?_⟩
  · have hc : i < 32 := of_decide_eq_true hc
    obtain ⟨n, rfl⟩ := Int.eq_ofNat_of_zero_le k1
    have hn : n < 32 := by omega
    have e0 : IntKind.i64.wrap (31 - (n : Int)) = ((31 - n : Nat) : Int) := by rw [i64w (by omega) (by omega)]; omega
    have e1 : Int.tdiv ((31 - n : Nat) : Int) 8 = ((3 - n / 8 : Nat) : Int) := by rw [Int.tdiv_eq_ediv_of_nonneg (by omega)]; omega
    have e2 : IntKind.i64.wrap ((3 - n / 8 : Nat) : Int) = ((3 - n / 8 : Nat) : Int) := i64w (by omega) (by omega)
    have e3 : Int.tmod ((31 - n : Nat) : Int) 8 = ((7 - n % 8 : Nat) : Int) := by rw [Int.tmod_eq_emod_of_nonneg (by omega)]; omega
    have e5 : IntKind.i64.wrap (8 * ((7 - n % 8 : Nat) : Int)) = ((8 * (7 - n % 8) : Nat) : Int) := by rw [i64w (by omega) (by omega)]; omega
    have e4 : IntKind.i64.wrap ((n : Int) + 1) = ((n + 1 : Nat) : Int) := by rw [i64w (by omega) (by omega)]; omega
    simp only [e0, e1, e2, e3, e4, e5, Int.toNat_natCast, map4_getD (f := fun w => qword h n w) (show 3 - n / 8 < 4 by omega)]
    have hb := hh.2.getD n
    have hlt := beN_lt _ _ (wpart_len hh.1 n (show 3 - n / 8 < 4 by omega)) (wpart_bytes hh.2 n (3 - n / 8))
    have hmin : min 8 (n - 8 * (3 - (3 - n / 8))) = n % 8 := by omega
    have hmin2 : min 8 (n + 1 - 8 * (3 - (3 - n / 8))) = n % 8 + 1 := by omega
    rw [hmin] at hlt
    obtain ⟨x, hx⟩ := Int.eq_ofNat_of_zero_le hb.1
    have hr : n % 8 < 8 := Nat.mod_lt _ (by omega)
    have hor : ior .u64 ((qword h n (3 - n / 8) : Nat) : Int) (ishl .u64 (IntKind.u64.wrap (h.getD n 0)) ((8 * (7 - n % 8) : Nat) : Int)) = ((qword h (n + 1) (3 - n / 8) : Nat) : Int) := by
      unfold qword
      rw [wpart_step hh.1 hn, beN_snoc, hx, u64w (by omega) (by omega), hmin, hmin2, Int.toNat_natCast, shl64 (by omega)]
      generalize hB : beN (wpart h n (3 - n / 8)) = B at *
      generalize n % 8 = r at *
      have hx256 : x < 256 := by omega
      have hxs : x * 2 ^ (8 * (7 - r)) < 2 ^ (8 * (8 - r)) := by
        rw [show 8 * (8 - r) = 8 + 8 * (7 - r) by omega, Nat.pow_add]
        exact Nat.mul_lt_mul_of_pos_right hx256 (Nat.two_pow_pos _)
      have hBs : B * 2 ^ (8 * (8 - r)) < 18446744073709551616 := by
        have h1 : B < 2 ^ (8 * r) := by rw [Nat.pow_mul]; exact hlt
        have h2 := Nat.mul_lt_mul_of_pos_right h1 (Nat.two_pow_pos (8 * (8 - r)))
        rw [← Nat.pow_add, show 8 * r + 8 * (8 - r) = 64 by omega] at h2
        exact h2
      have hx64 : x * 2 ^ (8 * (7 - r)) < 18446744073709551616 := by
        refine Nat.lt_of_lt_of_le hxs ?_
        exact Nat.pow_le_pow_right (by omega) (show 8 * (8 - r) ≤ 64 by omega)
      rw [Nat.mod_eq_of_lt hx64, or64 hBs hx64, Nat.mul_comm B, ← Nat.two_pow_add_eq_or_of_lt hxs]
      congr 1
      rw [show 8 - (r + 1) = 7 - r by omega, show 8 * (8 - r) = 8 + 8 * (7 - r) by omega, Nat.pow_add, Nat.add_mul, show (2 : Nat) ^ 8 = 256 from rfl]
      rw [Nat.mul_assoc, Nat.mul_comm (2 ^ (8 * (7 - r))) B, ← Nat.mul_assoc]
    rw [hor]
    refine ⟨by omega, by omega, by omega, by omega, by omega, by omega, ⟨by omega, by omega, ?_⟩, by simp only [QBytes.mes3]; omega⟩
    rw [Int.toNat_natCast]
    refine map4_set (f := fun w => qword h n w) (g := fun w => qword h (n + 1) w) (by omega) rfl (fun j hj hne => ?_)
    simp only [qword]
    rw [wpart_other hn hj hne]
    congr 2
    omega
  · have hc : ¬ i < 32 := of_decide_eq_false hc
    rw [ret1, show i.toNat = 32 by omega, QBytes.fn, beWords]
    apply List.map_congr_left
    intro w hw
    have hw : w < 4 := by simpa using hw
    simp only [qword]
    rw [show min 8 (32 - 8 * (3 - w)) = 8 by omega]; simp

def meetsFn (h : List Int) (bits : Int) : Bool := decide (expandN bits.toNat ≠ 0) && decide (N4 (beWords h) ≤ expandN bits.toNat)
def TMeets.pre (h : List Int) (bits : Int) : Prop := HOk h ∧ U32 bits
def TMeets.fn (h : List Int) (bits : Int) : Bool := meetsFn h bits
def TMeets.VC : Prop := ∀ (x0 : (List Int)) (x1 : Int), TMeets.pre x0 x1 →
 TExpand.pre x1 ∧
 (((TExpand.fn x1).2 == (0 : Int)) = true → ((TExpand.fn x1).2 == (0 : Int)) = true) ∧
 (((TExpand.fn x1).2 == (0 : Int)) = true → WBytes.pre x0) ∧
 (((TExpand.fn x1).2 == (0 : Int)) = true → ((TExpand.fn x1).2 == (0 : Int)) = true) ∧
 (((TExpand.fn x1).2 == (0 : Int)) = true → ((TExpand.fn x1).2 == (0 : Int)) = true) ∧
 (((TExpand.fn x1).2 == (0 : Int)) = true → WCmp.pre (WBytes.fn x0) ((TExpand.fn x1).1)) ∧
 (((TExpand.fn x1).2 == (0 : Int)) = true → ((TExpand.fn x1).2 == (0 : Int)) = true) ∧
 (((TExpand.fn x1).2 == (0 : Int)) = true → ((TExpand.fn x1).2 == (0 : Int)) = true) ∧
 (let v20 : Bool := (bif ((TExpand.fn x1).2 == (0 : Int)) then (decide ((WCmp.fn (WBytes.fn x0) ((TExpand.fn x1).1)) ≤ (0 : Int))) else false)
 (Ret1 v20 (TMeets.fn x0 x1)))
theorem TMeets.vc : TMeets.VC := by
  intro h bits ⟨h1, h2⟩
  obtain ⟨q1, q2⟩ := expand1 h2
  simp only [imp_self, true_and, TExpand.fn, WCmp.fn, WBytes.fn, expand2, Bool.cond_false_right, q2, cmp_le]
  exact ⟨h2, fun _ => h1, fun _ => ⟨beWords_ok h1, q1⟩, ret1.2 rfl⟩
def QMeets.pre (h : List Int) (bits : Int) : Prop := HOk h ∧ U32 bits
def QMeets.fn (h : List Int) (bits : Int) : Bool := meetsFn h bits
def QMeets.VC : Prop := ∀ (x0 : (List Int)) (x1 : Int), QMeets.pre x0 x1 →
 QExpand.pre x1 ∧
 (((QExpand.fn x1).2 == (0 : Int)) = true → ((QExpand.fn x1).2 == (0 : Int)) = true) ∧
 (((QExpand.fn x1).2 == (0 : Int)) = true → QBytes.pre x0) ∧
 (((QExpand.fn x1).2 == (0 : Int)) = true → ((QExpand.fn x1).2 == (0 : Int)) = true) ∧
 (((QExpand.fn x1).2 == (0 : Int)) = true → ((QExpand.fn x1).2 == (0 : Int)) = true) ∧
 (((QExpand.fn x1).2 == (0 : Int)) = true → QCmp.pre (QBytes.fn x0) ((QExpand.fn x1).1)) ∧
 (((QExpand.fn x1).2 == (0 : Int)) = true → ((QExpand.fn x1).2 == (0 : Int)) = true) ∧
 (((QExpand.fn x1).2 == (0 : Int)) = true → ((QExpand.fn x1).2 == (0 : Int)) = true) ∧
 (let v20 : Bool := (bif ((QExpand.fn x1).2 == (0 : Int)) then (decide ((QCmp.fn (QBytes.fn x0) ((QExpand.fn x1).1)) ≤ (0 : Int))) else false)
 (Ret1 v20 (QMeets.fn x0 x1)))
theorem QMeets.vc : QMeets.VC := by
  intro h bits ⟨h1, h2⟩
  obtain ⟨q1, q2⟩ := expand1 h2
  simp only [imp_self, true_and, QExpand.fn, QCmp.fn, QBytes.fn, expand2, Bool.cond_false_right, q2, cmp_le]
  exact ⟨h2, fun _ => h1, fun _ => ⟨beWords_ok h1, q1⟩, ret1.2 rfl⟩

/-! ## Bytes -/
def CExt.pre (a b : List Int) : Prop := a.length + b.length ≤ 500000000
def CExt.fn (a b : List Int) : List Int := a ++ b
def CExt.VC : Prop := ∀ (x0 : (List Int)) (x1 : (List Int)), CExt.pre x0 x1 →
 (0 ≤ (0 : Int) ∧ (0 : Int) ≤ (IntKind.i64.wrap ((x0.length : Int) + (x1.length : Int)))) ∧
 Room ((IntKind.i64.wrap ((x0.length : Int) + (x1.length : Int)))).toNat 1 ∧
 Room ((List.replicate ((0 : Int)).toNat (0 : Int)).length + x0.length) 1 ∧
 Room (((List.replicate ((0 : Int)).toNat (0 : Int)) ++ x0).length + x1.length) 1 ∧
 (Ret1 (((List.replicate ((0 : Int)).toNat (0 : Int)) ++ x0) ++ x1) (CExt.fn x0 x1))
theorem CExt.vc : CExt.VC := by
  intro a b h
  have h : a.length + b.length ≤ 500000000 := h
  rw [i64w (by omega) (by omega)]
  refine ⟨by omega, room_of (by omega) (by omega), room_of (by simp; omega) (by omega), room_of (by simp; omega) (by omega), ?_⟩
  simp [Ret1, CExt.fn]
def Joined.pre (a b : List Int) : Prop := a.length + b.length ≤ 500000000
def Joined.fn (a b : List Int) : List Int := a ++ b
def Joined.VC : Prop := ∀ (x0 : (List Int)) (x1 : (List Int)), Joined.pre x0 x1 →
 (0 ≤ (0 : Int) ∧ (0 : Int) ≤ (IntKind.i64.wrap ((x0.length : Int) + (x1.length : Int)))) ∧
 Room ((IntKind.i64.wrap ((x0.length : Int) + (x1.length : Int)))).toNat 1 ∧
 Room ((List.replicate ((0 : Int)).toNat (0 : Int)).length + x0.length) 1 ∧
 Room (((List.replicate ((0 : Int)).toNat (0 : Int)) ++ x0).length + x1.length) 1 ∧
 (Ret1 (((List.replicate ((0 : Int)).toNat (0 : Int)) ++ x0) ++ x1) (Joined.fn x0 x1))
theorem Joined.vc : Joined.VC := CExt.vc
def lows (n k : Nat) : List Int := (List.range k).map (fun i => ((n / 2 ^ (8 * i) % 256 : Nat) : Int))
theorem lows_len (n k : Nat) : (lows n k).length = k := by simp [lows]
theorem lows_get (n : Nat) {k i : Nat} (h : i < k) : (lows n k).getD i 0 = ((n / 2 ^ (8 * i) % 256 : Nat) : Int) := by simp [lows, List.getD_eq_getElem?_getD, h]
theorem lows_bytes (n k : Nat) : Bytes (lows n k) := by
  intro x hx
  simp only [lows, List.mem_map] at hx
  obtain ⟨i, _, rfl⟩ := hx
  omega
def CLow.pre (n k : Int) : Prop := W64 n ∧ 0 ≤ k ∧ k ≤ 8
def CLow.fn (n k : Int) : List Int := lows n.toNat k.toNat
def CLow.inv3 (n k : Int) (v : List Int) (i : Int) : Prop := 0 ≤ i ∧ i ≤ k ∧ v = mix (lows n.toNat k.toNat) (List.replicate k.toNat 0) i.toNat
def CLow.mes3 (n k : Int) (v : List Int) (i : Int) : Nat := (k - i).toNat
def CLow.VC : Prop := ∀ (x0 : Int) (x1 : Int), CLow.pre x0 x1 →
 (0 ≤ x1 ∧ x1 ≤ x1) ∧
 Room (x1).toNat 1 ∧
 (CLow.inv3 x0 x1 (List.replicate (x1).toNat (0 : Int)) (0 : Int) ∧
 ∀ (v5 : (List Int)) (v10 : Int), CLow.inv3 x0 x1 v5 v10 →
 (((decide (v10 < x1)) = true →
 0 ≤ (IntKind.i64.wrap ((8 : Int) * v10)) ∧
 (let v19 : Int := (IntKind.u8.wrap (ishr .u64 x0 (IntKind.i64.wrap ((8 : Int) * v10))))
 (0 ≤ v10 ∧ v10 < (v5.length : Int)) ∧
 (CLow.inv3 x0 x1 (v5.set (Int.toNat v10) v19) (IntKind.i64.wrap (v10 + (1 : Int))) ∧ CLow.mes3 x0 x1 (v5.set (Int.toNat v10) v19) (IntKind.i64.wrap (v10 + (1 : Int))) < CLow.mes3 x0 x1 v5 v10))) ∧
 ((decide (v10 < x1)) = false →
 (Ret1 v5 (CLow.fn x0 x1)))))
theorem low_step {n k : Int} (hn : W64 n) (hk : 0 ≤ k ∧ k ≤ 8) {i : Int} (hi : 0 ≤ i) (hik : i < k) :
    0 ≤ IntKind.i64.wrap (8 * i) ∧ (mix (lows n.toNat k.toNat) (List.replicate k.toNat 0) i.toNat).set i.toNat (IntKind.u8.wrap (ishr .u64 n (IntKind.i64.wrap (8 * i)))) = mix (lows n.toNat k.toNat) (List.replicate k.toNat 0) (i + 1).toNat ∧
    (mix (lows n.toNat k.toNat) (List.replicate k.toNat 0) i.toNat).length = k.toNat := by
  obtain ⟨m, hm, rfl⟩ := W64.nat hn
  have hl : (lows m k.toNat).length = (List.replicate k.toNat (0 : Int)).length := by rw [lows_len, List.length_replicate]
  have e1 : IntKind.i64.wrap (8 * i) = ((8 * i.toNat : Nat) : Int) := by rw [i64w (by omega) (by omega)]; omega
  rw [e1]
  refine ⟨by omega, ?_, by rw [Int.toNat_natCast, mix_len hl, lows_len]⟩
  rw [shr64 (by omega), Int.toNat_natCast, mix_set hl (by rw [lows_len]; omega), show (i + 1).toNat = i.toNat + 1 by omega]
  rw [lows_get m (by omega), u8m]
  omega
theorem CLow.vc : CLow.VC := by
  intro n k ⟨hn, hk0, hk8⟩
  refine ⟨⟨hk0, by omega⟩, room_of (by omega) (by omega), ⟨by omega, hk0, by rw [Int.toNat_zero, mix_zero]⟩, ?_⟩
  rintro v i ⟨k1, k2, rfl⟩
  refine ⟨fun hc => ?_, fun hc => ?_⟩
  · have hc : i < k := of_decide_eq_true hc
    obtain ⟨s1, s2, s3⟩ := low_step hn ⟨hk0, hk8⟩ k1 hc
    simp only [s2, s3, i64w (n := i + 1) (by omega) (by omega)]
    exact ⟨s1, ⟨k1, by omega⟩, ⟨by omega, by omega, rfl⟩, by simp only [CLow.mes3]; omega⟩
  · have hc : ¬ i < k := of_decide_eq_false hc
    rw [ret1, show i.toNat = k.toNat by omega, mix_all (by rw [lows_len]; omega) (by rw [List.length_replicate]; omega)]; rfl
def RLit.pre (n k : Int) : Prop := W64 n ∧ 0 ≤ k ∧ k ≤ 8
def RLit.fn (n k : Int) : List Int := lows n.toNat k.toNat
def RLit.inv3 (n k : Int) (v : List Int) (i : Int) : Prop := 0 ≤ i ∧ i ≤ k ∧ v = mix (lows n.toNat k.toNat) (List.replicate k.toNat 0) i.toNat
def RLit.mes3 (n k : Int) (v : List Int) (i : Int) : Nat := (k - i).toNat
def RLit.VC : Prop := ∀ (x0 : Int) (x1 : Int), RLit.pre x0 x1 →
 (0 ≤ x1 ∧ x1 ≤ x1) ∧
 Room (x1).toNat 1 ∧
 (RLit.inv3 x0 x1 (List.replicate (x1).toNat (0 : Int)) (0 : Int) ∧
 ∀ (v5 : (List Int)) (v11 : Int), RLit.inv3 x0 x1 v5 v11 →
 (let v12 : Bool := (decide (v11 < ((List.replicate (x1).toNat (0 : Int)).length : Int)))
 ((v12 = true →
 0 ≤ (IntKind.i64.wrap ((8 : Int) * v11)) ∧
 (let v20 : Int := (IntKind.u8.wrap (ishr .u64 x0 (IntKind.i64.wrap ((8 : Int) * v11))))
 (0 ≤ v11 ∧ v11 < (v5.length : Int)) ∧
 (RLit.inv3 x0 x1 (v5.set (Int.toNat v11) v20) (IntKind.i64.wrap (v11 + (1 : Int))) ∧ RLit.mes3 x0 x1 (v5.set (Int.toNat v11) v20) (IntKind.i64.wrap (v11 + (1 : Int))) < RLit.mes3 x0 x1 v5 v11))) ∧
 (v12 = false →
 (Ret1 v5 (RLit.fn x0 x1))))))
theorem RLit.vc : RLit.VC := by
  intro n k ⟨hn, hk0, hk8⟩
  simp only [List.length_replicate]
  refine ⟨⟨hk0, by omega⟩, room_of (by omega) (by omega), ⟨by omega, hk0, by rw [Int.toNat_zero, mix_zero]⟩, ?_⟩
  rintro v i ⟨k1, k2, rfl⟩
  refine ⟨fun hc => ?_, fun hc => ?_⟩
  · have hc := of_decide_eq_true hc
    have hc : i < k := by omega
    obtain ⟨s1, s2, s3⟩ := low_step hn ⟨hk0, hk8⟩ k1 hc
    simp only [s2, s3, i64w (n := i + 1) (by omega) (by omega)]
    exact ⟨s1, ⟨k1, by omega⟩, ⟨by omega, by omega, rfl⟩, by simp only [RLit.mes3]; omega⟩
  · have hc := of_decide_eq_false hc
    rw [ret1, show i.toNat = k.toNat by omega, mix_all (by rw [lows_len]; omega) (by rw [List.length_replicate]; omega)]; rfl
def le4 (x : Int) : List Int := lows x.toNat 4
theorem le4_len (x : Int) : (le4 x).length = 4 := lows_len _ _
theorem le4_bytes (x : Int) : Bytes (le4 x) := lows_bytes _ _
def CU32.pre (b : List Int) (n : Int) : Prop := b.length ≤ 400000000 ∧ U32 n
def CU32.fn (b : List Int) (n : Int) : List Int := b ++ le4 n
def CU32.VC : Prop := ∀ (x0 : (List Int)) (x1 : Int), CU32.pre x0 x1 →
 CLow.pre (IntKind.u64.wrap x1) (4 : Int) ∧
 CExt.pre x0 (CLow.fn (IntKind.u64.wrap x1) (4 : Int)) ∧
 (Ret1 (CExt.fn x0 (CLow.fn (IntKind.u64.wrap x1) (4 : Int))) (CU32.fn x0 x1))
theorem CU32.vc : CU32.VC := by
  intro b n ⟨h1, h2⟩
  have e : IntKind.u64.wrap n = n := u64w h2.1 (by have := h2.2; omega)
  rw [e]
  have hl : (CLow.fn n 4).length = 4 := lows_len _ _
  exact ⟨⟨⟨h2.1, by have := h2.2; omega⟩, by omega, by omega⟩, by show _ + _ ≤ _; omega, rfl⟩
def RU32.pre (b : List Int) (n : Int) : Prop := b.length ≤ 400000000 ∧ U32 n
def RU32.fn (b : List Int) (n : Int) : List Int := b ++ le4 n
def RU32.VC : Prop := ∀ (x0 : (List Int)) (x1 : Int), RU32.pre x0 x1 →
 RLit.pre (IntKind.u64.wrap x1) (4 : Int) ∧
 Joined.pre x0 (RLit.fn (IntKind.u64.wrap x1) (4 : Int)) ∧
 (Ret1 (Joined.fn x0 (RLit.fn (IntKind.u64.wrap x1) (4 : Int))) (RU32.fn x0 x1))
theorem RU32.vc : RU32.VC := by
  intro b n ⟨h1, h2⟩
  have e : IntKind.u64.wrap n = n := u64w h2.1 (by have := h2.2; omega)
  rw [e]
  have hl : (RLit.fn n 4).length = 4 := lows_len _ _
  exact ⟨⟨⟨h2.1, by have := h2.2; omega⟩, by omega, by omega⟩, by show _ + _ ≤ _; omega, rfl⟩
def CHash.pre (b h : List Int) : Prop := b.length ≤ 400000000 ∧ HOk h
def CHash.fn (b h : List Int) : List Int := b ++ h
def CHash.VC : Prop := ∀ (x0 : (List Int)) (x1 : (List Int)), CHash.pre x0 x1 →
 CExt.pre x0 x1 ∧
 (Ret1 (CExt.fn x0 x1) (CHash.fn x0 x1))
theorem CHash.vc : CHash.VC := by
  intro b h ⟨h1, h2⟩
  exact ⟨by have := h2.1; show _ + _ ≤ _; omega, rfl⟩
def RHash.pre (b h : List Int) : Prop := b.length ≤ 400000000 ∧ HOk h
def RHash.fn (b h : List Int) : List Int := b ++ h
def RHash.VC : Prop := ∀ (x0 : (List Int)) (x1 : (List Int)), RHash.pre x0 x1 →
 Joined.pre x0 x1 ∧
 (Ret1 (Joined.fn x0 x1) (RHash.fn x0 x1))
theorem RHash.vc : RHash.VC := by
  intro b h ⟨h1, h2⟩
  exact ⟨by have := h2.1; show _ + _ ≤ _; omega, rfl⟩

/-! ## Headers -/
def encB (h : Hdr) : List Int := le4 h.1 ++ h.2.1 ++ h.2.2.1
def encH (h : Hdr) : List Int := encB h ++ le4 h.2.2.2.1 ++ le4 h.2.2.2.2.1 ++ le4 h.2.2.2.2.2.1
theorem encB_len {h : Hdr} (hh : HdrOk h) : (encB h).length = 68 := by
  simp only [encB, List.length_append, le4_len, hh.2.1.1, hh.2.2.1.1]
theorem encH_len {h : Hdr} (hh : HdrOk h) : (encH h).length = 80 := by
  simp only [encH, List.length_append, le4_len, encB_len hh]
theorem encH_bytes {h : Hdr} (hh : HdrOk h) : Bytes (encH h) :=
  ((((le4_bytes _).append hh.2.1.2).append hh.2.2.1.2).append (le4_bytes _)).append (le4_bytes _) |>.append (le4_bytes _)
noncomputable def hashH (h : Hdr) : List Int := sum (sum (encH h))
theorem hashH_ok (h : Hdr) : HOk (hashH h) := ⟨sum_len _, sum_bytes _⟩
def BEnc.pre (h : Hdr) : Prop := HdrOk h
def BEnc.fn (h : Hdr) : List Int := encH h
def BEnc.VC : Prop := ∀ (x0 : (Int × ((List Int) × ((List Int) × (Int × (Int × (Int × Unit))))))), BEnc.pre x0 →
 CU32.pre [] x0.1 ∧
 CHash.pre (CU32.fn [] x0.1) x0.2.1 ∧
 CHash.pre (CHash.fn (CU32.fn [] x0.1) x0.2.1) x0.2.2.1 ∧
 CU32.pre (CHash.fn (CHash.fn (CU32.fn [] x0.1) x0.2.1) x0.2.2.1) x0.2.2.2.1 ∧
 (let v18h : (List Int) := (CU32.fn (CHash.fn (CHash.fn (CU32.fn [] x0.1) x0.2.1) x0.2.2.1) x0.2.2.2.1)
 CU32.pre v18h x0.2.2.2.2.1 ∧
 CU32.pre (CU32.fn v18h x0.2.2.2.2.1) x0.2.2.2.2.2.1 ∧
 (Ret1 (CU32.fn (CU32.fn v18h x0.2.2.2.2.1) x0.2.2.2.2.2.1) (BEnc.fn x0)))
theorem BEnc.vc : BEnc.VC := by
  intro h hh
  have l1 := encB_len hh
  have e0 : CU32.fn [] h.1 = le4 h.1 := rfl
  have e1 : CHash.fn (CHash.fn (le4 h.1) h.2.1) h.2.2.1 = encB h := rfl
  rw [e0, e1]
  refine ⟨⟨by simp, hh.1⟩, ⟨by rw [le4_len]; omega, hh.2.1⟩, ⟨by simp only [CHash.fn, List.length_append, le4_len, hh.2.1.1]; omega, hh.2.2.1⟩, ⟨by omega, hh.2.2.2.1⟩, ⟨?_, hh.2.2.2.2.1⟩, ⟨?_, hh.2.2.2.2.2⟩, rfl⟩
  · simp only [CU32.fn, List.length_append, le4_len, l1]; omega
  · simp only [CU32.fn, List.length_append, le4_len, l1]; omega
noncomputable def BHash.fn (h : Hdr) : List Int := hashH h
def BHash.pre (h : Hdr) : Prop := HdrOk h
def BHash.VC : Prop := ∀ (x0 : (Int × ((List Int) × ((List Int) × (Int × (Int × (Int × Unit))))))), BHash.pre x0 →
 BEnc.pre x0 ∧
 ShaDouble.pre (BEnc.fn x0) ∧
 (Ret1 (ShaDouble.fn (BEnc.fn x0)) (BHash.fn x0))
theorem encH_sum {h : Hdr} (hh : HdrOk h) : SumOk (encH h) := ⟨by rw [encH_len hh]; omega, encH_bytes hh⟩
theorem BHash.vc : BHash.VC := fun h hh => ⟨hh, encH_sum hh, rfl⟩
def REnc.pre (h : Hdr) : Prop := HdrOk h
def REnc.fn (h : Hdr) : List Int := encH h
def REnc.inv4 (h : Hdr) (v : List Int) (i : Int) : Prop := 0 ≤ i ∧ i ≤ 3 ∧ v = encB h ++ (([h.2.2.2.1, h.2.2.2.2.1, h.2.2.2.2.2.1].take i.toNat).map le4).flatten
def REnc.mes4 (h : Hdr) (v : List Int) (i : Int) : Nat := (3 - i).toNat
def REnc.VC : Prop := ∀ (x0 : (Int × ((List Int) × ((List Int) × (Int × (Int × (Int × Unit))))))), REnc.pre x0 →
 RU32.pre [] x0.1 ∧
 RHash.pre (RU32.fn [] x0.1) x0.2.1 ∧
 RHash.pre (RHash.fn (RU32.fn [] x0.1) x0.2.1) x0.2.2.1 ∧
 (REnc.inv4 x0 (RHash.fn (RHash.fn (RU32.fn [] x0.1) x0.2.1) x0.2.2.1) (0 : Int) ∧
 ∀ (v3 : (List Int)) (v24 : Int), REnc.inv4 x0 v3 v24 →
 (let v25 : Bool := (decide (v24 < ([x0.2.2.2.1, x0.2.2.2.2.1, x0.2.2.2.2.2.1].length : Int)))
 ((v25 = true →
 (0 ≤ v24 ∧ v24 < ([x0.2.2.2.1, x0.2.2.2.2.1, x0.2.2.2.2.2.1].length : Int)) ∧
 (let v27 : Int := ([x0.2.2.2.1, x0.2.2.2.2.1, x0.2.2.2.2.2.1].getD (Int.toNat v24) (0 : Int))
 RU32.pre v3 v27 ∧
 (REnc.inv4 x0 (RU32.fn v3 v27) (IntKind.i64.wrap (v24 + (1 : Int))) ∧ REnc.mes4 x0 (RU32.fn v3 v27) (IntKind.i64.wrap (v24 + (1 : Int))) < REnc.mes4 x0 v3 v24))) ∧
 (v25 = false →
 (Ret1 v3 (REnc.fn x0))))))
theorem REnc.vc : REnc.VC := by
  intro h hh
  have l1 := encB_len hh
  have e0 : RU32.fn [] h.1 = le4 h.1 := rfl
  have e1 : RHash.fn (RHash.fn (le4 h.1) h.2.1) h.2.2.1 = encB h := rfl
  rw [e0, e1]
  refine ⟨⟨by simp, hh.1⟩, ⟨by rw [le4_len]; omega, hh.2.1⟩, ⟨by simp only [RHash.fn, List.length_append, le4_len, hh.2.1.1]; omega, hh.2.2.1⟩, ⟨by omega, by omega, by simp⟩, ?_⟩
  rintro v i ⟨k1, k2, rfl⟩
  refine ⟨fun hc => ?_, fun hc => ?_⟩
  · have hc : i < 3 := of_decide_eq_true hc
    rw [i64w (by omega) (by omega)]
    have hcase : i = 0 ∨ i = 1 ∨ i = 2 := by omega
    rcases hcase with rfl | rfl | rfl
    · exact ⟨⟨by omega, by simp⟩, ⟨by simp [l1], hh.2.2.2.1⟩, ⟨by omega, by omega, by simp [RU32.fn]⟩, by simp only [REnc.mes4]; omega⟩
    · exact ⟨⟨by omega, by simp⟩, ⟨by simp [l1, le4_len], hh.2.2.2.2.1⟩, ⟨by omega, by omega, by simp [RU32.fn]⟩, by simp only [REnc.mes4]; omega⟩
    · exact ⟨⟨by omega, by simp⟩, ⟨by simp [l1, le4_len], hh.2.2.2.2.2⟩, ⟨by omega, by omega, by simp [RU32.fn]⟩, by simp only [REnc.mes4]; omega⟩
  · have hc : ¬ i < 3 := of_decide_eq_false hc
    have : i = 3 := by omega
    subst this
    rw [ret1]; simp [REnc.fn, encH]
noncomputable def RHdr.fn (h : Hdr) : List Int := hashH h
def RHdr.pre (h : Hdr) : Prop := HdrOk h
def RHdr.VC : Prop := ∀ (x0 : (Int × ((List Int) × ((List Int) × (Int × (Int × (Int × Unit))))))), RHdr.pre x0 →
 REnc.pre x0 ∧
 RefDouble.pre (REnc.fn x0) ∧
 (Ret1 (RefDouble.fn (REnc.fn x0)) (RHdr.fn x0))
theorem RHdr.vc : RHdr.VC := fun h hh => ⟨hh, encH_sum hh, rfl⟩
end Lc
