/- Chapter 07: parts of trees are written and read back: the law of coverage. -/
import Derived.Test.YteglngofbbpkmaaDoorLaw07c
namespace Lc
open Go
set_option maxRecDepth 10000
set_option linter.unusedVariables false
set_option linter.unusedSimpArgs false

/-! ## slices.Index, slices.Contains -/
def SIndex.pre (s : List Bool) (v : Bool) : Prop := s.length ≤ 1000000000
def SIndex.fn (s : List Bool) (v : Bool) : Int := if v ∈ s then (s.idxOf v : Int) else -1
def SIndex.inv2 (s : List Bool) (v : Bool) (i : Int) : Prop := 0 ≤ i ∧ i ≤ s.length ∧ v ∉ s.take i.toNat
def SIndex.mes2 (s : List Bool) (v : Bool) (i : Int) : Nat := (s.length - i).toNat
def SIndex.VC : Prop := ∀ (x0 : (List Bool)) (x1 : Bool), SIndex.pre x0 x1 →
 (SIndex.inv2 x0 x1 (0 : Int) ∧
 ∀ (v8 : Int), SIndex.inv2 x0 x1 v8 →
 (((decide (v8 < (x0.length : Int))) = true →
 (0 ≤ v8 ∧ v8 < (x0.length : Int)) ∧
 (((Ty.beq (.bool) x1 (x0.getD (Int.toNat v8) false)) = true →
 (Ret1 v8 (SIndex.fn x0 x1))) ∧
 ((Ty.beq (.bool) x1 (x0.getD (Int.toNat v8) false)) = false →
 (SIndex.inv2 x0 x1 (IntKind.i64.wrap (v8 + (1 : Int))) ∧ SIndex.mes2 x0 x1 (IntKind.i64.wrap (v8 + (1 : Int))) < SIndex.mes2 x0 x1 v8)))) ∧
 ((decide (v8 < (x0.length : Int))) = false →
 (Ret1 (-1 : Int) (SIndex.fn x0 x1)))))
theorem idxOf_at {s : List Bool} {v : Bool} {k : Nat} (hk : k < s.length) (h1 : v ∉ s.take k) (h2 : s.getD k false = v) : v ∈ s ∧ s.idxOf v = k := by
  have hg : s[k] = v := by simpa [List.getD_eq_getElem?_getD, hk] using h2
  have e : s = s.take k ++ s[k] :: s.drop (k + 1) := by rw [← List.drop_eq_getElem_cons hk, List.take_append_drop]
  refine ⟨by rw [← hg]; exact List.getElem_mem hk, ?_⟩
  rw [e, List.idxOf_append, if_neg h1, hg, List.idxOf_cons_self, List.length_take]
  omega
theorem SIndex.vc : SIndex.VC := by
  intro s v hp
  have hp : s.length ≤ 1000000000 := hp
  refine ⟨⟨by omega, by omega, by simp⟩, ?_⟩
  rintro i ⟨k1, k2, k3⟩
  refine ⟨fun hc => ?_, fun hc => ?_⟩
  · have hc : i < s.length := of_decide_eq_true hc
    refine ⟨⟨k1, hc⟩, fun he => ret1.2 ?_, fun he => ?_⟩
    · have he := (beq_iff .bool _ _).1 he
      obtain ⟨h1, h2⟩ := idxOf_at (by omega) k3 he.symm
      simp only [SIndex.fn]
      rw [if_pos h1, h2]; omega
    · have he : ¬ v = s.getD i.toNat false := fun h => by rw [(beq_iff .bool _ _).2 h] at he; cases he
      rw [i64w (by omega) (by omega)]
      refine ⟨⟨by omega, by omega, ?_⟩, by simp only [SIndex.mes2]; omega⟩
      rw [show (i + 1).toNat = i.toNat + 1 by omega, List.take_succ_eq_append_getElem (by omega)]
      intro hm
      rcases List.mem_append.1 hm with hm | hm
      · exact k3 hm
      · rw [List.mem_singleton] at hm
        exact he (by rw [hm]; simp [List.getD_eq_getElem?_getD, show i.toNat < s.length by omega])
  · have hc : ¬ i < s.length := of_decide_eq_false hc
    rw [List.take_of_length_le (by omega)] at k3
    refine ret1.2 ?_
    simp only [SIndex.fn]
    rw [if_neg k3]
def SContains.pre (s : List Bool) (v : Bool) : Prop := s.length ≤ 1000000000
def SContains.fn (s : List Bool) (v : Bool) : Bool := decide (v ∈ s)
def SContains.VC : Prop := ∀ (x0 : (List Bool)) (x1 : Bool), SContains.pre x0 x1 →
 SIndex.pre x0 x1 ∧
 (Ret1 (decide ((SIndex.fn x0 x1) ≥ (0 : Int))) (SContains.fn x0 x1))
theorem SContains.vc : SContains.VC := by
  intro s v hp
  refine ⟨hp, ret1.2 ?_⟩
  have e : SIndex.fn s v = if v ∈ s then (s.idxOf v : Int) else -1 := rfl
  generalize SIndex.fn s v = y at *
  subst e
  simp only [SContains.fn]
  by_cases h : v ∈ s
  · simp [h]
  · simp [h]

/-! ## What is written -/
noncomputable def lev : Nat → List H32 → List H32
  | 0, l => l
  | k + 1, l => mlevel (lev k l)
theorem lev_in : ∀ (k : Nat) (l : List H32), lev (k + 1) l = lev k (mlevel l)
  | 0, _ => rfl
  | k + 1, l => by rw [lev, lev_in k l, lev]
theorem levels_lev : ∀ (n : Nat) (l : List H32), l.length ≤ n → ∀ k, k < (levels l).length → (levels l).getD k [] = lev k l := by
  intro n
  induction n with
  | zero =>
    intro l h k hk
    rw [levels_small (by omega)] at hk ⊢
    simp at hk; subst hk; rfl
  | succ n ih =>
    intro l h k hk
    by_cases h1 : l.length ≤ 1
    · rw [levels_small h1] at hk ⊢
      simp at hk; subst hk; rfl
    · rw [levels_big h1] at hk ⊢
      cases k with
      | zero => rfl
      | succ k =>
        rw [List.getD_cons_succ, lev_in]
        exact ih _ (by rw [mlevel_len]; omega) k (by simpa using hk)
theorem lev_wid (l : List H32) : ∀ k, ((lev k l).length : Int) = wid l.length k
  | 0 => rfl
  | k + 1 => by rw [lev, mlevel_len, wid, ← lev_wid l k]; omega
theorem levels_lvl : ∀ (n : Nat) (l : List H32), l.length ≤ n → (levels l).length = lvl l.length + 1 := by
  intro n
  induction n with
  | zero => intro l h; rw [levels_small (by omega), lvl_small (by omega)]; rfl
  | succ n ih =>
    intro l h
    by_cases h1 : l.length ≤ 1
    · rw [levels_small h1, lvl_small (by omega)]; rfl
    · rw [levels_big h1, lvl_big (by omega), List.length_cons, ih _ (by rw [mlevel_len]; omega), mlevel_len]
      congr 2
theorem lev_hi (l : List H32) : ∀ k, l.length ≤ (lev k l).length * 2 ^ k
  | 0 => by simp [lev]
  | k + 1 => by
    have h := lev_hi l k
    rw [lev, mlevel_len, Nat.pow_succ, Nat.mul_comm (2 ^ k) 2, ← Nat.mul_assoc]
    exact Nat.le_trans h (Nat.mul_le_mul_right _ (by omega))
theorem lev_lo (l : List H32) : ∀ k i, i < (lev k l).length → i * 2 ^ k < l.length
  | 0, i, h => by simpa [lev] using h
  | k + 1, i, h => by
    rw [lev, mlevel_len] at h
    have := lev_lo l k (2 * i) (by omega)
    rw [Nat.pow_succ, Nat.mul_comm (2 ^ k) 2, ← Nat.mul_assoc, Nat.mul_comm i 2]
    exact this

def cutB {α : Type} (w : List α) (k i : Nat) : List α := (w.drop (i * 2 ^ k)).take (2 ^ k)
theorem cutB_split {α : Type} (w : List α) (k i : Nat) : cutB w (k + 1) i = cutB w k (2 * i) ++ cutB w k (2 * i + 1) := by
  unfold cutB
  rw [Nat.pow_succ, Nat.mul_two, List.take_add, List.drop_drop]
  congr 3
  · rw [Nat.mul_add]; have : 2 * i * 2 ^ k = i * 2 ^ k + i * 2 ^ k := by rw [Nat.mul_assoc, Nat.two_mul]
    omega
  · rw [Nat.mul_add, Nat.add_mul]; have : 2 * i * 2 ^ k = i * 2 ^ k + i * 2 ^ k := by rw [Nat.mul_assoc, Nat.two_mul]
    omega
theorem cutB_none {α : Type} {w : List α} {k i : Nat} (h : w.length ≤ i * 2 ^ k) : cutB w k i = [] := by
  unfold cutB; rw [List.drop_eq_nil_of_le h]; simp
def flg (w : List Bool) (k i : Nat) : Bool := decide (true ∈ cutB w k i)
theorem flg_split (w : List Bool) (k i : Nat) : flg w (k + 1) i = (flg w k (2 * i) || flg w k (2 * i + 1)) := by
  simp only [flg, cutB_split, List.mem_append, Bool.decide_or]
noncomputable def fo (w : List Bool) (l : List H32) : Nat → Nat → List Bool
  | 0, i => [flg w 0 i]
  | k + 1, i => if flg w (k + 1) i then true :: (fo w l k (2 * i) ++ if 2 * i + 1 < (lev k l).length then fo w l k (2 * i + 1) else []) else [false]
noncomputable def ho (w : List Bool) (l : List H32) : Nat → Nat → List H32
  | 0, i => [(lev 0 l).getD i zeroH]
  | k + 1, i => if flg w (k + 1) i then ho w l k (2 * i) ++ (if 2 * i + 1 < (lev k l).length then ho w l k (2 * i + 1) else []) else [(lev (k + 1) l).getD i zeroH]
theorem fo_len (w : List Bool) (l : List H32) : ∀ k i, (fo w l k i).length + 1 ≤ 2 ^ (k + 1)
  | 0, i => by simp [fo]
  | k + 1, i => by
    have h1 := fo_len w l k (2 * i)
    have h2 := fo_len w l k (2 * i + 1)
    have h3 : (2 : Nat) ^ (k + 1 + 1) = 2 ^ (k + 1) + 2 ^ (k + 1) := by rw [Nat.pow_succ]; omega
    rw [fo, h3]
    split
    · rw [List.length_cons, List.length_append]
      split
      · omega
      · simp only [List.length_nil]; omega
    · simp only [List.length_singleton]; omega
theorem ho_len (w : List Bool) (l : List H32) : ∀ k i, (ho w l k i).length ≤ 2 ^ k
  | 0, i => by simp [ho]
  | k + 1, i => by
    have h1 := ho_len w l k (2 * i)
    have h2 := ho_len w l k (2 * i + 1)
    have h3 : (2 : Nat) ^ (k + 1) = 2 ^ k + 2 ^ k := by rw [Nat.pow_succ]; omega
    have h4 := Nat.two_pow_pos k
    rw [ho, h3]
    split
    · rw [List.length_append]
      split
      · omega
      · simp only [List.length_nil]; omega
    · simp only [List.length_singleton]; omega

abbrev Wrt : Type := Prt × (List (List H32) × (List Bool × Unit))
def WrOk (x : Wrt) (k i : Int) : Prop := ∃ l : List H32, x.2.1 = levels l ∧ x.1.1 = l.length ∧ x.2.2.1.length = l.length ∧ l.length ≤ 1024 ∧ 0 ≤ k ∧ k < (levels l).length ∧ k ≤ 10 ∧ 0 ≤ i ∧ i < (lev k.toNat l).length ∧
  x.1.2.1.length + 2 ^ (k.toNat + 1) ≤ 10000 ∧ x.1.2.2.1.length + 2 ^ (k.toNat + 1) ≤ 10000
def WrVisit.pre (n : Nat) (x : Wrt) (k i : Int) : Prop := WrOk x k i ∧ k.toNat < n
noncomputable def wrt (x : Wrt) (k i : Nat) : Wrt := ((x.1.1, (x.1.2.1 ++ fo x.2.2.1 (x.2.1.getD 0 []) k i, (x.1.2.2.1 ++ ho x.2.2.1 (x.2.1.getD 0 []) k i, ()))), x.2)
noncomputable def WrVisit.fn (x : Wrt) (k i : Int) : Wrt := wrt x k.toNat i.toNat
def WrVisit.can (x : Wrt) (k i : Int) : Prop := ∃ n, WrVisit.pre n x k i
theorem WrVisit.none {x : Wrt} {k i : Int} : ¬ WrVisit.pre 0 x k i := fun h => by have := h.2; omega
def WrVisit.VC (n : Nat) : Prop := ∀ (x0 : ((Int × ((List Bool) × ((List (List Int)) × Unit))) × ((List (List (List Int))) × ((List Bool) × Unit)))) (x1 : Int) (x2 : Int), WrVisit.pre (n + 1) x0 x1 x2 →
 0 ≤ x1 ∧
 0 ≤ x1 ∧
 (let v21 : Int := (if x0.1.1 < (ishl .i64 (IntKind.i64.wrap (x2 + (1 : Int))) x1) then x0.1.1 else (ishl .i64 (IntKind.i64.wrap (x2 + (1 : Int))) x1))
 (0 ≤ (ishl .i64 x2 x1) ∧ (ishl .i64 x2 x1) ≤ v21 ∧ v21 ≤ (x0.2.2.1.length : Int)) ∧
 (let v28 : (List Bool) := ((x0.2.2.1.drop (Int.toNat (ishl .i64 x2 x1))).take ((Int.toNat v21) - (Int.toNat (ishl .i64 x2 x1))))
 SContains.pre v28 true ∧
 Room (x0.1.2.1.length + [(SContains.fn v28 true)].length) 1 ∧
 (let v0h : ((Int × ((List Bool) × ((List (List Int)) × Unit))) × ((List (List (List Int))) × ((List Bool) × Unit))) := ((x0.1.1, ((x0.1.2.1 ++ [(SContains.fn v28 true)]), x0.1.2.2)), x0.2)
 ((!(SContains.fn v28 true)) = false → (!(SContains.fn v28 true)) = false) ∧
 ((!(SContains.fn v28 true)) = false → (!(SContains.fn v28 true)) = false) ∧
 (let v47 : Bool := (bif (!(SContains.fn v28 true)) then true else (x1 == (0 : Int)))
 ((v47 = true →
 (0 ≤ x1 ∧ x1 < (v0h.2.1.length : Int)) ∧
 (0 ≤ x2 ∧ x2 < ((v0h.2.1.getD (Int.toNat x1) []).length : Int)) ∧
 (let v63 : (List Int) := ((v0h.2.1.getD (Int.toNat x1) []).getD (Int.toNat x2) (List.replicate 32 (0 : Int)))
 Room (x0.1.2.2.1.length + [v63].length) 32 ∧
 (let v0_1h : ((Int × ((List Bool) × ((List (List Int)) × Unit))) × ((List (List (List Int))) × ((List Bool) × Unit))) := ((v0h.1.1, (v0h.1.2.1, ((x0.1.2.2.1 ++ [v63]), v0h.1.2.2.2))), v0h.2)
 (Ret1 v0_1h (WrVisit.fn x0 x1 x2))))) ∧
 (v47 = false →
 WrVisit.pre n v0h (IntKind.i64.wrap (x1 - (1 : Int))) (IntKind.i64.wrap ((2 : Int) * x2)) ∧
 (let v0_2h : ((Int × ((List Bool) × ((List (List Int)) × Unit))) × ((List (List (List Int))) × ((List Bool) × Unit))) := (WrVisit.fn v0h (IntKind.i64.wrap (x1 - (1 : Int))) (IntKind.i64.wrap ((2 : Int) * x2)))
 (let v1015074h : (List Bool) := (WrVisit.fn v0h (IntKind.i64.wrap (x1 - (1 : Int))) (IntKind.i64.wrap ((2 : Int) * x2))).1.2.1
 (let v2015074h : (List (List Int)) := (WrVisit.fn v0h (IntKind.i64.wrap (x1 - (1 : Int))) (IntKind.i64.wrap ((2 : Int) * x2))).1.2.2.1
 (let v77 : Int := (IntKind.i64.wrap ((IntKind.i64.wrap ((2 : Int) * x2)) + (1 : Int)))
 (0 ≤ (IntKind.i64.wrap (x1 - (1 : Int))) ∧ (IntKind.i64.wrap (x1 - (1 : Int))) < (v0_2h.2.1.length : Int)) ∧
 (let v85 : (List (List Int)) := (v0_2h.2.1.getD (Int.toNat (IntKind.i64.wrap (x1 - (1 : Int)))) [])
 (((decide (v77 < (v85.length : Int))) = true →
 (let v93 : Int := (IntKind.i64.wrap ((IntKind.i64.wrap ((2 : Int) * x2)) + (1 : Int)))
 WrVisit.pre n v0_2h (IntKind.i64.wrap (x1 - (1 : Int))) v93 ∧
 (let v1015094h : (List Bool) := (WrVisit.fn v0_2h (IntKind.i64.wrap (x1 - (1 : Int))) v93).1.2.1
 (let v2015094h : (List (List Int)) := (WrVisit.fn v0_2h (IntKind.i64.wrap (x1 - (1 : Int))) v93).1.2.2.1
 (Ret1 (WrVisit.fn v0_2h (IntKind.i64.wrap (x1 - (1 : Int))) v93) (WrVisit.fn x0 x1 x2)))))) ∧
 ((decide (v77 < (v85.length : Int))) = false →
 (Ret1 v0_2h (WrVisit.fn x0 x1 x2)))))))))))))))
theorem levels_head (l : List H32) : (levels l).getD 0 [] = l := by
  by_cases h : l.length ≤ 1
  · rw [levels_small h]; rfl
  · rw [levels_big h]; rfl
theorem shl64 {a k : Int} (ha : 0 ≤ a) (hk : 0 ≤ k) (h2 : k ≤ 10) (h : a ≤ 100000) : ishl .i64 a k = ((a.toNat * 2 ^ k.toNat : Nat) : Int) := by
  have hp := Nat.pow_le_pow_right (n := 2) (by decide) (show k.toNat ≤ 10 by omega)
  have hm : a.toNat * 2 ^ k.toNat ≤ 100000 * 1024 := Nat.mul_le_mul (by omega) hp
  have e : ishl .i64 a k = IntKind.i64.wrap (a * 2 ^ (min k.toNat 64)) := rfl
  have e2 : a * 2 ^ k.toNat = ((a.toNat * 2 ^ k.toNat : Nat) : Int) := by
    rw [Int.natCast_mul]
    congr 1
    omega
  rw [e, Nat.min_eq_left (by omega), e2, i64w (by omega) (by omega)]
theorem take_min {α : Type} (w : List α) (a b : Nat) : (w.drop a).take (min b w.length - a) = (w.drop a).take (b - a) := by
  by_cases h : b ≤ w.length
  · rw [Nat.min_eq_left h]
  · rw [Nat.min_eq_right (by omega), List.take_of_length_le (by simp), List.take_of_length_le (by simp; omega)]
theorem WrVisit.vc : ∀ n, WrVisit.VC n := by
  intro n x0 x1 x2
  obtain ⟨⟨c, fl, hs, ⟨⟩⟩, all, w, ⟨⟩⟩ := x0
  rintro ⟨⟨l, h1, h2, h3, h4, k0, k1, k2, i0, i1, r1, r2⟩, hn⟩
  simp only at h1 h2 h3 r1 r2
  subst h1
  subst h2
  have hlen : (lev x1.toNat l).length ≤ 1024 := by
    have := (wid_rng (c := l.length) (by
      have := lev_lo l x1.toNat 0 (by omega)
      omega) (by omega) x1.toNat).2
    rw [← lev_wid] at this; omega
  have hlo := lev_lo l x1.toNat x2.toNat (by omega)
  rw [i64w (n := x2 + 1) (by omega) (by omega), shl64 i0 k0 k2 (by omega), shl64 (a := x2 + 1) (by omega) k0 k2 (by omega), i64w (n := x1 - 1) (by omega) (by omega), i64w (n := 2 * x2) (by omega) (by omega), i64w (n := 2 * x2 + 1) (by omega) (by omega)]
  have hm : (if (l.length : Int) < (((x2 + 1).toNat * 2 ^ x1.toNat : Nat) : Int) then (l.length : Int) else (((x2 + 1).toNat * 2 ^ x1.toNat : Nat) : Int)) = ((min ((x2 + 1).toNat * 2 ^ x1.toNat) w.length : Nat) : Int) := by
    split <;> omega
  rw [hm]
  have e1 : (x2 + 1).toNat = x2.toNat + 1 := by omega
  have e2 : (x2.toNat + 1) * 2 ^ x1.toNat = x2.toNat * 2 ^ x1.toNat + 2 ^ x1.toNat := by rw [Nat.add_mul, Nat.one_mul]
  have hcut : (w.drop (Int.toNat ((x2.toNat * 2 ^ x1.toNat : Nat) : Int))).take (Int.toNat ((min ((x2 + 1).toNat * 2 ^ x1.toNat) w.length : Nat) : Int) - Int.toNat ((x2.toNat * 2 ^ x1.toNat : Nat) : Int)) = cutB w x1.toNat x2.toNat := by
    rw [Int.toNat_natCast, Int.toNat_natCast, take_min, e1, e2, Nat.add_sub_cancel_left]; rfl
  simp only [hcut]
  have hf : SContains.fn (cutB w x1.toNat x2.toNat) true = flg w x1.toNat x2.toNat := rfl
  have hcl : (cutB w x1.toNat x2.toNat).length ≤ 1000000000 := by simp only [cutB, List.length_take, List.length_drop]; omega
  have hpos := Nat.two_pow_pos x1.toNat
  have hps : 2 ^ (x1.toNat + 1) = 2 ^ x1.toNat + 2 ^ x1.toNat := by rw [Nat.pow_succ]; omega
  have hfn : WrVisit.fn ((↑l.length, (fl, (hs, ()))), (levels l, (w, ()))) x1 x2 = ((↑l.length, (fl ++ fo w l x1.toNat x2.toNat, (hs ++ ho w l x1.toNat x2.toNat, ()))), (levels l, (w, ()))) := by
    simp only [WrVisit.fn, wrt, levels_head]
  have hlev := levels_lev _ l (Nat.le_refl _) x1.toNat (by omega)
  have hz : (lev x1.toNat l).getD x2.toNat (List.replicate 32 0) = (lev x1.toNat l).getD x2.toNat zeroH := rfl
  simp only [hf, hfn]
  generalize hg : flg w x1.toNat x2.toNat = f
  simp only [imp_self, true_and, and_true, Bool.cond_true_left, Bool.cond_false_right, Bool.or_eq_true, Bool.or_eq_false_iff, Bool.and_eq_true, Bool.and_eq_false_iff, decide_eq_true_eq, decide_eq_false_iff_not, Bool.not_eq_true', Bool.not_eq_false', beq_iff_eq, bne_iff_ne, ne_eq, beq_eq_false_iff_ne, bne_eq_false_iff_eq, Int.not_lt, Int.not_le, gt_iff_lt, ge_iff_le, Decidable.not_not, Bool.not_eq_true, Bool.not_eq_false]
  refine ⟨k0, k0, ⟨by omega, by rw [e1, e2]; omega, by omega⟩, hcl, room_of (by simp; omega) (by omega), ?_, ?_⟩
  · intro hx
    simp only [hlev]
    refine ⟨by omega, by omega, room_of (by simp; omega) (by omega), ret1.2 ?_⟩
    rw [hz]
    cases hk : x1.toNat with
    | zero => rw [hk] at hg; simp only [fo, ho, hg]
    | succ k =>
      rw [hk] at hg
      have : f = false := by
        rcases hx with hx | hx
        · exact hx
        · omega
      subst this
      simp only [fo, ho, hg, Bool.false_eq_true, if_false]
  · rintro ⟨rfl, hx⟩
    obtain ⟨k, hk⟩ : ∃ k, x1.toNat = k + 1 := ⟨x1.toNat - 1, by omega⟩
    have hk1 : (x1 - 1).toNat = k := by omega
    have hlk := levels_lev _ l (Nat.le_refl _) k (by omega)
    have hll : (lev (k + 1) l).length = ((lev k l).length + 1) / 2 := mlevel_len _
    rw [hk] at i1 r1 r2 hps hg hlo
    have hpp : 2 ^ (k + 1) = 2 ^ k + 2 ^ k := by rw [Nat.pow_succ]; omega
    have hp1 := Nat.two_pow_pos k
    have hok1 : WrVisit.pre n ((↑l.length, (fl ++ [true], (hs, ()))), (levels l, (w, ()))) (x1 - 1) (2 * x2) := by
      refine ⟨⟨l, rfl, rfl, h3, h4, by omega, by omega, by omega, by omega, by rw [hk1]; omega, ?_, ?_⟩, by omega⟩
      · simp only [List.length_append, List.length_singleton, hk1]; omega
      · simp only [hk1]; omega
    refine ⟨hok1, ?_⟩
    have hv1 : WrVisit.fn ((↑l.length, (fl ++ [true], (hs, ()))), (levels l, (w, ()))) (x1 - 1) (2 * x2) = ((↑l.length, (fl ++ [true] ++ fo w l k (2 * x2.toNat), (hs ++ ho w l k (2 * x2.toNat), ()))), (levels l, (w, ()))) := by
      simp only [WrVisit.fn, wrt, levels_head, hk1, show (2 * x2).toNat = 2 * x2.toNat by omega]
    simp only [hv1, hk1, hlk]
    have hfl := fo_len w l k (2 * x2.toNat)
    have hhl := ho_len w l k (2 * x2.toNat)
    refine ⟨⟨by omega, by omega⟩, fun hlt => ⟨⟨⟨l, rfl, rfl, h3, h4, by omega, by omega, by omega, by omega, by rw [hk1]; omega, ?_, ?_⟩, by omega⟩, ret1.2 ?_⟩, fun hge => ret1.2 ?_⟩
    · simp only [List.length_append, List.length_singleton, hk1]; omega
    · simp only [List.length_append, hk1]; omega
    · have hv2 : ∀ (a : List Bool) (b : List H32), WrVisit.fn ((↑l.length, (a, (b, ()))), (levels l, (w, ()))) (x1 - 1) (2 * x2 + 1) = ((↑l.length, (a ++ fo w l k (2 * x2.toNat + 1), (b ++ ho w l k (2 * x2.toNat + 1), ()))), (levels l, (w, ()))) := by
        intro a b
        simp only [WrVisit.fn, wrt, levels_head, hk1, show (2 * x2 + 1).toNat = 2 * x2.toNat + 1 by omega]
      rw [hv2, hk]
      simp only [fo, ho, hg, if_true]
      rw [if_pos (by omega), if_pos (by omega)]
      simp only [List.append_assoc, List.cons_append, List.nil_append]
    · rw [hk]
      simp only [fo, ho, hg, if_true]
      rw [if_neg (by omega), if_neg (by omega)]
      simp only [List.append_assoc, List.cons_append, List.nil_append, List.append_nil]

noncomputable def partOf (l : List H32) (w : List Bool) : Prt × Int :=
  if 1024 < l.length then ((0, ([], ([], ()))), 4) else if l.length = 0 then ((0, ([], ([], ()))), 93) else if w.length ≠ l.length then ((0, ([], ([], ()))), 8) else
  ((l.length, (fo w l (lvl l.length) 0, (ho w l (lvl l.length) 0, ()))), 0)
def MPart.pre (l : List H32) (w : List Bool) : Prop := HashesOk l
noncomputable def MPart.fn (l : List H32) (w : List Bool) : Prt × Int := partOf l w
def MPart.VC : Prop := ∀ (x0 : (List (List Int))) (x1 : (List Bool)), MPart.pre x0 x1 →
 (((decide ((x0.length : Int) > (1024 : Int))) = true →
 (Ret2 ((0 : Int), ([], ([], ()))) (4 : Int) (MPart.fn x0 x1))) ∧
 ((decide ((x0.length : Int) > (1024 : Int))) = false →
 ((((x0.length : Int) == (0 : Int)) = true →
 (Ret2 ((0 : Int), ([], ([], ()))) (93 : Int) (MPart.fn x0 x1))) ∧
 (((x0.length : Int) == (0 : Int)) = false →
 ((((x1.length : Int) != (x0.length : Int)) = true →
 (Ret2 ((0 : Int), ([], ([], ()))) (8 : Int) (MPart.fn x0 x1))) ∧
 (((x1.length : Int) != (x0.length : Int)) = false →
 MLevels.pre x0 ∧
 (let v30 : ((Int × ((List Bool) × ((List (List Int)) × Unit))) × ((List (List (List Int))) × ((List Bool) × Unit))) := (((x0.length : Int), ([], ([], ()))), ((MLevels.fn x0), (x1, ())))
 WrVisit.can v30 (IntKind.i64.wrap ((v30.2.1.length : Int) - (1 : Int))) (0 : Int) ∧
 (let v6h : ((Int × ((List Bool) × ((List (List Int)) × Unit))) × ((List (List (List Int))) × ((List Bool) × Unit))) := (WrVisit.fn v30 (IntKind.i64.wrap ((v30.2.1.length : Int) - (1 : Int))) (0 : Int))
 (let v1015035h : (List Bool) := (WrVisit.fn v30 (IntKind.i64.wrap ((v30.2.1.length : Int) - (1 : Int))) (0 : Int)).1.2.1
 (let v2015035h : (List (List Int)) := (WrVisit.fn v30 (IntKind.i64.wrap ((v30.2.1.length : Int) - (1 : Int))) (0 : Int)).1.2.2.1
 (Ret2 v6h.1 (0 : Int) (MPart.fn x0 x1))))))))))))
theorem lev_top {l : List H32} (h : 1 ≤ l.length) : (lev (lvl l.length) l).length = 1 := by
  have : ∀ (n : Nat) (l : List H32), l.length ≤ n → 1 ≤ l.length → (lev (lvl l.length) l).length = 1 := by
    intro n
    induction n with
    | zero => intro l h1 h2; omega
    | succ n ih =>
      intro l h1 h2
      by_cases h3 : l.length ≤ 1
      · rw [lvl_small (by omega)]; simp only [lev]; omega
      · rw [lvl_big (by omega), lev_in]
        have := ih (mlevel l) (by rw [mlevel_len]; omega) (by rw [mlevel_len]; omega)
        rw [mlevel_len] at this
        rw [show ((l.length : Int) + 1) / 2 = (((l.length + 1) / 2 : Nat) : Int) by omega]
        exact this
  exact this _ l (Nat.le_refl _) h
theorem MPart.vc : MPart.VC := by
  intro l w hp
  simp only [imp_self, true_and, and_true, Bool.cond_true_left, Bool.cond_false_right, Bool.or_eq_true, Bool.or_eq_false_iff, Bool.and_eq_true, Bool.and_eq_false_iff, decide_eq_true_eq, decide_eq_false_iff_not, Bool.not_eq_true', Bool.not_eq_false', beq_iff_eq, bne_iff_ne, ne_eq, beq_eq_false_iff_ne, bne_eq_false_iff_eq, Int.not_lt, Int.not_le, gt_iff_lt, ge_iff_le, Decidable.not_not, Bool.not_eq_true, Bool.not_eq_false]
  refine ⟨fun h => ret2.2 ?_, fun h => ⟨fun h2 => ret2.2 ?_, fun h2 => ⟨fun h3 => ret2.2 ?_, fun h3 => ?_⟩⟩⟩
  · simp only [MPart.fn, partOf]; rw [if_pos (by omega)]
  · simp only [MPart.fn, partOf]; rw [if_neg (by omega), if_pos (by omega)]
  · simp only [MPart.fn, partOf]; rw [if_neg (by omega), if_neg (by omega), if_pos (by omega)]
  · have hll := levels_lvl _ l (Nat.le_refl _)
    have hl10 := lvl_le 10 (l.length : Int) (by simpa using h)
    have e : ((MLevels.fn l).length : Int) - 1 = lvl l.length := by simp only [MLevels.fn, hll]; omega
    simp only [e]
    rw [i64w (by omega) (by omega)]
    have ht := lev_top (l := l) (by omega)
    have hp10 := Nat.pow_le_pow_right (n := 2) (by decide) (show lvl (l.length : Int) + 1 ≤ 11 by omega)
    refine ⟨⟨hp, by omega⟩, ⟨lvl l.length + 1, ⟨l, rfl, rfl, by show w.length = l.length; omega, by omega, by omega, by omega, by omega, by omega, by rw [Int.toNat_natCast]; omega, ?_, ?_⟩, by simp⟩, ret2.2 ?_⟩
    · simp only [List.length_nil, Int.toNat_natCast]; omega
    · simp only [List.length_nil, Int.toNat_natCast]; omega
    · simp only [MPart.fn, partOf]
      rw [if_neg (by omega), if_neg (by omega), if_neg (by omega)]
      simp only [WrVisit.fn, wrt, MLevels.fn, levels_head, Int.toNat_natCast, List.nil_append, Int.toNat_zero]

theorem mlevel_getD : ∀ (l : List H32) (j : Nat), 2 * j + 1 < l.length → (mlevel l).getD j zeroH = node (l.getD (2 * j) zeroH) (l.getD (2 * j + 1) zeroH)
  | [], j, h => by simp at h
  | [_], j, h => by simp at h
  | a :: b :: r, 0, _ => by simp [mlevel]
  | a :: b :: r, j + 1, h => by
    simp only [mlevel, List.getD_cons_succ]
    rw [mlevel_getD r j (by simp only [List.length_cons] at h; omega), show 2 * (j + 1) = 2 * j + 1 + 1 by omega]; simp only [List.getD_cons_succ]
theorem mlevel_last : ∀ (l : List H32) (j : Nat), 2 * j + 1 = l.length → (mlevel l).getD j zeroH = l.getD (2 * j) zeroH
  | [], j, h => by simp at h
  | [_], j, h => by have : j = 0 := by simp at h; omega
                    subst this; simp [mlevel]
  | a :: b :: r, 0, h => by simp at h
  | a :: b :: r, j + 1, h => by
    simp only [mlevel, List.getD_cons_succ]
    rw [mlevel_last r j (by simp only [List.length_cons] at h; omega), show 2 * (j + 1) = 2 * j + 1 + 1 by omega, List.getD_cons_succ, List.getD_cons_succ]

/-! ## What is read back -/
def pk : Nat → List Bool → List H32 → List Leaf
  | a, true :: w, h :: l => ((a : Int), (h, ())) :: pk (a + 1) w l
  | a, false :: w, _ :: l => pk (a + 1) w l
  | _, _, _ => []
theorem pk_append : ∀ (w : List Bool) (l : List H32) (a : Nat) (w2 : List Bool) (l2 : List H32), w.length = l.length → pk a (w ++ w2) (l ++ l2) = pk a w l ++ pk (a + w.length) w2 l2
  | [], [], a, w2, l2, _ => rfl
  | [], _ :: _, a, w2, l2, h => by simp at h
  | _ :: _, [], a, w2, l2, h => by simp at h
  | f :: w, x :: l, a, w2, l2, h => by
    have ih := pk_append w l (a + 1) w2 l2 (by simpa using h)
    rw [show a + (f :: w).length = a + 1 + w.length by simp; omega]
    cases f with
    | true => simp only [List.cons_append, pk, ih]
    | false => simp only [List.cons_append, pk, ih]
theorem pk_none : ∀ (w : List Bool) (l : List H32) (a : Nat), true ∉ w → pk a w l = []
  | [], l, a, _ => by cases l <;> rfl
  | true :: w, l, a, h => by simp at h
  | false :: w, [], a, h => rfl
  | false :: w, x :: l, a, h => by simp only [pk]; exact pk_none w l _ (by simpa using h)
def lvs (w : List Bool) (l : List H32) (k i : Nat) : List Leaf := pk (i * 2 ^ k) (cutB w k i) (cutB l k i)
theorem lvs_split {w : List Bool} {l : List H32} (h : w.length = l.length) (k i : Nat) : lvs w l (k + 1) i = lvs w l k (2 * i) ++ lvs w l k (2 * i + 1) := by
  have hc : (cutB w k (2 * i)).length = (cutB l k (2 * i)).length := by simp [cutB, h]
  have e1 : i * 2 ^ (k + 1) = 2 * i * 2 ^ k := by rw [Nat.pow_succ, Nat.mul_comm (2 ^ k) 2, ← Nat.mul_assoc, Nat.mul_comm i 2]
  simp only [lvs, cutB_split]
  rw [pk_append _ _ _ _ _ hc, e1]
  congr 1
  by_cases hz : w.length ≤ (2 * i + 1) * 2 ^ k
  · rw [cutB_none (w := w) hz]
    cases cutB l k (2 * i + 1) <;> rfl
  · congr 1
    rw [Nat.add_mul] at hz ⊢
    simp only [cutB, List.length_take, List.length_drop]
    omega
theorem read_back {w : List Bool} {l : List H32} (h : w.length = l.length) : ∀ (k i : Nat) (F : List Bool) (H : List H32) (lv : List Leaf), i < (lev k l).length →
    rdV l.length k i (fo w l k i ++ F, ho w l k i ++ H, lv) = ((F, H, lv ++ lvs w l k i), (lev k l).getD i zeroH, flg w k i, 0) := by
  intro k
  induction k with
  | zero =>
    intro i F H lv hi
    have hi : i < l.length := hi
    have hw : cutB w 0 i = [w.getD i false] := by
      unfold cutB
      rw [Nat.pow_zero, Nat.mul_one, List.drop_eq_getElem_cons (by omega)]
      simp [-List.getElem_cons_drop, List.getD_eq_getElem?_getD, show i < w.length by omega]
    have hl : cutB l 0 i = [l.getD i zeroH] := by
      unfold cutB
      rw [Nat.pow_zero, Nat.mul_one, List.drop_eq_getElem_cons hi]
      simp [-List.getElem_cons_drop, List.getD_eq_getElem?_getD, hi]
    have hf : flg w 0 i = w.getD i false := by
      simp only [flg, hw, List.mem_singleton]
      cases w.getD i false <;> rfl
    simp only [fo, ho, List.cons_append, List.nil_append, rdV, takeH, lev, lvs, hw, hl, hf, Nat.pow_zero, Nat.mul_one]
    cases w.getD i false with
    | true => simp [pk]
    | false => simp [pk]
  | succ k ih =>
    intro i F H lv hi
    have hll : (lev (k + 1) l).length = ((lev k l).length + 1) / 2 := mlevel_len _
    cases hf : flg w (k + 1) i with
    | false =>
      have hn : lvs w l (k + 1) i = [] := pk_none _ _ _ (by simpa [flg] using hf)
      simp only [fo, ho, hf, Bool.false_eq_true, if_false, List.cons_append, List.nil_append, rdV, takeH, hn, List.append_nil]
    | true =>
      have a1 := ih (2 * i) (( if 2 * i + 1 < (lev k l).length then fo w l k (2 * i + 1) else []) ++ F) ((if 2 * i + 1 < (lev k l).length then ho w l k (2 * i + 1) else []) ++ H) lv (by omega)
      have hsp := flg_split w k i
      rw [hf] at hsp
      simp only [fo, ho, hf, if_true, List.cons_append, List.append_assoc, rdV]
      rw [show (2 * (i : Int)) = ((2 * i : Nat) : Int) by omega]
      have hwid := lev_wid l k
      by_cases hlt : 2 * i + 1 < (lev k l).length
      · have a2 := ih (2 * i + 1) F H (lv ++ lvs w l k (2 * i)) hlt
        have hk : kidsOf l.length k (rdV l.length k) ((2 * i : Nat) : Int) (fo w l k (2 * i) ++ ((if 2 * i + 1 < (lev k l).length then fo w l k (2 * i + 1) else []) ++ F), ho w l k (2 * i) ++ ((if 2 * i + 1 < (lev k l).length then ho w l k (2 * i + 1) else []) ++ H), lv) = ((F, H, lv ++ lvs w l k (2 * i) ++ lvs w l k (2 * i + 1)), node ((lev k l).getD (2 * i) zeroH) ((lev k l).getD (2 * i + 1) zeroH), 0) := by
          unfold kidsOf
          rw [a1, if_pos hlt, if_pos hlt]
          simp only [ne_eq, not_true_eq_false, if_false]
          rw [if_pos (by omega), show ((2 * i : Nat) : Int) + 1 = ((2 * i + 1 : Nat) : Int) by omega, a2]
          simp only [not_true_eq_false, if_false, ← hsp, Bool.true_eq_false]
        rw [hk, lvs_split h, lev, mlevel_getD _ _ hlt]
        simp only [List.append_assoc]
      · have hflat : flg w k (2 * i + 1) = false := by
          have := lev_hi l k
          have hz : w.length ≤ (2 * i + 1) * 2 ^ k := by rw [h]; exact Nat.le_trans this (Nat.mul_le_mul_right _ (by omega))
          simp [flg, cutB_none hz]
        have hlv : lvs w l k (2 * i + 1) = [] := pk_none _ _ _ (by simpa [flg] using hflat)
        rw [hflat, Bool.or_false] at hsp
        have hk : kidsOf l.length k (rdV l.length k) ((2 * i : Nat) : Int) (fo w l k (2 * i) ++ ((if 2 * i + 1 < (lev k l).length then fo w l k (2 * i + 1) else []) ++ F), ho w l k (2 * i) ++ ((if 2 * i + 1 < (lev k l).length then ho w l k (2 * i + 1) else []) ++ H), lv) = ((F, H, lv ++ lvs w l k (2 * i)), (lev k l).getD (2 * i) zeroH, 0) := by
          unfold kidsOf
          rw [a1, if_neg hlt, if_neg hlt]
          simp only [ne_eq, not_true_eq_false, if_false]
          rw [if_neg (by omega), ← hsp]
          simp only [Bool.true_eq_false, if_false, List.nil_append]
        rw [hk, lvs_split h, lev, mlevel_last _ _ (by omega), hlv, List.append_nil]

noncomputable def wOf (l : List H32) (x : List Bool) : List Bool := x.take l.length ++ (List.replicate l.length false).drop x.length
theorem wOf_len (l : List H32) (x : List Bool) : (wOf l x).length = l.length := by simp [wOf]; omega
theorem covers {l : List H32} {w : List Bool} (h : w.length = l.length) (h1 : 1 ≤ l.length) (h2 : l.length ≤ 40) (hok : HashesOk l) :
    (partOf l w).2 = 0 ∧ HashesOk (partOf l w).1.2.2.1 ∧ extOf (partOf l w).1 = (root l, pk 0 w l, 0) := by
  have hp : partOf l w = (((l.length : Int), (fo w l (lvl l.length) 0, (ho w l (lvl l.length) 0, ()))), 0) := by
    unfold partOf
    rw [if_neg (by omega), if_neg (by omega), if_neg (by omega)]
  rw [hp]
  have hl10 := lvl_le 10 (l.length : Int) (by omega)
  have hp10 := Nat.pow_le_pow_right (n := 2) (by decide) (show lvl (l.length : Int) + 1 ≤ 11 by omega)
  have hp11 := Nat.pow_le_pow_right (n := 2) (by decide) (show lvl (l.length : Int) ≤ 10 by omega)
  have ht := lev_top h1
  have hlevok : ∀ k, HashesOk (lev k l) := by
    intro k
    induction k with
    | zero => exact hok
    | succ k ih => exact mlevel_ok _ ih
  have hho : ∀ k i, HashesOk (ho w l k i) := by
    intro k
    induction k with
    | zero => intro i; exact HashesOk.one ((hlevok 0).getD i)
    | succ k ih =>
      intro i
      simp only [ho]
      split
      · split
        · exact (ih _).append (ih _)
        · rw [List.append_nil]; exact ih _
      · exact HashesOk.one ((hlevok _).getD i)
  have hf := fo_len w l (lvl l.length) 0
  have hh := ho_len w l (lvl l.length) 0
  refine ⟨rfl, hho _ _, ?_⟩
  have hr := read_back h (lvl l.length) 0 [] [] [] (by omega)
  simp only [List.append_nil, List.nil_append] at hr
  unfold extOf
  simp only
  rw [if_neg (by omega), if_neg (by omega), show (0 : Int) = ((0 : Nat) : Int) from rfl, hr]
  have hc1 : cutB w (lvl l.length) 0 = w := by
    have := lev_hi l (lvl l.length)
    rw [ht] at this
    unfold cutB; rw [Nat.zero_mul, List.drop_zero, List.take_of_length_le (by omega)]
  have hc2 : cutB l (lvl l.length) 0 = l := by
    have := lev_hi l (lvl l.length)
    rw [ht] at this
    unfold cutB; rw [Nat.zero_mul, List.drop_zero, List.take_of_length_le (by omega)]
  have hroot : (lev (lvl l.length) l).getD 0 zeroH = root l := by
    obtain ⟨_, _, q3, _⟩ := levels_root _ l (Nat.le_refl _) h1 hok
    have hll := levels_lvl _ l (Nat.le_refl _)
    rw [hll, Nat.add_sub_cancel, levels_lev _ l (Nat.le_refl _) _ (by omega)] at q3
    exact q3
  unfold extGo
  simp only [ne_eq, not_true_eq_false, if_false, List.length_nil, or_self, lvs, hc1, hc2, hroot, Nat.zero_mul]
  rfl

def MerkleCovers.pre (l : List H32) (x : List Bool) : Prop := HashesOk l
def MerkleCovers.fn (l : List H32) (x : List Bool) : Bool := true
noncomputable def MerkleCovers.inv13 (l : List H32) (x v5 : List Bool) (v11 v60 : Int) : Prop := v5 = wOf l x ∧ 0 ≤ v60 ∧ v60 ≤ l.length ∧ v11 = (pk 0 ((wOf l x).take v60.toNat) (l.take v60.toNat)).length ∧ v11 ≤ v60
noncomputable def MerkleCovers.mes13 (l : List H32) (x v5 : List Bool) (v11 v60 : Int) : Nat := (l.length - v60).toNat
def MerkleCovers.VC : Prop := ∀ (x0 : (List (List Int))) (x1 : (List Bool)), MerkleCovers.pre x0 x1 →
 MSane.pre ∧
 (((!(MSane.fn)) = true →
 (Ret1 false (MerkleCovers.fn x0 x1))) ∧
 ((!(MSane.fn)) = false →
 Kept.pre x0 ∧
 ((!(Kept.fn x0)) = false → (!(Kept.fn x0)) = false) ∧
 ((!(Kept.fn x0)) = false → (!(Kept.fn x0)) = false) ∧
 ((!(Kept.fn x0)) = false → (!(Kept.fn x0)) = false) ∧
 (let v22 : Bool := (bif (!(Kept.fn x0)) then true else ((x0.length : Int) == (0 : Int)))
 (v22 = false → v22 = false) ∧
 (v22 = false → v22 = false) ∧
 (v22 = false → v22 = false) ∧
 (let v27 : Bool := (bif v22 then true else (decide ((x1.length : Int) > (50 : Int))))
 ((v27 = true →
 (Ret1 true (MerkleCovers.fn x0 x1))) ∧
 (v27 = false →
 (0 ≤ (x0.length : Int) ∧ (x0.length : Int) ≤ (x0.length : Int)) ∧
 Room ((x0.length : Int)).toNat 1 ∧
 (let v33 : Int := ((min x1.length (List.replicate ((x0.length : Int)).toNat false).length : Nat) : Int)
 (let v30h : (List Bool) := (x1.take (List.replicate ((x0.length : Int)).toNat false).length ++ (List.replicate ((x0.length : Int)).toNat false).drop x1.length)
 MPart.pre x0 v30h ∧
 MExtract.pre ((MPart.fn x0 v30h).1) ∧
 (((MPart.fn x0 v30h).2 != (0 : Int)) = false → ((MPart.fn x0 v30h).2 != (0 : Int)) = false) ∧
 (((MPart.fn x0 v30h).2 != (0 : Int)) = false → ((MPart.fn x0 v30h).2 != (0 : Int)) = false) ∧
 (let v51 : Bool := (bif ((MPart.fn x0 v30h).2 != (0 : Int)) then true else ((MExtract.fn ((MPart.fn x0 v30h).1)).2.2 != (0 : Int)))
 (v51 = false → v51 = false) ∧
 (v51 = false → MRoot.pre x0) ∧
 (v51 = false → v51 = false) ∧
 (v51 = false → v51 = false) ∧
 (v51 = false → v51 = false) ∧
 (let v57 : Bool := (bif v51 then true else (!(Ty.beq (.arr 32 (.int .u8)) (MExtract.fn ((MPart.fn x0 v30h).1)).1 (MRoot.fn x0))))
 ((v57 = true →
 (Ret1 false (MerkleCovers.fn x0 x1))) ∧
 (v57 = false →
 (MerkleCovers.inv13 x0 x1 v30h (0 : Int) (0 : Int) ∧
 ∀ (v5 : (List Bool)) (v11 : Int) (v60 : Int), MerkleCovers.inv13 x0 x1 v5 v11 v60 →
 (((decide (v60 < (x0.length : Int))) = true →
 (0 ≤ v60 ∧ v60 < (v5.length : Int)) ∧
 (((v5.getD (Int.toNat v60) false) = true →
 (let v70 : Bool := (decide (v11 ≥ ((MExtract.fn ((MPart.fn x0 v30h).1)).2.1.length : Int)))
 (v70 = false → v70 = false) ∧
 (v70 = false → v70 = false) ∧
 (v70 = false → (0 ≤ v11 ∧ v11 < ((MExtract.fn ((MPart.fn x0 v30h).1)).2.1.length : Int))) ∧
 (v70 = false → v70 = false) ∧
 (v70 = false → v70 = false) ∧
 (v70 = false → v70 = false) ∧
 (v70 = false → (0 ≤ v60 ∧ v60 < (x0.length : Int))) ∧
 (v70 = false → v70 = false) ∧
 (v70 = false → v70 = false) ∧
 (v70 = false → v70 = false) ∧
 (v70 = false → v70 = false) ∧
 (v70 = false → v70 = false) ∧
 (v70 = false → v70 = false) ∧
 (let v83 : Bool := (bif v70 then true else (!(Ty.beq (.pair (.int .i64) (.pair (.arr 32 (.int .u8)) (.unit))) ((MExtract.fn ((MPart.fn x0 v30h).1)).2.1.getD (Int.toNat v11) ((0 : Int), ((List.replicate 32 (0 : Int)), ()))) (v60, ((x0.getD (Int.toNat v60) (List.replicate 32 (0 : Int))), ())))))
 ((v83 = true →
 (Ret1 false (MerkleCovers.fn x0 x1))) ∧
 (v83 = false →
 (MerkleCovers.inv13 x0 x1 v5 (IntKind.i64.wrap (v11 + (1 : Int))) (IntKind.i64.wrap (v60 + (1 : Int))) ∧ MerkleCovers.mes13 x0 x1 v5 (IntKind.i64.wrap (v11 + (1 : Int))) (IntKind.i64.wrap (v60 + (1 : Int))) < MerkleCovers.mes13 x0 x1 v5 v11 v60)))))) ∧
 ((v5.getD (Int.toNat v60) false) = false →
 (MerkleCovers.inv13 x0 x1 v5 v11 (IntKind.i64.wrap (v60 + (1 : Int))) ∧ MerkleCovers.mes13 x0 x1 v5 v11 (IntKind.i64.wrap (v60 + (1 : Int))) < MerkleCovers.mes13 x0 x1 v5 v11 v60)))) ∧
 ((decide (v60 < (x0.length : Int))) = false →
 (let v90 : Bool := (v11 == ((MExtract.fn ((MPart.fn x0 v30h).1)).2.1.length : Int))
 (Ret1 v90 (MerkleCovers.fn x0 x1))))))))))))))))))
theorem pk_at {w : List Bool} {l : List H32} (h : w.length = l.length) {k : Nat} (hk : k < l.length) :
    pk 0 w l = pk 0 (w.take k) (l.take k) ++ pk k (w.drop k) (l.drop k) ∧
    pk 0 (w.take (k + 1)) (l.take (k + 1)) = pk 0 (w.take k) (l.take k) ++ (if w.getD k false then [((k : Int), (l.getD k (List.replicate 32 0), ()))] else []) ∧
    (w.getD k false = true → (pk 0 w l).getD (pk 0 (w.take k) (l.take k)).length ((0 : Int), ((List.replicate 32 (0 : Int)), ())) = ((k : Int), (l.getD k (List.replicate 32 0), ())) ∧ (pk 0 (w.take k) (l.take k)).length < (pk 0 w l).length) := by
  have e1 : pk 0 w l = pk 0 (w.take k) (l.take k) ++ pk k (w.drop k) (l.drop k) := by
    have := pk_append (w.take k) (l.take k) 0 (w.drop k) (l.drop k) (by simp [h])
    rw [List.take_append_drop, List.take_append_drop] at this
    rw [this]; congr 2; simp; omega
  have hg1 : w.getD k false = w[k]'(by omega) := by simp [List.getD_eq_getElem?_getD, show k < w.length by omega]
  have hg2 : l.getD k (List.replicate 32 0) = l[k] := by simp [List.getD_eq_getElem?_getD, hk]
  refine ⟨e1, ?_, fun hw => ?_⟩
  · rw [List.take_succ_eq_append_getElem (by omega : k < w.length), List.take_succ_eq_append_getElem hk, pk_append _ _ _ _ _ (by simp [h]), hg1, hg2]
    congr 1
    rw [show 0 + (w.take k).length = k by simp; omega]
    cases w[k]'(by omega) <;> rfl
  · rw [e1, List.drop_eq_getElem_cons (by omega : k < w.length), List.drop_eq_getElem_cons hk, ← hg1, hw]
    simp only [pk, hg2]
    refine ⟨by simp [List.getD_eq_getElem?_getD], by simp⟩
theorem pk_len : ∀ (w : List Bool) (l : List H32) (a : Nat), (pk a w l).length ≤ l.length
  | [], l, a => by cases l <;> simp [pk]
  | true :: w, [], a => by simp [pk]
  | false :: w, [], a => by simp [pk]
  | true :: w, x :: l, a => by have := pk_len w l (a + 1); simp only [pk, List.length_cons]; omega
  | false :: w, x :: l, a => by have := pk_len w l (a + 1); simp only [pk, List.length_cons]; omega
theorem MerkleCovers.vc : MerkleCovers.VC := by
  intro l x hp
  have hp : HashesOk l := hp
  have hfn : MerkleCovers.fn l x = true := rfl
  have hk : Kept.fn l = decide ((l.length : Int) ≤ 40) := rfl
  have hw : x.take (List.replicate ((l.length : Int)).toNat false).length ++ (List.replicate ((l.length : Int)).toNat false).drop x.length = wOf l x := by simp [wOf]
  have e1 : ∀ w, MPart.fn l w = partOf l w := fun _ => rfl
  have e2 : ∀ p, MExtract.fn p = extOf p := fun _ => rfl
  simp only [hfn, hk, hw, e1, e2]
  refine ⟨trivial, fun h => by simp [MSane.fn] at h, fun _ => ⟨trivial, ?_⟩⟩
  simp only [imp_self, true_and, and_true, Bool.cond_true_left, Bool.cond_false_right, Bool.or_eq_true, Bool.or_eq_false_iff, Bool.and_eq_true, Bool.and_eq_false_iff, decide_eq_true_eq, decide_eq_false_iff_not, Bool.not_eq_true', Bool.not_eq_false', beq_iff_eq, bne_iff_ne, ne_eq, beq_eq_false_iff_ne, bne_eq_false_iff_eq, Int.not_lt, Int.not_le, gt_iff_lt, ge_iff_le, Decidable.not_not, Bool.not_eq_true, Bool.not_eq_false]
  refine ⟨fun _ => rfl, fun h => ?_⟩
  obtain ⟨⟨g1, g2⟩, g3⟩ := h
  obtain ⟨c1, c2, c3⟩ := covers (wOf_len l x) (by omega) (by omega) hp
  have hroot : MRoot.fn l = root l := by simp only [MRoot.fn, rootOf]; rw [if_neg (by omega)]
  simp only [c3, hroot, beq_self]
  refine ⟨by omega, room_of (by omega) (by omega), hp, c2, fun _ => ⟨hp, by omega⟩, fun hx => ?_, fun _ => ?_⟩
  · exfalso
    rcases hx with (hx | hx) | hx
    · exact hx c1
    · exact hx trivial
    · cases hx
  have hlen : (wOf l x).length = l.length := wOf_len l x
  refine ⟨⟨rfl, by omega, by omega, rfl, by simp⟩, ?_⟩
  rintro v5 v11 v60 ⟨rfl, k1, k2, k3, k4⟩
  refine ⟨fun hc => ?_, fun hc => ret1.2 ?_⟩
  · obtain ⟨p1, p2, p3⟩ := pk_at hlen (k := v60.toNat) (by omega)
    refine ⟨by omega, fun hw => ?_, fun hw => ?_⟩
    · obtain ⟨p4, p5⟩ := p3 hw
      rw [hw] at p2
      have e3 : (v60.toNat : Int) = v60 := by omega
      have e4 : v11.toNat = (pk 0 ((wOf l x).take v60.toNat) (l.take v60.toNat)).length := by omega
      rw [i64w (n := v11 + 1) (by omega) (by omega), i64w (n := v60 + 1) (by omega) (by omega), e4, p4, e3, beq_self]
      refine ⟨fun _ => by omega, fun _ => by omega, fun hx => ?_, fun _ => ⟨⟨rfl, by omega, by omega, ?_, by omega⟩, by simp only [MerkleCovers.mes13]; omega⟩⟩
      · exfalso
        rcases hx with hx | hx
        · omega
        · cases hx
      · rw [show (v60 + 1).toNat = v60.toNat + 1 by omega, p2]
        simp only [if_true, List.length_append, List.length_singleton]; omega
    · rw [i64w (n := v60 + 1) (by omega) (by omega)]
      rw [hw] at p2
      refine ⟨⟨rfl, by omega, by omega, ?_, by omega⟩, by simp only [MerkleCovers.mes13]; omega⟩
      rw [show (v60 + 1).toNat = v60.toNat + 1 by omega, p2]
      simp only [Bool.false_eq_true, if_false, List.append_nil]; omega
  · rw [List.take_of_length_le (by omega), List.take_of_length_le (by omega)] at k3
    simpa using k3
end Lc
