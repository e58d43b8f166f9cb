/- Chapter 07: what is read out of parts: the laws. -/
import Derived.Test.YteglngofbbpkmaaDoorLaw07
import Derived.Test.YteglngofbbpkmaaDoorParts
namespace Lc
open Go
set_option maxRecDepth 10000
set_option linter.unusedVariables false
set_option linter.unusedSimpArgs false

noncomputable def extGo (r : PS × H32 × Bool × Int) : H32 × List Leaf × Int :=
  if r.2.2.2 ≠ 0 then (zeroH, [], r.2.2.2) else if r.1.1.length ≠ 0 ∨ r.1.2.1.length ≠ 0 then (zeroH, [], 2) else (r.2.1, r.1.2.2, 0)
noncomputable def extOf (x : Prt) : H32 × List Leaf × Int :=
  if x.1 < 1 ∨ 1024 < x.1 then (zeroH, [], 5) else if (4096 : Int) < x.2.1.length ∨ (4096 : Int) < x.2.2.1.length then (zeroH, [], 4) else
  extGo (rdV x.1 (lvl x.1) 0 (x.2.1, x.2.2.1, []))
theorem pow10 {k : Nat} (h : k ≤ 10) : (2 : Int) ^ k ≤ 1024 := by
  have := Nat.pow_le_pow_right (n := 2) (by decide) h
  have h2 : (2 : Nat) ^ k ≤ 1024 := this
  exact_mod_cast h2
def MExtract.pre (x : Prt) : Prop := HashesOk x.2.2.1
noncomputable def MExtract.fn (x : Prt) : H32 × List Leaf × Int := extOf x
def MExtract.VC : Prop := ∀ (x0 : (Int × ((List Bool) × ((List (List Int)) × Unit)))), MExtract.pre x0 →
 ((decide (x0.1 < (1 : Int))) = false → (decide (x0.1 < (1 : Int))) = false) ∧
 ((decide (x0.1 < (1 : Int))) = false → (decide (x0.1 < (1 : Int))) = false) ∧
 ((decide (x0.1 < (1 : Int))) = false → (decide (x0.1 < (1 : Int))) = false) ∧
 (let v16 : Bool := (bif (decide (x0.1 < (1 : Int))) then true else (decide (x0.1 > (1024 : Int))))
 ((v16 = true →
 (Ret3 (List.replicate 32 (0 : Int)) [] (5 : Int) (MExtract.fn x0))) ∧
 (v16 = false →
 ((decide ((x0.2.1.length : Int) > (4096 : Int))) = false → (decide ((x0.2.1.length : Int) > (4096 : Int))) = false) ∧
 ((decide ((x0.2.1.length : Int) > (4096 : Int))) = false → (decide ((x0.2.1.length : Int) > (4096 : Int))) = false) ∧
 ((decide ((x0.2.1.length : Int) > (4096 : Int))) = false → (decide ((x0.2.1.length : Int) > (4096 : Int))) = false) ∧
 ((decide ((x0.2.1.length : Int) > (4096 : Int))) = false → (decide ((x0.2.1.length : Int) > (4096 : Int))) = false) ∧
 (let v27 : Bool := (bif (decide ((x0.2.1.length : Int) > (4096 : Int))) then true else (decide ((x0.2.2.1.length : Int) > (4096 : Int))))
 ((v27 = true →
 (Ret3 (List.replicate 32 (0 : Int)) [] (4 : Int) (MExtract.fn x0))) ∧
 (v27 = false →
 MHeight.pre x0.1 ∧
 RdVisit.can (x0, ([], ())) (MHeight.fn x0.1) (0 : Int) ∧
 (let v1015035h : (List (Int × ((List Int) × Unit))) := (RdVisit.fn (x0, ([], ())) (MHeight.fn x0.1) (0 : Int)).1.2.1
 (let v37 : Bool := (RdVisit.fn (x0, ([], ())) (MHeight.fn x0.1) (0 : Int)).2.2.1
 (let v38 : Int := (RdVisit.fn (x0, ([], ())) (MHeight.fn x0.1) (0 : Int)).2.2.2
 (((v38 != (0 : Int)) = true →
 (Ret3 (List.replicate 32 (0 : Int)) [] v38 (MExtract.fn x0))) ∧
 ((v38 != (0 : Int)) = false →
 (let v45 : (List Bool) := (RdVisit.fn (x0, ([], ())) (MHeight.fn x0.1) (0 : Int)).1.1.2.1
 ((decide ((v45.length : Int) > (0 : Int))) = false → (decide ((v45.length : Int) > (0 : Int))) = false) ∧
 ((decide ((v45.length : Int) > (0 : Int))) = false → (decide ((v45.length : Int) > (0 : Int))) = false) ∧
 ((decide ((v45.length : Int) > (0 : Int))) = false → (decide ((v45.length : Int) > (0 : Int))) = false) ∧
 ((decide ((v45.length : Int) > (0 : Int))) = false → (decide ((v45.length : Int) > (0 : Int))) = false) ∧
 ((decide ((v45.length : Int) > (0 : Int))) = false → (decide ((v45.length : Int) > (0 : Int))) = false) ∧
 (let v54 : Bool := (bif (decide ((v45.length : Int) > (0 : Int))) then true else (decide (((RdVisit.fn (x0, ([], ())) (MHeight.fn x0.1) (0 : Int)).1.1.2.2.1.length : Int) > (0 : Int))))
 ((v54 = true →
 (Ret3 (List.replicate 32 (0 : Int)) [] (2 : Int) (MExtract.fn x0))) ∧
 (v54 = false →
 (Ret3 ((RdVisit.fn (x0, ([], ())) (MHeight.fn x0.1) (0 : Int)).2.1) v1015035h (0 : Int) (MExtract.fn x0)))))))))))))))))
theorem MExtract.vc : MExtract.VC := by
  intro x hp
  obtain ⟨c, fl, hs, ⟨⟩⟩ := x
  have hp : HashesOk hs := hp
  simp only [imp_self, true_and, and_true, Bool.cond_true_left, Bool.cond_false_right, Bool.or_eq_true, Bool.or_eq_false_iff, Bool.and_eq_true, Bool.and_eq_false_iff, decide_eq_true_eq, decide_eq_false_iff_not, Bool.not_eq_true', Bool.not_eq_false', beq_iff_eq, bne_iff_ne, ne_eq, beq_eq_false_iff_ne, bne_eq_false_iff_eq, Int.not_lt, Int.not_le, gt_iff_lt, ge_iff_le, Decidable.not_not, Bool.not_eq_true, Bool.not_eq_false]
  refine ⟨fun h => ret3.2 ?_, fun h => ?_⟩
  · simp only [MExtract.fn, extOf]; rw [if_pos h]; rfl
  refine ⟨fun h2 => ret3.2 ?_, fun h2 => ?_⟩
  · simp only [MExtract.fn, extOf]; rw [if_neg (by omega), if_pos h2]; rfl
  have hl := lvl_le 10 c (by simpa using h.2)
  have hq := pow10 hl
  have hfn : MExtract.fn (c, (fl, (hs, ()))) = extGo (rdV c (lvl c) 0 (fl, hs, [])) := by
    simp only [MExtract.fn, extOf]; rw [if_neg (by omega), if_neg (by omega)]
  have hv : RdVisit.fn ((c, (fl, (hs, ()))), ([], ())) (MHeight.fn c) 0 = (packR c (rdV c (lvl c) 0 (fl, hs, [])).1, (rdV c (lvl c) 0 (fl, hs, [])).2) := by
    simp only [RdVisit.fn, MHeight.fn, Int.toNat_natCast]; rfl
  rw [hfn, hv]
  have hcan : RdVisit.can ((c, (fl, (hs, ()))), ([], ())) (MHeight.fn c) 0 := by
    refine ⟨2 * lvl c + 1, ⟨⟨h.1, h.2⟩, ⟨hp, by simp only [unR, List.length_nil]; omega⟩, by simp only [MHeight.fn]; omega, by simp only [MHeight.fn]; omega, by omega, ?_⟩, ?_⟩
    · simp only [MHeight.fn, Int.toNat_natCast]; omega
    · simp only [MHeight.fn, Int.toNat_natCast]; omega
  generalize rdV c (lvl c) 0 (fl, hs, []) = r at *
  refine ⟨⟨h.1, h.2⟩, hcan, fun he => ret3.2 ?_, fun he => ⟨fun ht => ret3.2 ?_, fun ht => ret3.2 ?_⟩⟩
  · unfold extGo; rw [if_pos he]; rfl
  · have ht : (0 : Int) < r.1.1.length ∨ (0 : Int) < r.1.2.1.length := ht
    unfold extGo; rw [if_neg (by simpa using he), if_pos (by omega)]; rfl
  · have ht : (r.1.1.length : Int) ≤ 0 ∧ (r.1.2.1.length : Int) ≤ 0 := ht
    unfold extGo; rw [if_neg (by simpa using he), if_neg (by omega)]; rfl

def szs (c : Int) (m : Nat) : List Int := (List.range (m + 1)).map (wid c)
theorem szs_succ (c : Int) (m : Nat) : szs c m ++ [wid c (m + 1)] = szs c (m + 1) := by
  simp [szs, List.range_succ]
theorem szs_get {c : Int} {m j : Nat} (h : j ≤ m) : (szs c m).getD j 0 = wid c j := by
  simp only [szs, List.getD_eq_getElem?_getD]
  rw [List.getElem?_map, List.getElem?_range (by omega)]; rfl
def RExtract.pre (x : Prt) : Prop := HashesOk x.2.2.1
noncomputable def RExtract.fn (x : Prt) : H32 × List Leaf × Int := extOf x
def RExtract.inv7 (x : Prt) (v2 : List Int) (v5 : Cur) (v6 : Int) : Prop := ∃ m : Nat, v5 = packC x (szs x.1 m) (0, 0, [], 0) ∧ v6 = wid x.1 m ∧ m + lvl v6 = lvl x.1
def RExtract.mes7 (x : Prt) (v2 : List Int) (v5 : Cur) (v6 : Int) : Nat := v6.toNat
def RExtract.VC : Prop := ∀ (x0 : (Int × ((List Bool) × ((List (List Int)) × Unit)))), RExtract.pre x0 →
 ((decide (x0.1 < (1 : Int))) = false → (decide (x0.1 < (1 : Int))) = false) ∧
 ((decide (x0.1 < (1 : Int))) = false → (decide (x0.1 < (1 : Int))) = false) ∧
 ((decide (x0.1 < (1 : Int))) = false → (decide (x0.1 < (1 : Int))) = false) ∧
 (let v16 : Bool := (bif (decide (x0.1 < (1 : Int))) then true else (decide (x0.1 > (1024 : Int))))
 ((v16 = true →
 (Ret3 (List.replicate 32 (0 : Int)) [] (5 : Int) (RExtract.fn x0))) ∧
 (v16 = false →
 ((decide ((x0.2.1.length : Int) > (4096 : Int))) = false → (decide ((x0.2.1.length : Int) > (4096 : Int))) = false) ∧
 ((decide ((x0.2.1.length : Int) > (4096 : Int))) = false → (decide ((x0.2.1.length : Int) > (4096 : Int))) = false) ∧
 ((decide ((x0.2.1.length : Int) > (4096 : Int))) = false → (decide ((x0.2.1.length : Int) > (4096 : Int))) = false) ∧
 ((decide ((x0.2.1.length : Int) > (4096 : Int))) = false → (decide ((x0.2.1.length : Int) > (4096 : Int))) = false) ∧
 (let v27 : Bool := (bif (decide ((x0.2.1.length : Int) > (4096 : Int))) then true else (decide ((x0.2.2.1.length : Int) > (4096 : Int))))
 ((v27 = true →
 (Ret3 (List.replicate 32 (0 : Int)) [] (4 : Int) (RExtract.fn x0))) ∧
 (v27 = false →
 (let v33 : ((Int × ((List Bool) × ((List (List Int)) × Unit))) × ((List Int) × (Int × (Int × ((List (Int × ((List Int) × Unit))) × (Int × Unit)))))) := (x0, ([x0.1], ((0 : Int), ((0 : Int), ([], ((0 : Int), ()))))))
 (RExtract.inv7 x0 (List.replicate 32 (0 : Int)) v33 x0.1 ∧
 ∀ (v2 : (List Int)) (v5 : ((Int × ((List Bool) × ((List (List Int)) × Unit))) × ((List Int) × (Int × (Int × ((List (Int × ((List Int) × Unit))) × (Int × Unit))))))) (v6 : Int), RExtract.inv7 x0 v2 v5 v6 →
 (((decide (v6 > (1 : Int))) = true →
 (2 : Int) ≠ 0 ∧
 (let v41 : Int := (IntKind.i64.wrap (Int.tdiv (IntKind.i64.wrap (v6 + (1 : Int))) (2 : Int)))
 Room (v5.2.1.length + [v41].length) 8 ∧
 (RExtract.inv7 x0 v2 (v5.1, ((v5.2.1 ++ [v41]), v5.2.2)) v41 ∧ RExtract.mes7 x0 v2 (v5.1, ((v5.2.1 ++ [v41]), v5.2.2)) v41 < RExtract.mes7 x0 v2 v5 v6))) ∧
 ((decide (v6 > (1 : Int))) = false →
 CuRead.can v5 (IntKind.i64.wrap ((v5.2.1.length : Int) - (1 : Int))) (0 : Int) ∧
 (let v5_1h : ((Int × ((List Bool) × ((List (List Int)) × Unit))) × ((List Int) × (Int × (Int × ((List (Int × ((List Int) × Unit))) × (Int × Unit)))))) := (CuRead.fn v5 (IntKind.i64.wrap ((v5.2.1.length : Int) - (1 : Int))) (0 : Int)).1
 (let v1015060h : (List (Int × ((List Int) × Unit))) := (CuRead.fn v5 (IntKind.i64.wrap ((v5.2.1.length : Int) - (1 : Int))) (0 : Int)).1.2.2.2.2.1
 (let v61 : (List Int) := (CuRead.fn v5 (IntKind.i64.wrap ((v5.2.1.length : Int) - (1 : Int))) (0 : Int)).2.1
 (let v62 : Bool := (CuRead.fn v5 (IntKind.i64.wrap ((v5.2.1.length : Int) - (1 : Int))) (0 : Int)).2.2
 ((v5_1h.2.2.2.2.2.1 == (0 : Int)) = true → (v5_1h.2.2.2.2.2.1 == (0 : Int)) = true) ∧
 ((v5_1h.2.2.2.2.2.1 == (0 : Int)) = true → (v5_1h.2.2.2.2.2.1 == (0 : Int)) = true) ∧
 ((v5_1h.2.2.2.2.2.1 == (0 : Int)) = true → (v5_1h.2.2.2.2.2.1 == (0 : Int)) = true) ∧
 ((v5_1h.2.2.2.2.2.1 == (0 : Int)) = true → (v5_1h.2.2.2.2.2.1 == (0 : Int)) = true) ∧
 ((v5_1h.2.2.2.2.2.1 == (0 : Int)) = true → (v5_1h.2.2.2.2.2.1 == (0 : Int)) = true) ∧
 ((v5_1h.2.2.2.2.2.1 == (0 : Int)) = true → (v5_1h.2.2.2.2.2.1 == (0 : Int)) = true) ∧
 ((v5_1h.2.2.2.2.2.1 == (0 : Int)) = true → (v5_1h.2.2.2.2.2.1 == (0 : Int)) = true) ∧
 ((v5_1h.2.2.2.2.2.1 == (0 : Int)) = true → (v5_1h.2.2.2.2.2.1 == (0 : Int)) = true) ∧
 (((v5_1h.2.2.2.2.2.1 == (0 : Int)) = true ∧ (decide (v5_1h.2.2.1 < (x0.2.1.length : Int))) = false) → ((v5_1h.2.2.2.2.2.1 == (0 : Int)) = true ∧ (decide (v5_1h.2.2.1 < (x0.2.1.length : Int))) = false)) ∧
 (((v5_1h.2.2.2.2.2.1 == (0 : Int)) = true ∧ (decide (v5_1h.2.2.1 < (x0.2.1.length : Int))) = false) → ((v5_1h.2.2.2.2.2.1 == (0 : Int)) = true ∧ (decide (v5_1h.2.2.1 < (x0.2.1.length : Int))) = false)) ∧
 (((v5_1h.2.2.2.2.2.1 == (0 : Int)) = true ∧ (decide (v5_1h.2.2.1 < (x0.2.1.length : Int))) = false) → ((v5_1h.2.2.2.2.2.1 == (0 : Int)) = true ∧ (decide (v5_1h.2.2.1 < (x0.2.1.length : Int))) = false)) ∧
 (((v5_1h.2.2.2.2.2.1 == (0 : Int)) = true ∧ (decide (v5_1h.2.2.1 < (x0.2.1.length : Int))) = false) → ((v5_1h.2.2.2.2.2.1 == (0 : Int)) = true ∧ (decide (v5_1h.2.2.1 < (x0.2.1.length : Int))) = false)) ∧
 (((v5_1h.2.2.2.2.2.1 == (0 : Int)) = true ∧ (decide (v5_1h.2.2.1 < (x0.2.1.length : Int))) = false) → ((v5_1h.2.2.2.2.2.1 == (0 : Int)) = true ∧ (decide (v5_1h.2.2.1 < (x0.2.1.length : Int))) = false)) ∧
 (((v5_1h.2.2.2.2.2.1 == (0 : Int)) = true ∧ (decide (v5_1h.2.2.1 < (x0.2.1.length : Int))) = false) → ((v5_1h.2.2.2.2.2.1 == (0 : Int)) = true ∧ (decide (v5_1h.2.2.1 < (x0.2.1.length : Int))) = false)) ∧
 (((v5_1h.2.2.2.2.2.1 == (0 : Int)) = true ∧ (decide (v5_1h.2.2.1 < (x0.2.1.length : Int))) = false) → ((v5_1h.2.2.2.2.2.1 == (0 : Int)) = true ∧ (decide (v5_1h.2.2.1 < (x0.2.1.length : Int))) = false)) ∧
 ((v5_1h.2.2.2.2.2.1 == (0 : Int)) = true → (v5_1h.2.2.2.2.2.1 == (0 : Int)) = true) ∧
 ((v5_1h.2.2.2.2.2.1 == (0 : Int)) = true → ((decide (v5_1h.2.2.1 < (x0.2.1.length : Int))) = false → ((v5_1h.2.2.2.2.2.1 == (0 : Int)) = true ∧ (decide (v5_1h.2.2.1 < (x0.2.1.length : Int))) = false))) ∧
 ((v5_1h.2.2.2.2.2.1 == (0 : Int)) = true → (v5_1h.2.2.2.2.2.1 == (0 : Int)) = true) ∧
 (let v87 : Bool := (bif (v5_1h.2.2.2.2.2.1 == (0 : Int)) then (bif (decide (v5_1h.2.2.1 < (x0.2.1.length : Int))) then true else (decide (v5_1h.2.2.2.1 < (x0.2.2.1.length : Int)))) else false)
 ((v87 = true →
 (let v5_2h : ((Int × ((List Bool) × ((List (List Int)) × Unit))) × ((List Int) × (Int × (Int × ((List (Int × ((List Int) × Unit))) × (Int × Unit)))))) := (v5_1h.1, (v5_1h.2.1, (v5_1h.2.2.1, (v5_1h.2.2.2.1, (v5_1h.2.2.2.2.1, ((2 : Int), v5_1h.2.2.2.2.2.2))))))
 (((v5_2h.2.2.2.2.2.1 != (0 : Int)) = true →
 (Ret3 (List.replicate 32 (0 : Int)) [] v5_2h.2.2.2.2.2.1 (RExtract.fn x0))) ∧
 ((v5_2h.2.2.2.2.2.1 != (0 : Int)) = false →
 (Ret3 v61 v1015060h (0 : Int) (RExtract.fn x0)))))) ∧
 (v87 = false →
 (((v5_1h.2.2.2.2.2.1 != (0 : Int)) = true →
 (Ret3 (List.replicate 32 (0 : Int)) [] v5_1h.2.2.2.2.2.1 (RExtract.fn x0))) ∧
 ((v5_1h.2.2.2.2.2.1 != (0 : Int)) = false →
 (Ret3 v61 v1015060h (0 : Int) (RExtract.fn x0)))))))))))))))))))))
theorem RExtract.vc : RExtract.VC := by
  intro x hp
  obtain ⟨c, fl, hs, ⟨⟩⟩ := x
  have hp : HashesOk hs := hp
  simp only [imp_self, true_and, and_true, Bool.cond_true_left, Bool.cond_false_right, Bool.or_eq_true, Bool.or_eq_false_iff, Bool.and_eq_true, Bool.and_eq_false_iff, decide_eq_true_eq, decide_eq_false_iff_not, Bool.not_eq_true', Bool.not_eq_false', beq_iff_eq, bne_iff_ne, ne_eq, beq_eq_false_iff_ne, bne_eq_false_iff_eq, Int.not_lt, Int.not_le, gt_iff_lt, ge_iff_le, Decidable.not_not, Bool.not_eq_true, Bool.not_eq_false]
  refine ⟨fun h => ret3.2 ?_, fun h => ?_⟩
  · simp only [RExtract.fn, extOf]; rw [if_pos h]; rfl
  refine ⟨fun h2 => ret3.2 ?_, fun h2 => ?_⟩
  · simp only [RExtract.fn, extOf]; rw [if_neg (by omega), if_pos h2]; rfl
  have hl := lvl_le 10 c (by simpa using h.2)
  have hq := pow10 hl
  have hfn : RExtract.fn (c, (fl, (hs, ()))) = extGo (rdV c (lvl c) 0 (fl, hs, [])) := by
    simp only [RExtract.fn, extOf]; rw [if_neg (by omega), if_neg (by omega)]
  rw [hfn]
  refine ⟨⟨0, rfl, rfl, by simp [wid]⟩, ?_⟩
  rintro v2 v5 v6 ⟨m, rfl, rfl, hm⟩
  simp only at hm
  have hw := wid_rng h.1 h.2 m
  refine ⟨fun hg => ?_, fun hg => ?_⟩
  · simp only at hg
    rw [half hw.1 hw.2]
    rw [lvl_big (by omega)] at hm
    have hs1 : (packC (c, (fl, (hs, ()))) (szs c m) (0, 0, [], 0)).2.1 = szs c m := rfl
    simp only [hs1]
    refine ⟨by omega, room_of (by simp [szs]; omega) (by omega), ⟨m + 1, ?_, rfl, ?_⟩, ?_⟩
    · rw [← szs_succ]; rfl
    · show m + 1 + lvl ((wid c m + 1) / 2) = lvl c; omega
    · simp only [RExtract.mes7]; omega
  · simp only at hg
    rw [lvl_small hg] at hm
    have hml : m = lvl c := by omega
    subst hml
    have hlen : ((packC (c, (fl, (hs, ()))) (szs c (lvl c)) (0, 0, [], 0)).2.1.length : Int) = lvl c + 1 := by
      show ((szs c (lvl c)).length : Int) = _
      simp [szs]
    rw [hlen, show ((lvl c : Int) + 1 - 1) = lvl c by omega, i64w (by omega) (by omega)]
    have hS : CSOk fl hs (0, 0, [], 0) := ⟨⟨by simp, by simp⟩, ⟨by simp, by simp⟩, by simp only [List.length_nil]; omega⟩
    have hsim := sim (sz := szs c (lvl c)) (c := c) hp (lvl c) 0 0 0 [] hS (fun j hj => szs_get (by omega))
    have hcan : CuRead.can (packC (c, (fl, (hs, ()))) (szs c (lvl c)) (0, 0, [], 0)) (lvl c) 0 := by
      refine ⟨lvl c + 1, ⟨⟨hp, by show fl.length ≤ 100000; omega, by show hs.length ≤ 100000; omega⟩, hS, ⟨by omega, by omega, by rw [hlen]; omega⟩, by omega, ?_⟩, ?_⟩
      · simp only [Int.toNat_natCast]; omega
      · simp only [Int.toNat_natCast]; omega
    have hv : CuRead.fn (packC (c, (fl, (hs, ()))) (szs c (lvl c)) (0, 0, [], 0)) (lvl c) 0 = (packC (c, (fl, (hs, ()))) (szs c (lvl c)) (cuV fl hs (szs c (lvl c)) (lvl c) 0 (0, 0, [], 0)).1, (cuV fl hs (szs c (lvl c)) (lvl c) 0 (0, 0, [], 0)).2) := by
      simp only [CuRead.fn, Int.toNat_natCast]; rfl
    rw [hv]
    have hok := (cuV_ok (sz := szs c (lvl c)) hp (lvl c) 0 _ hS).1
    rw [show ((0 : Int).toNat) = 0 from rfl, List.drop_zero, List.drop_zero] at hsim
    generalize rdV c (lvl c) 0 (fl, hs, []) = r at *
    generalize cuV fl hs (szs c (lvl c)) (lvl c) 0 (0, 0, [], 0) = q at *
    obtain ⟨⟨qa, qb, qlv, qe⟩, qh, qf⟩ := q
    obtain ⟨r0, rh, rf, re⟩ := r
    obtain ⟨e1, e2⟩ := hsim
    simp only at e1 e2
    obtain ⟨⟨o1, o2⟩, ⟨o3, o4⟩, _⟩ := hok
    simp only at o1 o2 o3 o4
    subst e1
    refine ⟨hcan, ?_⟩
    simp only [packC]
    have hext : extGo (r0, rh, rf, qe) = if qe ≠ 0 then (zeroH, [], qe) else if r0.1.length ≠ 0 ∨ r0.2.1.length ≠ 0 then (zeroH, [], 2) else (rh, r0.2.2, 0) := rfl
    rw [hext]
    by_cases hz : qe = 0
    · subst hz
      obtain ⟨e3, e4⟩ := e2 rfl
      cases e3
      subst e4
      simp only [List.length_drop]
      simp
      refine ⟨fun h3 => ret3.2 ?_, fun h3 h4 => ret3.2 ?_⟩
      · rw [if_pos (by omega)]; rfl
      · rw [if_neg (by omega)]
    · simp [hz]
      exact ret3.2 rfl

def MerkleExtracts.pre (x : Prt) : Prop := HashesOk x.2.2.1
def MerkleExtracts.fn (x : Prt) : Bool := true
noncomputable def MerkleExtracts.inv10 (x : Prt) (v : Int) : Prop := 0 ≤ v ∧ v ≤ (extOf x).2.1.length ∧ ((extOf x).2.1.length : Int) ≤ 100000
noncomputable def MerkleExtracts.mes10 (x : Prt) (v : Int) : Nat := ((extOf x).2.1.length - v).toNat
def MerkleExtracts.VC : Prop := ∀ (x0 : (Int × ((List Bool) × ((List (List Int)) × Unit)))), MerkleExtracts.pre x0 →
 MSane.pre ∧
 (((!(MSane.fn)) = true →
 (Ret1 false (MerkleExtracts.fn x0))) ∧
 ((!(MSane.fn)) = false →
 ((decide ((x0.2.1.length : Int) > (200 : Int))) = false → (decide ((x0.2.1.length : Int) > (200 : Int))) = false) ∧
 ((decide ((x0.2.1.length : Int) > (200 : Int))) = false → (decide ((x0.2.1.length : Int) > (200 : Int))) = false) ∧
 ((decide ((x0.2.1.length : Int) > (200 : Int))) = false → (decide ((x0.2.1.length : Int) > (200 : Int))) = false) ∧
 ((decide ((x0.2.1.length : Int) > (200 : Int))) = false → (decide ((x0.2.1.length : Int) > (200 : Int))) = false) ∧
 (let v21 : Bool := (bif (decide ((x0.2.1.length : Int) > (200 : Int))) then true else (decide ((x0.2.2.1.length : Int) > (200 : Int))))
 ((v21 = true →
 (Ret1 true (MerkleExtracts.fn x0))) ∧
 (v21 = false →
 MExtract.pre x0 ∧
 RExtract.pre x0 ∧
 (let v36 : Bool := (!(Ty.beq (.arr 32 (.int .u8)) (MExtract.fn x0).1 (RExtract.fn x0).1))
 (v36 = false → v36 = false) ∧
 (v36 = false → v36 = false) ∧
 (v36 = false → v36 = false) ∧
 (let v41 : Bool := (bif v36 then true else ((MExtract.fn x0).2.2 != (RExtract.fn x0).2.2))
 (v41 = false → v41 = false) ∧
 (v41 = false → v41 = false) ∧
 (v41 = false → v41 = false) ∧
 (v41 = false → v41 = false) ∧
 (v41 = false → v41 = false) ∧
 (let v48 : Bool := (bif v41 then true else (((MExtract.fn x0).2.1.length : Int) != ((RExtract.fn x0).2.1.length : Int)))
 ((v48 = true →
 (Ret1 false (MerkleExtracts.fn x0))) ∧
 (v48 = false →
 (MerkleExtracts.inv10 x0 (0 : Int) ∧
 ∀ (v51 : Int), MerkleExtracts.inv10 x0 v51 →
 (((decide (v51 < ((MExtract.fn x0).2.1.length : Int))) = true →
 (0 ≤ v51 ∧ v51 < ((MExtract.fn x0).2.1.length : Int)) ∧
 (let v57 : (Int × ((List Int) × Unit)) := ((MExtract.fn x0).2.1.getD (Int.toNat v51) ((0 : Int), ((List.replicate 32 (0 : Int)), ())))
 (0 ≤ v51 ∧ v51 < ((RExtract.fn x0).2.1.length : Int)) ∧
 (let v61 : (Int × ((List Int) × Unit)) := ((RExtract.fn x0).2.1.getD (Int.toNat v51) ((0 : Int), ((List.replicate 32 (0 : Int)), ())))
 (let v62 : Bool := (!(Ty.beq (.pair (.int .i64) (.pair (.arr 32 (.int .u8)) (.unit))) v57 v61))
 ((v62 = true →
 (Ret1 false (MerkleExtracts.fn x0))) ∧
 (v62 = false →
 (MerkleExtracts.inv10 x0 (IntKind.i64.wrap (v51 + (1 : Int))) ∧ MerkleExtracts.mes10 x0 (IntKind.i64.wrap (v51 + (1 : Int))) < MerkleExtracts.mes10 x0 v51))))))) ∧
 ((decide (v51 < ((MExtract.fn x0).2.1.length : Int))) = false →
 (Ret1 true (MerkleExtracts.fn x0)))))))))))))))
theorem ext_len {x : Prt} (h : HashesOk x.2.2.1) (h2 : x.2.2.1.length ≤ 100000) : (extOf x).2.1.length ≤ 100000 := by
  have hr := (rdV_ok x.1 (lvl x.1) 0 (x.2.1, x.2.2.1, []) ⟨h, by simpa using h2⟩).1.2
  unfold extOf
  split
  · simp
  · split
    · simp
    · unfold extGo
      split
      · simp
      · split
        · simp
        · simp only; omega
theorem MerkleExtracts.vc : MerkleExtracts.VC := by
  intro x hp
  have e1 : MExtract.fn x = extOf x := rfl
  have e2 : RExtract.fn x = extOf x := rfl
  simp only [e1, e2, beq_self]
  simp only [imp_self, true_and, and_true, Bool.cond_true_left, Bool.cond_false_right, Bool.or_eq_true, Bool.or_eq_false_iff, Bool.and_eq_true, Bool.and_eq_false_iff, decide_eq_true_eq, decide_eq_false_iff_not, Bool.not_eq_true', Bool.not_eq_false', beq_iff_eq, bne_iff_ne, ne_eq, beq_eq_false_iff_ne, bne_eq_false_iff_eq, Int.not_lt, Int.not_le, gt_iff_lt, ge_iff_le, Decidable.not_not, Bool.not_eq_true, Bool.not_eq_false]
  refine ⟨trivial, fun h => by simp [MSane.fn] at h, fun _ => ⟨fun _ => rfl, fun h => ?_⟩⟩
  have hl := ext_len hp (by omega)
  refine ⟨hp, hp, fun h3 => by simp at h3, fun _ => ⟨⟨by omega, by omega, by omega⟩, ?_⟩⟩
  rintro v ⟨k1, k2, k3⟩
  refine ⟨fun hc => ⟨⟨k1, hc⟩, ⟨k1, hc⟩, fun h3 => (by cases h3), fun _ => ?_⟩, fun _ => rfl⟩
  rw [i64w (by omega) (by omega)]
  exact ⟨⟨by omega, by omega, k3⟩, by simp only [MerkleExtracts.mes10]; omega⟩
end Lc
