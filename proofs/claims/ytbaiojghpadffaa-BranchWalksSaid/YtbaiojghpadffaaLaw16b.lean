/- Chapter 16: paths. -/
import Derived.Test.YtbaiojghpadffaaLaw16
import Derived.Test.YtbaiojghpadffaaRev
namespace Lc
open Go
set_option maxRecDepth 10000
set_option linter.unusedVariables false
set_option linter.unusedSimpArgs false

noncomputable def cmnT (t : Tr) (a b : Int) : Nat := cmn (lineOf t a) (lineOf t b)
noncomputable def pathOf (t : Tr) (a b : Int) : List Int × List Int := if Snd t ∧ Nod t a ∧ Nod t b then (((lineOf t a).drop (cmnT t a b)).reverse, (lineOf t b).drop (cmnT t a b)) else ([], [])

def BPath.pre (_ : Tr) (_ _ : Int) : Prop := True
noncomputable def BPath.fn (t : Tr) (a b : Int) : List Int × List Int := pathOf t a b
def BPath.VC : Prop := ∀ (x0 : ((List ((Int × ((List Int) × ((List Int) × (Int × (Int × (Int × Unit)))))) × ((List Int) × (Int × (Int × ((List Int) × Unit)))))) × (Int × Unit))) (x1 : Int) (x2 : Int), BPath.pre x0 x1 x2 →
 BSound.pre x0 ∧
 ((!(BSound.fn x0)) = false → (!(BSound.fn x0)) = false) ∧
 ((!(BSound.fn x0)) = false → (!(BSound.fn x0)) = false) ∧
 ((!(BSound.fn x0)) = false → BNode.pre x0 x1) ∧
 ((!(BSound.fn x0)) = false → (!(BSound.fn x0)) = false) ∧
 ((!(BSound.fn x0)) = false → (!(BSound.fn x0)) = false) ∧
 ((bif (!(BSound.fn x0)) then true else (!(BNode.fn x0 x1))) = false → (bif (!(BSound.fn x0)) then true else (!(BNode.fn x0 x1))) = false) ∧
 ((bif (!(BSound.fn x0)) then true else (!(BNode.fn x0 x1))) = false → (bif (!(BSound.fn x0)) then true else (!(BNode.fn x0 x1))) = false) ∧
 ((bif (!(BSound.fn x0)) then true else (!(BNode.fn x0 x1))) = false → BNode.pre x0 x2) ∧
 ((bif (!(BSound.fn x0)) then true else (!(BNode.fn x0 x1))) = false → (bif (!(BSound.fn x0)) then true else (!(BNode.fn x0 x1))) = false) ∧
 ((bif (!(BSound.fn x0)) then true else (!(BNode.fn x0 x1))) = false → (bif (!(BSound.fn x0)) then true else (!(BNode.fn x0 x1))) = false) ∧
 (let v23 : Bool := (bif (bif (!(BSound.fn x0)) then true else (!(BNode.fn x0 x1))) then true else (!(BNode.fn x0 x2)))
 ((v23 = true →
 (Ret2 [] [] (BPath.fn x0 x1 x2))) ∧
 (v23 = false →
 BLine.pre x0 x1 ∧
 BLine.pre x0 x2 ∧
 BCommon.pre (BLine.fn x0 x1) (BLine.fn x0 x2) ∧
 (0 ≤ (BCommon.fn (BLine.fn x0 x1) (BLine.fn x0 x2)) ∧ (BCommon.fn (BLine.fn x0 x1) (BLine.fn x0 x2)) ≤ ((BLine.fn x0 x1).length : Int) ∧ ((BLine.fn x0 x1).length : Int) ≤ ((BLine.fn x0 x1).length : Int)) ∧
 (0 ≤ (BCommon.fn (BLine.fn x0 x1) (BLine.fn x0 x2)) ∧ (BCommon.fn (BLine.fn x0 x1) (BLine.fn x0 x2)) ≤ ((BLine.fn x0 x2).length : Int) ∧ ((BLine.fn x0 x2).length : Int) ≤ ((BLine.fn x0 x2).length : Int)) ∧
 (Int.toNat (BCommon.fn (BLine.fn x0 x1) (BLine.fn x0 x2))) + ((Int.toNat ((BLine.fn x0 x1).length : Int)) - (Int.toNat (BCommon.fn (BLine.fn x0 x1) (BLine.fn x0 x2)))) ≤ (BLine.fn x0 x1).length ∧
 RevPre (((BLine.fn x0 x1).drop (Int.toNat (BCommon.fn (BLine.fn x0 x1) (BLine.fn x0 x2)))).take ((Int.toNat ((BLine.fn x0 x1).length : Int)) - (Int.toNat (BCommon.fn (BLine.fn x0 x1) (BLine.fn x0 x2))))) ∧
 (let v26h : (List Int) := ((BLine.fn x0 x1).take (Int.toNat (BCommon.fn (BLine.fn x0 x1) (BLine.fn x0 x2))) ++ (RevFn (((BLine.fn x0 x1).drop (Int.toNat (BCommon.fn (BLine.fn x0 x1) (BLine.fn x0 x2)))).take ((Int.toNat ((BLine.fn x0 x1).length : Int)) - (Int.toNat (BCommon.fn (BLine.fn x0 x1) (BLine.fn x0 x2))))) ++ (BLine.fn x0 x1).drop ((Int.toNat (BCommon.fn (BLine.fn x0 x1) (BLine.fn x0 x2))) + ((Int.toNat ((BLine.fn x0 x1).length : Int)) - (Int.toNat (BCommon.fn (BLine.fn x0 x1) (BLine.fn x0 x2)))))))
 ((Int.toNat (BCommon.fn (BLine.fn x0 x1) (BLine.fn x0 x2))) + ((Int.toNat ((BLine.fn x0 x1).length : Int)) - (Int.toNat (BCommon.fn (BLine.fn x0 x1) (BLine.fn x0 x2)))) ≤ v26h.length ∧ (Int.toNat (BCommon.fn (BLine.fn x0 x1) (BLine.fn x0 x2))) + ((Int.toNat ((BLine.fn x0 x2).length : Int)) - (Int.toNat (BCommon.fn (BLine.fn x0 x1) (BLine.fn x0 x2)))) ≤ (BLine.fn x0 x2).length ∧ Ret2 ((v26h.drop (Int.toNat (BCommon.fn (BLine.fn x0 x1) (BLine.fn x0 x2)))).take ((Int.toNat ((BLine.fn x0 x1).length : Int)) - (Int.toNat (BCommon.fn (BLine.fn x0 x1) (BLine.fn x0 x2))))) (((BLine.fn x0 x2).drop (Int.toNat (BCommon.fn (BLine.fn x0 x1) (BLine.fn x0 x2)))).take ((Int.toNat ((BLine.fn x0 x2).length : Int)) - (Int.toNat (BCommon.fn (BLine.fn x0 x1) (BLine.fn x0 x2))))) (BPath.fn x0 x1 x2))))))
theorem line_le {t : Tr} (hs : Snd t) {a : Int} (ha : Nod t a) : (lineOf t a).length ≤ 4096 := by
  have h1 := hgt_nn hs ha
  have h2 := ha.2
  have h3 : (t.1.length : Int) ≤ 4096 := by have := hs.1.2; omega
  have hl := lineOf_len t a
  omega
theorem BPath.vc : BPath.VC := by
  intro t a b _
  simp only [imp_self, true_and, and_true, Bool.cond_true_left, Bool.cond_false_right, Bool.or_eq_true, Bool.or_eq_false_iff, Bool.and_eq_true, Bool.and_eq_false_iff, decide_eq_true_eq, decide_eq_false_iff_not, Bool.not_eq_true', Bool.not_eq_false', beq_iff_eq, bne_iff_ne, ne_eq, beq_eq_false_iff_ne, bne_eq_false_iff_eq, Int.not_lt, Int.not_le, gt_iff_lt, ge_iff_le, Decidable.not_not, Bool.not_eq_true, Bool.not_eq_false]
  try simp only [par_fold, hgt_fold, hsh_fold]
  simp only [BSound.fn, BNode.fn, decide_eq_false_iff_not, decide_eq_true_eq]
  refine ⟨trivial, fun _ => trivial, fun _ => trivial, ?_, ?_⟩
  · intro hh
    refine ret2.2 ?_
    simp only [BPath.fn, pathOf]
    rw [if_neg]
    rintro ⟨a1, a2, a3⟩
    rcases hh with (hh | hh) | hh
    · exact hh a1
    · exact hh a2
    · exact hh a3
  · rintro ⟨⟨a1, a2⟩, a3⟩
    have l1 := line_le a1 a2
    have l2 := line_le a1 a3
    have hc := cmn_spec (lineOf t a) (lineOf t b)
    have hf : BPath.fn t a b = (((lineOf t a).drop (cmnT t a b)).reverse, (lineOf t b).drop (cmnT t a b)) := by
      simp only [BPath.fn, pathOf]; rw [if_pos ⟨a1, a2, a3⟩]
    rw [hf]
    simp only [BLine.fn, BCommon.fn, cmnT]
    generalize lineOf t a = x at *
    generalize lineOf t b = y at *
    generalize cmn x y = c at *
    obtain ⟨c1, c2, _⟩ := hc
    have e1 : Int.toNat (c : Int) = c := by omega
    have e2 : Int.toNat (x.length : Int) = x.length := by omega
    have e3 : Int.toNat (y.length : Int) = y.length := by omega
    rw [e1, e2, e3]
    have e4 : (x.drop c).take (x.length - c) = x.drop c := List.take_of_length_le (by simp)
    have e5 : (y.drop c).take (y.length - c) = y.drop c := List.take_of_length_le (by simp)
    have e6 : c + (x.length - c) = x.length := by omega
    rw [e4, e5, e6]
    have e7 : x.drop x.length = [] := List.drop_eq_nil_of_le (Nat.le_refl _)
    rw [e7, List.append_nil]
    have e8 : (x.take c).length = c := by simp; omega
    have e9 : (x.take c ++ RevFn (x.drop c)).length = x.length := by simp [RevFn]; omega
    refine ⟨⟨a1, a2⟩, ⟨a1, a3⟩, (by show x.length ≤ 1000000000; omega), by omega, by omega, by omega, (by show (x.drop c).length ≤ _; simp; omega), by omega, by omega, ret2.2 ?_⟩
    rw [List.drop_append, e8, List.drop_eq_nil_of_le (by omega), Nat.sub_self, List.drop_zero, List.nil_append, List.take_of_length_le (by simp [RevFn])]
    rfl

theorem drop_get {x : List Int} {v : Nat} (h : v < x.length) : x.drop v = x.getD v 0 :: x.drop (v + 1) := by
  rw [List.drop_eq_getElem_cons h]; simp [List.getD_eq_getElem?_getD, h]

def QPath.pre (_ : Tr) (_ _ : Int) : Prop := True
noncomputable def QPath.fn (t : Tr) (a b : Int) : List Int × List Int := pathOf t a b
noncomputable def QPath.inv6 (t : Tr) (a b : Int) (v6 : List Int) (v11 : Int) : Prop := (cmnT t a b : Int) - 1 ≤ v11 ∧ v11 < (lineOf t a).length ∧ v6 = ((lineOf t a).drop (v11 + 1).toNat).reverse
def QPath.mes6 (t : Tr) (a b : Int) (v6 : List Int) (v11 : Int) : Nat := (v11 + 1).toNat
def QPath.VC : Prop := ∀ (x0 : ((List ((Int × ((List Int) × ((List Int) × (Int × (Int × (Int × Unit)))))) × ((List Int) × (Int × (Int × ((List Int) × Unit)))))) × (Int × Unit))) (x1 : Int) (x2 : Int), QPath.pre x0 x1 x2 →
 QNode.pre x0 x1 ∧
 ((!(QNode.fn x0 x1)) = false → (!(QNode.fn x0 x1)) = false) ∧
 ((!(QNode.fn x0 x1)) = false → (!(QNode.fn x0 x1)) = false) ∧
 ((!(QNode.fn x0 x1)) = false → QNode.pre x0 x2) ∧
 ((!(QNode.fn x0 x1)) = false → (!(QNode.fn x0 x1)) = false) ∧
 ((!(QNode.fn x0 x1)) = false → (!(QNode.fn x0 x1)) = false) ∧
 (((bif (!(QNode.fn x0 x1)) then true else (!(QNode.fn x0 x2))) = true →
 (Ret2 [] [] (QPath.fn x0 x1 x2))) ∧
 ((bif (!(QNode.fn x0 x1)) then true else (!(QNode.fn x0 x2))) = false →
 QFork.pre x0 x1 x2 ∧
 (0 ≤ (QFork.fn x0 x1 x2) ∧ (QFork.fn x0 x1 x2) < (x0.1.length : Int)) ∧
 (let v30 : Int := (x0.1.getD (Int.toNat (QFork.fn x0 x1 x2)) (((0 : Int), ((List.replicate 32 (0 : Int)), ((List.replicate 32 (0 : Int)), ((0 : Int), ((0 : Int), ((0 : Int), ())))))), ((List.replicate 32 (0 : Int)), ((0 : Int), ((0 : Int), ((List.replicate 4 (0 : Int)), ())))))).2.2.2.1
 QLine.pre x0 x1 ∧
 QLine.pre x0 x2 ∧
 (let v39 : Int := (IntKind.i64.wrap (((QLine.fn x0 x1).length : Int) - (1 : Int)))
 (QPath.inv6 x0 x1 x2 [] v39 ∧
 ∀ (v6 : (List Int)) (v11 : Int), QPath.inv6 x0 x1 x2 v6 v11 →
 (((decide (v11 > v30)) = true →
 (0 ≤ v11 ∧ v11 < ((QLine.fn x0 x1).length : Int)) ∧
 Room (v6.length + [((QLine.fn x0 x1).getD (Int.toNat v11) (0 : Int))].length) 8 ∧
 (QPath.inv6 x0 x1 x2 (v6 ++ [((QLine.fn x0 x1).getD (Int.toNat v11) (0 : Int))]) (IntKind.i64.wrap (v11 - (1 : Int))) ∧ QPath.mes6 x0 x1 x2 (v6 ++ [((QLine.fn x0 x1).getD (Int.toNat v11) (0 : Int))]) (IntKind.i64.wrap (v11 - (1 : Int))) < QPath.mes6 x0 x1 x2 v6 v11)) ∧
 ((decide (v11 > v30)) = false →
 (0 ≤ (IntKind.i64.wrap (v30 + (1 : Int))) ∧ (IntKind.i64.wrap (v30 + (1 : Int))) ≤ ((QLine.fn x0 x2).length : Int) ∧ ((QLine.fn x0 x2).length : Int) ≤ ((QLine.fn x0 x2).length : Int)) ∧
 (let v57 : (List Int) := (((QLine.fn x0 x2).drop (Int.toNat (IntKind.i64.wrap (v30 + (1 : Int))))).take ((Int.toNat ((QLine.fn x0 x2).length : Int)) - (Int.toNat (IntKind.i64.wrap (v30 + (1 : Int))))))
 Room v57.length 8 ∧
 (Ret2 v6 v57 (QPath.fn x0 x1 x2))))))))))
theorem fork_hgt {t : Tr} {a b : Int} (hs : Snd t) (ha : Nod t a) (hb : Nod t b) : Nod t (forkOf t a b) ∧ hgt t (forkOf t a b) = (cmnT t a b : Int) - 1 ∧ 1 ≤ cmnT t a b := by
  have hp := cmn_pos hs ha hb
  have hc := (cmn_spec (lineOf t a) (lineOf t b)).1
  have hl := lineOf_len t a
  have h1 := (hgt_nn hs ha).1
  have := lineOf_nod hs ha (h := cmn (lineOf t a) (lineOf t b) - 1) (by omega)
  have hf : forkOf t a b = (lineOf t a).getD (cmn (lineOf t a) (lineOf t b) - 1) 0 := by rw [forkOf, if_pos ⟨hs, ha, hb⟩]
  rw [hf]
  refine ⟨this.1, ?_, hp⟩
  rw [this.2]
  simp only [cmnT]; omega
theorem QPath.vc : QPath.VC := by
  intro t a b _
  simp only [imp_self, true_and, and_true, Bool.cond_true_left, Bool.cond_false_right, Bool.or_eq_true, Bool.or_eq_false_iff, Bool.and_eq_true, Bool.and_eq_false_iff, decide_eq_true_eq, decide_eq_false_iff_not, Bool.not_eq_true', Bool.not_eq_false', beq_iff_eq, bne_iff_ne, ne_eq, beq_eq_false_iff_ne, bne_eq_false_iff_eq, Int.not_lt, Int.not_le, gt_iff_lt, ge_iff_le, Decidable.not_not, Bool.not_eq_true, Bool.not_eq_false]
  try simp only [par_fold, hgt_fold, hsh_fold]
  simp only [QNode.fn, decide_eq_false_iff_not, decide_eq_true_eq, QLine.fn]
  refine ⟨trivial, fun _ => trivial, ?_, ?_⟩
  · intro hh
    refine ret2.2 ?_
    simp only [QPath.fn, pathOf]
    rw [if_neg]
    rintro ⟨a1, a2, a3⟩
    rcases hh with hh | hh
    · exact hh ⟨a2, a1⟩
    · exact hh ⟨a3, a1⟩
  · rintro ⟨⟨a2, a1⟩, a3, _⟩
    obtain ⟨f1, f2, f3⟩ := fork_hgt a1 a2 a3
    have l1 := line_le a1 a2
    have l2 := line_le a1 a3
    have hc := cmn_spec (lineOf t a) (lineOf t b)
    have hf : QPath.fn t a b = (((lineOf t a).drop (cmnT t a b)).reverse, (lineOf t b).drop (cmnT t a b)) := by
      simp only [QPath.fn, pathOf]; rw [if_pos ⟨a1, a2, a3⟩]
    have hff : QFork.fn t a b = forkOf t a b := rfl
    rw [hf, hff, f2]
    have hcc : cmnT t a b = cmn (lineOf t a) (lineOf t b) := rfl
    rw [← hcc] at hc
    obtain ⟨c1, c2, _⟩ := hc
    have hln : 1 ≤ (lineOf t a).length := by omega
    rw [i64w (n := ((lineOf t a).length : Int) - 1) (by omega) (by omega)]
    refine ⟨trivial, f1, ⟨a1, a2⟩, ⟨a1, a3⟩, ⟨by omega, by omega, ?_⟩, ?_⟩
    · rw [show (((lineOf t a).length : Int) - 1 + 1).toNat = (lineOf t a).length by omega, List.drop_eq_nil_of_le (Nat.le_refl _)]; rfl
    rintro v6 v11 ⟨k1, k2, rfl⟩
    refine ⟨fun hc => ?_, fun hc => ?_⟩
    · rw [i64w (n := v11 - 1) (by omega) (by omega)]
      refine ⟨by omega, room_of (by simp; omega) (by omega), ⟨by omega, by omega, ?_⟩, by simp only [QPath.mes6]; omega⟩
      rw [show (v11 - 1 + 1).toNat = v11.toNat by omega, drop_get (x := lineOf t a) (v := v11.toNat) (by omega), List.reverse_cons, show (v11 + 1).toNat = v11.toNat + 1 by omega]
    · rw [i64w (n := (cmnT t a b : Int) - 1 + 1) (by omega) (by omega)]
      have e1 : ((cmnT t a b : Int) - 1 + 1).toNat = cmnT t a b := by omega
      have e2 : (v11 + 1).toNat = cmnT t a b := by omega
      have e3 : Int.toNat ((lineOf t b).length : Int) = (lineOf t b).length := by omega
      rw [e1, e2, e3]
      refine ⟨by omega, room_of (by simp; omega) (by omega), ret2.2 ?_⟩
      rw [List.take_of_length_le (by simp)]

def BranchPaths.pre (t : Tr) (l : List Int) (a b : Int) : Prop := U8s l
def BranchPaths.fn (t : Tr) (l : List Int) (a b : Int) : Bool := true
def BranchPaths.inv6 (t : Tr) (l : List Int) (a b v : Int) : Prop := 0 ≤ v ∧ v ≤ 2
def BranchPaths.mes6 (t : Tr) (l : List Int) (a b v : Int) : Nat := (2 - v).toNat
def BranchPaths.VC : Prop := ∀ (x0 : ((List ((Int × ((List Int) × ((List Int) × (Int × (Int × (Int × Unit)))))) × ((List Int) × (Int × (Int × ((List Int) × Unit)))))) × (Int × Unit))) (x1 : (List Int)) (x2 : Int) (x3 : Int), BranchPaths.pre x0 x1 x2 x3 →
 LSane.pre ∧
 (((!(LSane.fn)) = true →
 (Ret1 false (BranchPaths.fn x0 x1 x2 x3))) ∧
 ((!(LSane.fn)) = false →
 KTree.pre x0 (30 : Int) ∧
 (((!(KTree.fn x0 (30 : Int))) = true →
 (Ret1 true (BranchPaths.fn x0 x1 x2 x3))) ∧
 ((!(KTree.fn x0 (30 : Int))) = false →
 LLine.pre x1 ∧
 (BranchPaths.inv6 x0 x1 x2 x3 (0 : Int) ∧
 ∀ (v25 : Int), BranchPaths.inv6 x0 x1 x2 x3 v25 →
 (((decide (v25 < ([x0, (LLine.fn x1)].length : Int))) = true →
 (0 ≤ v25 ∧ v25 < ([x0, (LLine.fn x1)].length : Int)) ∧
 (let v28 : ((List ((Int × ((List Int) × ((List Int) × (Int × (Int × (Int × Unit)))))) × ((List Int) × (Int × (Int × ((List Int) × Unit)))))) × (Int × Unit)) := ([x0, (LLine.fn x1)].getD (Int.toNat v25) ([], ((0 : Int), ())))
 BPath.pre v28 x2 x3 ∧
 QPath.pre v28 x2 x3 ∧
 QSameInts.pre ((BPath.fn v28 x2 x3).1) ((QPath.fn v28 x2 x3).1) ∧
 (let v45 : Bool := (QSameInts.fn ((BPath.fn v28 x2 x3).1) ((QPath.fn v28 x2 x3).1))
 ((!v45) = false → (!v45) = false) ∧
 ((!v45) = false → (!v45) = false) ∧
 ((!v45) = false → QSameInts.pre ((BPath.fn v28 x2 x3).2) ((QPath.fn v28 x2 x3).2)) ∧
 ((!v45) = false → (!v45) = false) ∧
 ((!v45) = false → (!v45) = false) ∧
 (let v52 : Bool := (bif (!v45) then true else (!(QSameInts.fn ((BPath.fn v28 x2 x3).2) ((QPath.fn v28 x2 x3).2))))
 ((v52 = true →
 (Ret1 false (BranchPaths.fn x0 x1 x2 x3))) ∧
 (v52 = false →
 (BranchPaths.inv6 x0 x1 x2 x3 (IntKind.i64.wrap (v25 + (1 : Int))) ∧ BranchPaths.mes6 x0 x1 x2 x3 (IntKind.i64.wrap (v25 + (1 : Int))) < BranchPaths.mes6 x0 x1 x2 x3 v25))))))) ∧
 ((decide (v25 < ([x0, (LLine.fn x1)].length : Int))) = false →
 (Ret1 true (BranchPaths.fn x0 x1 x2 x3)))))))))
theorem path_len (t : Tr) (a b : Int) : (pathOf t a b).1.length ≤ 1000000000 ∧ (pathOf t a b).2.length ≤ 1000000000 := by
  unfold pathOf
  split
  · rename_i h
    have l1 := line_le h.1 h.2.1
    have l2 := line_le h.1 h.2.2
    constructor <;> simp <;> omega
  · simp
theorem BranchPaths.vc : BranchPaths.VC := by
  intro t l a b hp
  have hm : ∀ u, BPath.fn u a b = pathOf u a b := fun _ => rfl
  have ha : ∀ u, QPath.fn u a b = pathOf u a b := fun _ => rfl
  have hq : ∀ x, QSameInts.fn x x = true := fun x => decide_eq_true rfl
  simp only [hm, ha, hq]
  simp only [imp_self, true_and, and_true, Bool.cond_true_left, Bool.cond_false_right, Bool.or_eq_true, Bool.or_eq_false_iff, Bool.and_eq_true, Bool.and_eq_false_iff, decide_eq_true_eq, decide_eq_false_iff_not, Bool.not_eq_true', Bool.not_eq_false', beq_iff_eq, bne_iff_ne, ne_eq, beq_eq_false_iff_ne, bne_eq_false_iff_eq, Int.not_lt, Int.not_le, gt_iff_lt, ge_iff_le, Decidable.not_not, Bool.not_eq_true, Bool.not_eq_false]
  try simp only [par_fold, hgt_fold, hsh_fold]
  refine ⟨trivial, fun h => by simp [LSane.fn] at h, fun _ => ⟨trivial, fun _ => rfl, fun _ => ⟨hp, ⟨by omega, by omega⟩, ?_⟩⟩⟩
  rintro v ⟨k1, k2⟩
  simp only [List.length_cons, List.length_nil]
  refine ⟨fun hc => ?_, fun _ => rfl⟩
  rw [i64w (n := v + 1) (by omega) (by omega)]
  generalize ([t, LLine.fn l].getD v.toNat ([], (0, ()))) = u
  refine ⟨⟨k1, hc⟩, trivial, trivial, (path_len u a b).1, ?_⟩
  have := (path_len u a b).2
  simp [BranchPaths.inv6, BranchPaths.mes6, QSameInts.pre]
  omega

theorem cmn_comm : ∀ (a b : List Int), cmn a b = cmn b a
  | [], [] => rfl
  | [], _ :: _ => rfl
  | _ :: _, [] => rfl
  | x :: xs, y :: ys => by
    simp only [cmn]
    by_cases h : x = y
    · rw [if_pos h, if_pos h.symm, cmn_comm xs ys]
    · rw [if_neg h, if_neg (fun e => h e.symm)]
theorem fork_comm {t : Tr} {a b : Int} : forkOf t a b = forkOf t b a := by
  unfold forkOf
  by_cases h : Snd t ∧ Nod t a ∧ Nod t b
  · rw [if_pos h, if_pos ⟨h.1, h.2.2, h.2.1⟩, cmn_comm (lineOf t b) (lineOf t a)]
    have hp := cmn_pos h.1 h.2.1 h.2.2
    exact (cmn_spec (lineOf t a) (lineOf t b)).2.2 _ (by omega)
  · rw [if_neg h, if_neg (fun e => h ⟨e.1, e.2.2, e.2.1⟩)]
theorem par_line {t : Tr} {n : Int} {h : Nat} (hh : (h : Int) + 1 ≤ hgt t n) : par t ((lineOf t n).getD (h + 1) 0) = (lineOf t n).getD h 0 := by
  rw [lineOf_get (h := h + 1) (by omega), lineOf_get (h := h) (by omega)]
  rw [show (hgt t n).toNat - h = ((hgt t n).toNat - (h + 1)) + 1 by omega]; rfl
theorem line_top {t : Tr} (hs : Snd t) {n : Int} (hn : Nod t n) : (lineOf t n).getD (hgt t n).toNat 0 = n := by
  have := (hgt_nn hs hn).1
  rw [lineOf_get (by omega), Nat.sub_self]; rfl

def wDown (l : List Int) (a b : Int) : List Int := (lineOf (LLine.fn l) (shortK l a)).drop (cmn (lineOf (LLine.fn l) (shortK l a)) (lineOf (LLine.fn l) (shortK l b)))
def BranchWalks.pre (l : List Int) (a b : Int) : Prop := U8s l ∧ (0 ≤ a ∧ a ≤ 255) ∧ (0 ≤ b ∧ b ≤ 255)
def BranchWalks.fn (l : List Int) (a b : Int) : Bool := true
def BranchWalks.inv9 (l : List Int) (a b : Int) (t : Tr) (v14 v53 : Int) : Prop := t = LLine.fn l ∧ 0 ≤ v53 ∧ v53 ≤ (wDown l a b).length ∧ v14 = anc (LLine.fn l) v53.toNat (shortK l a)
def BranchWalks.mes9 (l : List Int) (a b : Int) (t : Tr) (v14 v53 : Int) : Nat := ((wDown l a b).length - v53).toNat
noncomputable def BranchWalks.inv18 (l : List Int) (a b : Int) (t : Tr) (v14 v83 : Int) : Prop := t = LLine.fn l ∧ 0 ≤ v83 ∧ v83 ≤ (wDown l b a).length ∧ v14 = (lineOf (LLine.fn l) (shortK l b)).getD (cmnT (LLine.fn l) (shortK l a) (shortK l b) - 1 + v83.toNat) 0
def BranchWalks.mes18 (l : List Int) (a b : Int) (t : Tr) (v14 v83 : Int) : Nat := ((wDown l b a).length - v83).toNat
def BranchWalks.inv27 (l : List Int) (a b v : Int) : Prop := 0 ≤ v ∧ v ≤ (wDown l b a).length
def BranchWalks.mes27 (l : List Int) (a b v : Int) : Nat := ((wDown l b a).length - v).toNat
def BranchWalks.VC : Prop := ∀ (x0 : (List Int)) (x1 : Int) (x2 : Int), BranchWalks.pre x0 x1 x2 →
 LSane.pre ∧
 (((!(LSane.fn)) = true →
 (Ret1 false (BranchWalks.fn x0 x1 x2))) ∧
 ((!(LSane.fn)) = false →
 LLine.pre x0 ∧
 ((LLine.fn x0).1.length : Int) ≠ 0 ∧
 (let v29 : Int := (Int.tmod (IntKind.i64.wrap x1) ((LLine.fn x0).1.length : Int))
 ((LLine.fn x0).1.length : Int) ≠ 0 ∧
 (let v35 : Int := (Int.tmod (IntKind.i64.wrap x2) ((LLine.fn x0).1.length : Int))
 BPath.pre (LLine.fn x0) v29 v35 ∧
 BPath.pre (LLine.fn x0) v35 v29 ∧
 (BranchWalks.inv9 x0 x1 x2 (LLine.fn x0) v29 (0 : Int) ∧
 ∀ (v7 : ((List ((Int × ((List Int) × ((List Int) × (Int × (Int × (Int × Unit)))))) × ((List Int) × (Int × (Int × ((List Int) × Unit)))))) × (Int × Unit))) (v14 : Int) (v53 : Int), BranchWalks.inv9 x0 x1 x2 v7 v14 v53 →
 (let v54 : Bool := (decide (v53 < ((BPath.fn (LLine.fn x0) v29 v35).1.length : Int)))
 ((v54 = true →
 (0 ≤ v53 ∧ v53 < ((BPath.fn (LLine.fn x0) v29 v35).1.length : Int)) ∧
 (let v56 : Int := ((BPath.fn (LLine.fn x0) v29 v35).1.getD (Int.toNat v53) (0 : Int))
 (((v56 != v14) = true →
 (Ret1 false (BranchWalks.fn x0 x1 x2))) ∧
 ((v56 != v14) = false →
 (0 ≤ v56 ∧ v56 < (v7.1.length : Int)) ∧
 (let v65 : Int := (v7.1.getD (Int.toNat v56) (((0 : Int), ((List.replicate 32 (0 : Int)), ((List.replicate 32 (0 : Int)), ((0 : Int), ((0 : Int), ((0 : Int), ())))))), ((List.replicate 32 (0 : Int)), ((0 : Int), ((0 : Int), ((List.replicate 4 (0 : Int)), ())))))).2.2.1
 (BranchWalks.inv9 x0 x1 x2 v7 v65 (IntKind.i64.wrap (v53 + (1 : Int))) ∧ BranchWalks.mes9 x0 x1 x2 v7 v65 (IntKind.i64.wrap (v53 + (1 : Int))) < BranchWalks.mes9 x0 x1 x2 v7 v14 v53)))))) ∧
 (v54 = false →
 BFork.pre v7 v29 v35 ∧
 ((v14 != (BFork.fn v7 v29 v35)) = false → (v14 != (BFork.fn v7 v29 v35)) = false) ∧
 ((v14 != (BFork.fn v7 v29 v35)) = false → (v14 != (BFork.fn v7 v29 v35)) = false) ∧
 ((v14 != (BFork.fn v7 v29 v35)) = false → (v14 != (BFork.fn v7 v29 v35)) = false) ∧
 ((v14 != (BFork.fn v7 v29 v35)) = false → BFork.pre v7 v35 v29) ∧
 ((v14 != (BFork.fn v7 v29 v35)) = false → (v14 != (BFork.fn v7 v29 v35)) = false) ∧
 ((v14 != (BFork.fn v7 v29 v35)) = false → (v14 != (BFork.fn v7 v29 v35)) = false) ∧
 ((v14 != (BFork.fn v7 v29 v35)) = false → (v14 != (BFork.fn v7 v29 v35)) = false) ∧
 (let v80 : Bool := (bif (v14 != (BFork.fn v7 v29 v35)) then true else (v14 != (BFork.fn v7 v35 v29)))
 ((v80 = true →
 (Ret1 false (BranchWalks.fn x0 x1 x2))) ∧
 (v80 = false →
 (BranchWalks.inv18 x0 x1 x2 v7 v14 (0 : Int) ∧
 ∀ (v7_1 : ((List ((Int × ((List Int) × ((List Int) × (Int × (Int × (Int × Unit)))))) × ((List Int) × (Int × (Int × ((List Int) × Unit)))))) × (Int × Unit))) (v14_1 : Int) (v83 : Int), BranchWalks.inv18 x0 x1 x2 v7_1 v14_1 v83 →
 (let v84 : Bool := (decide (v83 < ((BPath.fn (LLine.fn x0) v29 v35).2.length : Int)))
 ((v84 = true →
 (0 ≤ v83 ∧ v83 < ((BPath.fn (LLine.fn x0) v29 v35).2.length : Int)) ∧
 (let v86 : Int := ((BPath.fn (LLine.fn x0) v29 v35).2.getD (Int.toNat v83) (0 : Int))
 (0 ≤ v86 ∧ v86 < (v7_1.1.length : Int)) ∧
 (let v92 : Int := (v7_1.1.getD (Int.toNat v86) (((0 : Int), ((List.replicate 32 (0 : Int)), ((List.replicate 32 (0 : Int)), ((0 : Int), ((0 : Int), ((0 : Int), ())))))), ((List.replicate 32 (0 : Int)), ((0 : Int), ((0 : Int), ((List.replicate 4 (0 : Int)), ())))))).2.2.1
 (((v92 != v14_1) = true →
 (Ret1 false (BranchWalks.fn x0 x1 x2))) ∧
 ((v92 != v14_1) = false →
 (BranchWalks.inv18 x0 x1 x2 v7_1 v86 (IntKind.i64.wrap (v83 + (1 : Int))) ∧ BranchWalks.mes18 x0 x1 x2 v7_1 v86 (IntKind.i64.wrap (v83 + (1 : Int))) < BranchWalks.mes18 x0 x1 x2 v7_1 v14_1 v83)))))) ∧
 (v84 = false →
 ((v14_1 != v35) = false → (v14_1 != v35) = false) ∧
 ((v14_1 != v35) = false → (v14_1 != v35) = false) ∧
 ((v14_1 != v35) = false → (v14_1 != v35) = false) ∧
 ((v14_1 != v35) = false → (v14_1 != v35) = false) ∧
 ((v14_1 != v35) = false → (v14_1 != v35) = false) ∧
 (let v106 : Bool := (bif (v14_1 != v35) then true else (((BPath.fn (LLine.fn x0) v35 v29).1.length : Int) != ((BPath.fn (LLine.fn x0) v29 v35).2.length : Int)))
 (v106 = false → v106 = false) ∧
 (v106 = false → v106 = false) ∧
 (v106 = false → v106 = false) ∧
 (v106 = false → v106 = false) ∧
 (v106 = false → v106 = false) ∧
 (let v113 : Bool := (bif v106 then true else (((BPath.fn (LLine.fn x0) v35 v29).2.length : Int) != ((BPath.fn (LLine.fn x0) v29 v35).1.length : Int)))
 ((v113 = true →
 (Ret1 false (BranchWalks.fn x0 x1 x2))) ∧
 (v113 = false →
 (BranchWalks.inv27 x0 x1 x2 (0 : Int) ∧
 ∀ (v116 : Int), BranchWalks.inv27 x0 x1 x2 v116 →
 (let v117 : Bool := (decide (v116 < ((BPath.fn (LLine.fn x0) v29 v35).2.length : Int)))
 ((v117 = true →
 (let v122 : Int := (IntKind.i64.wrap (((BPath.fn (LLine.fn x0) v35 v29).1.length : Int) - (1 : Int)))
 (0 ≤ (IntKind.i64.wrap (v122 - v116)) ∧ (IntKind.i64.wrap (v122 - v116)) < ((BPath.fn (LLine.fn x0) v35 v29).1.length : Int)) ∧
 (let v126 : Int := ((BPath.fn (LLine.fn x0) v35 v29).1.getD (Int.toNat (IntKind.i64.wrap (v122 - v116))) (0 : Int))
 (0 ≤ v116 ∧ v116 < ((BPath.fn (LLine.fn x0) v29 v35).2.length : Int)) ∧
 (let v130 : Int := ((BPath.fn (LLine.fn x0) v29 v35).2.getD (Int.toNat v116) (0 : Int))
 (((v126 != v130) = true →
 (Ret1 false (BranchWalks.fn x0 x1 x2))) ∧
 ((v126 != v130) = false →
 (BranchWalks.inv27 x0 x1 x2 (IntKind.i64.wrap (v116 + (1 : Int))) ∧ BranchWalks.mes27 x0 x1 x2 (IntKind.i64.wrap (v116 + (1 : Int))) < BranchWalks.mes27 x0 x1 x2 v116))))))) ∧
 (v117 = false →
 (Ret1 true (BranchWalks.fn x0 x1 x2)))))))))))))))))))))))))
theorem rev_get {x : List Int} {i : Nat} (h : i < x.length) : x.reverse.getD i 0 = x.getD (x.length - 1 - i) 0 := by
  simp only [List.getD_eq_getElem?_getD]
  rw [List.getElem?_reverse h]
theorem dropD {x : List Int} {c i : Nat} : (x.drop c).getD i 0 = x.getD (c + i) 0 := by
  simp only [List.getD_eq_getElem?_getD, List.getElem?_drop]
theorem shortK_nod {l : List Int} {n : Int} (h1 : 0 ≤ n) (h2 : n ≤ 255) : Nod (LLine.fn l) (shortK l n) := by
  have hlen := line_len l
  unfold shortK
  rw [i64w (by omega) (by omega), Int.tmod_eq_emod_of_nonneg h1]
  exact ⟨Int.emod_nonneg _ (by omega), Int.emod_lt_of_pos _ (by omega)⟩
theorem BranchWalks.vc : BranchWalks.VC := by
  rintro l a b ⟨hU, ⟨a1, a2⟩, b1, b2⟩
  have hS := line_snd hU
  have hlen := line_len l
  have fa : Int.tmod (IntKind.i64.wrap a) ((LLine.fn l).1.length : Int) = shortK l a := rfl
  have fb : Int.tmod (IntKind.i64.wrap b) ((LLine.fn l).1.length : Int) = shortK l b := rfl
  have na := shortK_nod (l := l) a1 a2
  have nb := shortK_nod (l := l) b1 b2
  simp only [fa, fb]
  have hwD : wDown l a b = (lineOf (LLine.fn l) (shortK l a)).drop (cmn (lineOf (LLine.fn l) (shortK l a)) (lineOf (LLine.fn l) (shortK l b))) := rfl
  have hwU : wDown l b a = (lineOf (LLine.fn l) (shortK l b)).drop (cmn (lineOf (LLine.fn l) (shortK l b)) (lineOf (LLine.fn l) (shortK l a))) := rfl
  rw [cmn_comm (lineOf (LLine.fn l) (shortK l b))] at hwU
  have p1 : BPath.fn (LLine.fn l) (shortK l a) (shortK l b) = ((wDown l a b).reverse, wDown l b a) := by
    rw [hwD, hwU]; simp only [BPath.fn, pathOf]; rw [if_pos ⟨hS, na, nb⟩]; rfl
  have p2 : BPath.fn (LLine.fn l) (shortK l b) (shortK l a) = ((wDown l b a).reverse, wDown l a b) := by
    rw [hwD, hwU]; simp only [BPath.fn, pathOf]; rw [if_pos ⟨hS, nb, na⟩]; simp only [cmnT, cmn_comm (lineOf (LLine.fn l) (shortK l b))]
  simp only [p1, p2]
  obtain ⟨q1, q2, q3⟩ := fork_hgt hS na nb
  have hgA := (hgt_nn hS na).1
  have hgB := (hgt_nn hS nb).1
  have lA := lineOf_len (LLine.fn l) (shortK l a)
  have lB := lineOf_len (LLine.fn l) (shortK l b)
  have lA' := line_le hS na
  have lB' := line_le hS nb
  have hcs := cmn_spec (lineOf (LLine.fn l) (shortK l a)) (lineOf (LLine.fn l) (shortK l b))
  have hfork : forkOf (LLine.fn l) (shortK l a) (shortK l b) = (lineOf (LLine.fn l) (shortK l a)).getD (cmn (lineOf (LLine.fn l) (shortK l a)) (lineOf (LLine.fn l) (shortK l b)) - 1) 0 := by rw [forkOf, if_pos ⟨hS, na, nb⟩]
  have hfork2 : forkOf (LLine.fn l) (shortK l b) (shortK l a) = forkOf (LLine.fn l) (shortK l a) (shortK l b) := fork_comm
  have dA : (wDown l a b).length = (lineOf (LLine.fn l) (shortK l a)).length - cmn (lineOf (LLine.fn l) (shortK l a)) (lineOf (LLine.fn l) (shortK l b)) := by rw [hwD]; simp
  have dB : (wDown l b a).length = (lineOf (LLine.fn l) (shortK l b)).length - cmn (lineOf (LLine.fn l) (shortK l a)) (lineOf (LLine.fn l) (shortK l b)) := by rw [hwU]; simp
  have cT : cmnT (LLine.fn l) (shortK l a) (shortK l b) = cmn (lineOf (LLine.fn l) (shortK l a)) (lineOf (LLine.fn l) (shortK l b)) := rfl
  -- what lies at each place
  have gD : ∀ i : Nat, i < (wDown l a b).length → (wDown l a b).reverse.getD i 0 = anc (LLine.fn l) i (shortK l a) := by
    intro i hi
    rw [dA] at hi
    rw [rev_get (by rw [dA]; exact hi), hwD, dropD, lineOf_get (by simp only [List.length_drop]; omega)]
    congr 1
    simp only [List.length_drop]
    omega
  have gU : ∀ i : Nat, (wDown l b a).getD i 0 = (lineOf (LLine.fn l) (shortK l b)).getD (cmnT (LLine.fn l) (shortK l a) (shortK l b) + i) 0 := by
    intro i; rw [hwU, dropD, cT]
  have mD : ∀ (t : Tr) v v', BranchWalks.mes9 l a b t v v' = ((wDown l a b).length - v').toNat := fun _ _ _ => rfl
  have mU : ∀ (t : Tr) v v', BranchWalks.mes18 l a b t v v' = ((wDown l b a).length - v').toNat := fun _ _ _ => rfl
  have mE : ∀ v, BranchWalks.mes27 l a b v = ((wDown l b a).length - v).toNat := fun _ => rfl
  have lt := line_top hS nb
  generalize hT : LLine.fn l = T at *
  generalize hKa : shortK l a = x at *
  generalize hKb : shortK l b = y at *
  generalize hWD : wDown l a b = D at *
  generalize hWU : wDown l b a = U at *
  have hff : ∀ u v, BFork.fn T u v = forkOf T u v := fun _ _ => rfl
  rw [cT] at q2 q3 gU
  generalize hC : cmn (lineOf T x) (lineOf T y) = c at *
  simp only [imp_self, true_and, and_true, Bool.cond_true_left, Bool.cond_false_right, Bool.or_eq_true, Bool.or_eq_false_iff, Bool.and_eq_true, Bool.and_eq_false_iff, decide_eq_true_eq, decide_eq_false_iff_not, Bool.not_eq_true', Bool.not_eq_false', beq_iff_eq, bne_iff_ne, ne_eq, beq_eq_false_iff_ne, bne_eq_false_iff_eq, Int.not_lt, Int.not_le, gt_iff_lt, ge_iff_le, Decidable.not_not, Bool.not_eq_true, Bool.not_eq_false]
  try simp only [par_fold, hgt_fold, hsh_fold]
  simp only [List.length_reverse]
  refine ⟨trivial, fun h => by simp [LSane.fn] at h, fun _ => ⟨hU, by omega, by omega, trivial, trivial, ?_, ?_⟩⟩
  · exact ⟨hT.symm, by omega, by omega, by rw [hT, hKa]; rfl⟩
  rintro t v14 v53 ⟨e1, k1, k2, k3⟩
  rw [hT] at e1; subst e1
  rw [hWD] at k2
  rw [hT, hKa] at k3
  refine ⟨fun hc => ?_, fun hc => ?_⟩
  · have g := gD v53.toNat (by omega)
    rw [g]
    obtain ⟨m1, m2⟩ := anc_nod hS na v53.toNat (by omega)
    refine ⟨⟨k1, hc⟩, fun he => absurd k3.symm he, fun he => ⟨m1, ⟨?_, ?_⟩⟩⟩
    · rw [i64w (by omega) (by omega)]
      exact ⟨hT.symm, by omega, by rw [hWD]; omega, by rw [hT, hKa, show (v53 + 1).toNat = v53.toNat + 1 by omega]; rfl⟩
    · rw [mD, mD, i64w (by omega) (by omega)]; omega
  · have hv : v53.toNat = D.length := by omega
    have hA : v14 = forkOf t x y := by
      rw [k3, hv, hfork, lineOf_get (by omega)]
      congr 1
      omega
    rw [hff, hff, hfork2, ← hA]
    refine ⟨trivial, fun _ => trivial, fun h => by rcases h with h | h <;> exact absurd rfl h, fun _ => ⟨?_, ?_⟩⟩
    · refine ⟨hT.symm, by omega, by omega, ?_⟩
      rw [hT, hKb, hKa, cT, hA, hfork]
      simp only [Int.toNat_zero, Nat.add_zero]
      exact hcs.2.2 _ (by omega)
    rintro t2 w14 w83 ⟨e2, j1, j2, j3⟩
    rw [hT] at e2; subst e2
    rw [hWU] at j2
    rw [hT, hKb, hKa, cT] at j3
    refine ⟨fun hd => ?_, fun hd => ?_⟩
    · have g := gU w83.toNat
      rw [g]
      have hh : ((c - 1 + w83.toNat : Nat) : Int) + 1 ≤ hgt t2 y := by omega
      have hn := lineOf_nod hS nb (h := c + w83.toNat) (by omega)
      have hp := par_line hh
      rw [show c - 1 + w83.toNat + 1 = c + w83.toNat by omega] at hp
      rw [hp]
      refine ⟨⟨j1, hd⟩, hn.1, fun he => absurd j3.symm he, fun he => ⟨?_, ?_⟩⟩
      · rw [i64w (by omega) (by omega)]
        refine ⟨hT.symm, by omega, by rw [hWU]; omega, ?_⟩
        rw [hT, hKb, hKa, cT]
        congr 1; omega
      · rw [mU, mU, i64w (by omega) (by omega)]; omega
    · have hw : w83.toNat = U.length := by omega
      have hY : w14 = y := by
        refine (j3.trans ?_).trans lt
        rw [hw]
        congr 1; omega
      refine ⟨fun h => ?_, fun _ => ⟨⟨by omega, by omega⟩, ?_⟩⟩
      · rcases h with (h | h) | h
        · exact absurd hY h
        · exact absurd trivial h
        · exact absurd trivial h
      rintro v ⟨i1, i2⟩
      rw [hWU] at i2
      refine ⟨fun he => ?_, fun _ => rfl⟩
      rw [i64w (n := (U.length : Int) - 1) (by omega) (by omega), i64w (n := (U.length : Int) - 1 - v) (by omega) (by omega), i64w (n := v + 1) (by omega) (by omega)]
      have g2 : U.reverse.getD ((U.length : Int) - 1 - v).toNat 0 = U.getD v.toNat 0 := by
        rw [rev_get (by omega)]; congr 1; omega
      rw [g2]
      refine ⟨by omega, by omega, fun h => absurd rfl h, fun _ => ⟨⟨by omega, by rw [hWU]; omega⟩, by rw [mE, mE]; omega⟩⟩
end Lc
