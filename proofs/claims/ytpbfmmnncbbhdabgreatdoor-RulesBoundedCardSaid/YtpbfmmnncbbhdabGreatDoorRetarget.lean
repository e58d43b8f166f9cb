/- Retargeting: the functions of the program and of the reference as plain functions, and the proofs of their conditions. -/
import Derived.Test.YtpbfmmnncbbhdabGreatDoorTarget
set_option linter.unusedVariables false
set_option maxRecDepth 100000
namespace Lc
open Go

abbrev Hdr := Int × List Int × List Int × Int × Int × Int × Unit
abbrev Cp := Int × List Int × Unit
abbrev Par := Hdr × List Int × Int × Int × Int × Int × List Cp × Int × Int × Int × Unit
abbrev Cx := Int × List Int × Int × Int × List Int × Unit
theorem cmpLe {n m : Nat} : cmpN n m ≤ 0 ↔ n ≤ m := by
  have := cmp_le (n := n) (m := m); rwa [decide_eq_decide] at this
def ParOk (p : Par) : Prop := Ok4 p.2.1 ∧ U32 p.1.2.2.2.2.1 ∧ p.2.2.2.2.2.2.1.length ≤ 8
def CxOk (c : Cx) : Prop := U32 c.2.2.1 ∧ U32 c.2.2.2.1 ∧ ∀ t, t ∈ c.2.2.2.2.1 → U32 t

def ckOk : Int → List Cp → Bool
  | _, [] => true
  | b, c :: r => decide (b < c.1 ∧ c.1 ≤ 16777216) && ckOk c.1 r
def validFn (p : Par) : Bool :=
  decide (N4 p.2.1 ≠ 0) && (decide (1 ≤ p.2.2.1 ∧ p.2.2.1 ≤ 4096) && (decide (1 ≤ p.2.2.2.1 ∧ p.2.2.2.1 ≤ 1048576) && (decide (0 ≤ p.2.2.2.2.2.2.2.1 ∧ p.2.2.2.2.2.2.2.1 ≤ 2100000000000000) &&
  (decide (1 ≤ p.2.2.2.2.2.2.2.2.1 ∧ p.2.2.2.2.2.2.2.2.1 ≤ 16777216) && (decide (0 ≤ p.2.2.2.2.2.2.2.2.2.1 ∧ p.2.2.2.2.2.2.2.2.2.1 ≤ 16777216) && (ckOk 0 p.2.2.2.2.2.2.1 &&
  (decide (expandN p.1.2.2.2.2.1.toNat ≠ 0) && decide (expandN p.1.2.2.2.2.1.toNat ≤ N4 p.2.1))))))))
theorem valid_iff (p : Par) : validFn p = true ↔ N4 p.2.1 ≠ 0 ∧ (1 ≤ p.2.2.1 ∧ p.2.2.1 ≤ 4096) ∧ (1 ≤ p.2.2.2.1 ∧ p.2.2.2.1 ≤ 1048576) ∧ (0 ≤ p.2.2.2.2.2.2.2.1 ∧ p.2.2.2.2.2.2.2.1 ≤ 2100000000000000) ∧
    (1 ≤ p.2.2.2.2.2.2.2.2.1 ∧ p.2.2.2.2.2.2.2.2.1 ≤ 16777216) ∧ (0 ≤ p.2.2.2.2.2.2.2.2.2.1 ∧ p.2.2.2.2.2.2.2.2.2.1 ≤ 16777216) ∧ ckOk 0 p.2.2.2.2.2.2.1 = true ∧ expandN p.1.2.2.2.2.1.toNat ≠ 0 ∧ expandN p.1.2.2.2.2.1.toNat ≤ N4 p.2.1 := by
  simp only [validFn, Bool.and_eq_true, decide_eq_true_eq]
theorem not_valid {p : Par} (h : ¬ (N4 p.2.1 ≠ 0 ∧ (1 ≤ p.2.2.1 ∧ p.2.2.1 ≤ 4096) ∧ (1 ≤ p.2.2.2.1 ∧ p.2.2.2.1 ≤ 1048576) ∧ (0 ≤ p.2.2.2.2.2.2.2.1 ∧ p.2.2.2.2.2.2.2.1 ≤ 2100000000000000) ∧
    (1 ≤ p.2.2.2.2.2.2.2.2.1 ∧ p.2.2.2.2.2.2.2.2.1 ≤ 16777216) ∧ (0 ≤ p.2.2.2.2.2.2.2.2.2.1 ∧ p.2.2.2.2.2.2.2.2.2.1 ≤ 16777216) ∧ ckOk 0 p.2.2.2.2.2.2.1 = true ∧ expandN p.1.2.2.2.2.1.toNat ≠ 0 ∧ expandN p.1.2.2.2.2.1.toNat ≤ N4 p.2.1)) : validFn p = false := by
  rw [Bool.eq_false_iff]; exact fun hv => h ((valid_iff p).1 hv)
theorem drop_cons {l : List Cp} {i : Int} (h0 : 0 ≤ i) (h1 : i < l.length) : l.drop i.toNat = l.getD i.toNat ((0 : Int), ((List.replicate 32 (0 : Int)), ())) :: l.drop (i + 1).toNat := by
  rw [show (i + 1).toNat = i.toNat + 1 by omega, List.drop_eq_getElem_cons (show i.toNat < l.length by omega)]
  simp [List.getD_eq_getElem?_getD, show i.toNat < l.length by omega]

def RValid.pre (p : Par) : Prop := ParOk p
def RValid.fn (p : Par) : Bool := validFn p
def RValid.inv9 (p : Par) (b i : Int) : Prop := 0 ≤ i ∧ i ≤ p.2.2.2.2.2.2.1.length ∧ ckOk 0 p.2.2.2.2.2.2.1 = ckOk b (p.2.2.2.2.2.2.1.drop i.toNat)
def RValid.mes9 (p : Par) (b i : Int) : Nat := (p.2.2.2.2.2.2.1.length - i).toNat
def RValid.VC : Prop := ∀ (x0 : ((Int × ((List Int) × ((List Int) × (Int × (Int × (Int × Unit)))))) × ((List Int) × (Int × (Int × (Int × (Int × ((List (Int × ((List Int) × Unit))) × (Int × (Int × (Int × Unit))))))))))), RValid.pre x0 →
 (let v11 : Bool := (Ty.beq (.arr 4 (.int .u64)) x0.2.1 (List.replicate 4 (0 : Int)))
 (v11 = false → v11 = false) ∧
 (v11 = false → v11 = false) ∧
 (v11 = false → v11 = false) ∧
 ((bif v11 then true else (decide (x0.2.2.1 < (1 : Int)))) = false → (bif v11 then true else (decide (x0.2.2.1 < (1 : Int)))) = false) ∧
 ((bif v11 then true else (decide (x0.2.2.1 < (1 : Int)))) = false → (bif v11 then true else (decide (x0.2.2.1 < (1 : Int)))) = false) ∧
 ((bif v11 then true else (decide (x0.2.2.1 < (1 : Int)))) = false → (bif v11 then true else (decide (x0.2.2.1 < (1 : Int)))) = false) ∧
 (let v21 : Bool := (bif (bif v11 then true else (decide (x0.2.2.1 < (1 : Int)))) then true else (decide (x0.2.2.1 > (4096 : Int))))
 ((v21 = true →
 (Ret1 false (RValid.fn x0))) ∧
 (v21 = false →
 ((decide (x0.2.2.2.1 < (1 : Int))) = false → (decide (x0.2.2.2.1 < (1 : Int))) = false) ∧
 ((decide (x0.2.2.2.1 < (1 : Int))) = false → (decide (x0.2.2.2.1 < (1 : Int))) = false) ∧
 ((decide (x0.2.2.2.1 < (1 : Int))) = false → (decide (x0.2.2.2.1 < (1 : Int))) = false) ∧
 (let v29 : Bool := (bif (decide (x0.2.2.2.1 < (1 : Int))) then true else (decide (x0.2.2.2.1 > (1048576 : Int))))
 (v29 = false → v29 = false) ∧
 (v29 = false → v29 = false) ∧
 (v29 = false → v29 = false) ∧
 (let v34 : Bool := (bif v29 then true else (decide (x0.2.2.2.2.2.2.2.1 < (0 : Int))))
 (v34 = false → v34 = false) ∧
 (v34 = false → v34 = false) ∧
 (v34 = false → v34 = false) ∧
 (let v39 : Bool := (bif v34 then true else (decide (x0.2.2.2.2.2.2.2.1 > (2100000000000000 : Int))))
 ((v39 = true →
 (Ret1 false (RValid.fn x0))) ∧
 (v39 = false →
 ((decide (x0.2.2.2.2.2.2.2.2.1 < (1 : Int))) = false → (decide (x0.2.2.2.2.2.2.2.2.1 < (1 : Int))) = false) ∧
 ((decide (x0.2.2.2.2.2.2.2.2.1 < (1 : Int))) = false → (decide (x0.2.2.2.2.2.2.2.2.1 < (1 : Int))) = false) ∧
 ((decide (x0.2.2.2.2.2.2.2.2.1 < (1 : Int))) = false → (decide (x0.2.2.2.2.2.2.2.2.1 < (1 : Int))) = false) ∧
 (let v47 : Bool := (bif (decide (x0.2.2.2.2.2.2.2.2.1 < (1 : Int))) then true else (decide (x0.2.2.2.2.2.2.2.2.1 > (16777216 : Int))))
 (v47 = false → v47 = false) ∧
 (v47 = false → v47 = false) ∧
 (v47 = false → v47 = false) ∧
 (let v52 : Bool := (bif v47 then true else (decide (x0.2.2.2.2.2.2.2.2.2.1 < (0 : Int))))
 (v52 = false → v52 = false) ∧
 (v52 = false → v52 = false) ∧
 (v52 = false → v52 = false) ∧
 (let v57 : Bool := (bif v52 then true else (decide (x0.2.2.2.2.2.2.2.2.2.1 > (16777216 : Int))))
 ((v57 = true →
 (Ret1 false (RValid.fn x0))) ∧
 (v57 = false →
 (RValid.inv9 x0 (0 : Int) (0 : Int) ∧
 ∀ (v3 : Int) (v61 : Int), RValid.inv9 x0 v3 v61 →
 (((decide (v61 < (x0.2.2.2.2.2.2.1.length : Int))) = true →
 (0 ≤ v61 ∧ v61 < (x0.2.2.2.2.2.2.1.length : Int)) ∧
 (let v64 : (Int × ((List Int) × Unit)) := (x0.2.2.2.2.2.2.1.getD (Int.toNat v61) ((0 : Int), ((List.replicate 32 (0 : Int)), ())))
 ((decide (v64.1 ≤ v3)) = false → (decide (v64.1 ≤ v3)) = false) ∧
 ((decide (v64.1 ≤ v3)) = false → (decide (v64.1 ≤ v3)) = false) ∧
 ((decide (v64.1 ≤ v3)) = false → (decide (v64.1 ≤ v3)) = false) ∧
 (let v73 : Bool := (bif (decide (v64.1 ≤ v3)) then true else (decide (v64.1 > (16777216 : Int))))
 ((v73 = true →
 (Ret1 false (RValid.fn x0))) ∧
 (v73 = false →
 (RValid.inv9 x0 v64.1 (IntKind.i64.wrap (v61 + (1 : Int))) ∧ RValid.mes9 x0 v64.1 (IntKind.i64.wrap (v61 + (1 : Int))) < RValid.mes9 x0 v3 v61)))))) ∧
 ((decide (v61 < (x0.2.2.2.2.2.2.1.length : Int))) = false →
 TExpand.pre x0.1.2.2.2.2.1 ∧
 (((TExpand.fn x0.1.2.2.2.2.1).2 == (0 : Int)) = true → ((TExpand.fn x0.1.2.2.2.2.1).2 == (0 : Int)) = true) ∧
 (((TExpand.fn x0.1.2.2.2.2.1).2 == (0 : Int)) = true → ((TExpand.fn x0.1.2.2.2.2.1).2 == (0 : Int)) = true) ∧
 (((TExpand.fn x0.1.2.2.2.2.1).2 == (0 : Int)) = true → ((TExpand.fn x0.1.2.2.2.2.1).2 == (0 : Int)) = true) ∧
 (((TExpand.fn x0.1.2.2.2.2.1).2 == (0 : Int)) = true → WCmp.pre ((TExpand.fn x0.1.2.2.2.2.1).1) x0.2.1) ∧
 (((TExpand.fn x0.1.2.2.2.2.1).2 == (0 : Int)) = true → ((TExpand.fn x0.1.2.2.2.2.1).2 == (0 : Int)) = true) ∧
 (((TExpand.fn x0.1.2.2.2.2.1).2 == (0 : Int)) = true → ((TExpand.fn x0.1.2.2.2.2.1).2 == (0 : Int)) = true) ∧
 (let v92 : Bool := (bif ((TExpand.fn x0.1.2.2.2.2.1).2 == (0 : Int)) then (decide ((WCmp.fn ((TExpand.fn x0.1.2.2.2.2.1).1) x0.2.1) ≤ (0 : Int))) else false)
 (Ret1 v92 (RValid.fn x0))))))))))))))))))))
theorem expand2 (x : Int) : ((expandFn x).2 == 0) = decide (expandN x.toNat ≠ 0) := by
  unfold expandFn
  split
  · rename_i h; simp [h]
  · rename_i h; simp [h]
theorem expand1 {x : Int} (hx : U32 x) : Ok4 (expandFn x).1 ∧ N4 (expandFn x).1 = expandN x.toNat := by
  have hlt : expandN x.toNat < Big := expandN_lt (by have := hx.1; have := hx.2; omega)
  unfold expandFn
  split
  · rename_i h; rw [h]; exact ⟨ok4' 0, rfl⟩
  · exact ⟨ok4 hlt, N4_W4 hlt⟩
theorem RValid.vc : RValid.VC := by
  intro p ⟨h1, h2, h3⟩
  simp only [imp_self, true_and, Bool.cond_true_left, Bool.cond_false_right, Bool.or_eq_true, Bool.or_eq_false_iff, decide_eq_true_eq, decide_eq_false_iff_not, zeq h1, TExpand.fn, WCmp.fn, expand2, cmpLe]
  obtain ⟨q1, q2⟩ := expand1 h2
  simp only [q2, RValid.fn, ret1]
  have nv := @not_valid p
  have vi := valid_iff p
  refine ⟨fun h => (nv (fun hv => by omega)).symm, fun a1 => ⟨fun h => (nv (fun hv => by omega)).symm, fun a2 => ⟨fun h => (nv (fun hv => by omega)).symm, fun a3 => ⟨⟨by omega, by omega, by simp⟩, ?_⟩⟩⟩⟩
  rintro b i ⟨k1, k2, k3⟩
  refine ⟨fun hc => ?_, fun hc => ?_⟩
  · have hd := drop_cons k1 hc
    rw [hd] at k3
    refine ⟨⟨k1, hc⟩, fun h => (nv (fun hv => ?_)).symm, fun h => ?_⟩
    · have hck := hv.2.2.2.2.2.2.1
      rw [k3] at hck
      simp only [ckOk, Bool.and_eq_true, decide_eq_true_eq] at hck
      omega
    · rw [i64w (by omega) (by omega)]
      refine ⟨⟨by omega, by omega, ?_⟩, by simp only [RValid.mes9]; omega⟩
      rw [k3]
      simp only [ckOk]
      rw [decide_eq_true (by omega), Bool.true_and]
  · refine ⟨h2, fun _ => ⟨q1, h1⟩, ?_⟩
    have hck : ckOk 0 p.2.2.2.2.2.2.1 = true := by
      rw [k3, List.drop_eq_nil_of_le (by omega)]; rfl
    rw [Bool.eq_iff_iff, vi]
    simp only [Bool.and_eq_true, decide_eq_true_eq]
    constructor
    · intro ⟨e1, e2⟩; exact ⟨by omega, by omega, by omega, by omega, by omega, by omega, hck, e1, e2⟩
    · intro hv; exact ⟨hv.2.2.2.2.2.2.2.1, hv.2.2.2.2.2.2.2.2⟩

def QValid.pre (p : Par) : Prop := ParOk p
def QValid.fn (p : Par) : Bool := validFn p
def prevH (l : List Cp) (i : Int) : Int := if i ≤ 0 then 0 else (l.getD (i - 1).toNat ((0 : Int), ((List.replicate 32 (0 : Int)), ()))).1
def QValid.inv6 (p : Par) (i : Int) : Prop := 0 ≤ i ∧ i ≤ p.2.2.2.2.2.2.1.length ∧ 0 ≤ prevH p.2.2.2.2.2.2.1 i ∧ ckOk 0 p.2.2.2.2.2.2.1 = ckOk (prevH p.2.2.2.2.2.2.1 i) (p.2.2.2.2.2.2.1.drop i.toNat)
def QValid.mes6 (p : Par) (i : Int) : Nat := (p.2.2.2.2.2.2.1.length - i).toNat
def QValid.VC : Prop := ∀ (x0 : ((Int × ((List Int) × ((List Int) × (Int × (Int × (Int × Unit)))))) × ((List Int) × (Int × (Int × (Int × (Int × ((List (Int × ((List Int) × Unit))) × (Int × (Int × (Int × Unit))))))))))), QValid.pre x0 →
 QZero.pre x0.2.1 ∧
 ((QZero.fn x0.2.1) = false → (QZero.fn x0.2.1) = false) ∧
 ((QZero.fn x0.2.1) = false → (QZero.fn x0.2.1) = false) ∧
 ((QZero.fn x0.2.1) = false → (QZero.fn x0.2.1) = false) ∧
 (let v14 : Bool := (bif (QZero.fn x0.2.1) then true else (decide (x0.2.2.1 < (1 : Int))))
 (v14 = false → v14 = false) ∧
 (v14 = false → v14 = false) ∧
 (v14 = false → v14 = false) ∧
 ((bif v14 then true else (decide (x0.2.2.1 > (4096 : Int)))) = false → (bif v14 then true else (decide (x0.2.2.1 > (4096 : Int)))) = false) ∧
 ((bif v14 then true else (decide (x0.2.2.1 > (4096 : Int)))) = false → (bif v14 then true else (decide (x0.2.2.1 > (4096 : Int)))) = false) ∧
 ((bif v14 then true else (decide (x0.2.2.1 > (4096 : Int)))) = false → (bif v14 then true else (decide (x0.2.2.1 > (4096 : Int)))) = false) ∧
 (let v24 : Bool := (bif (bif v14 then true else (decide (x0.2.2.1 > (4096 : Int)))) then true else (decide (x0.2.2.2.1 < (1 : Int))))
 (v24 = false → v24 = false) ∧
 (v24 = false → v24 = false) ∧
 (v24 = false → v24 = false) ∧
 (let v29 : Bool := (bif v24 then true else (decide (x0.2.2.2.1 > (1048576 : Int))))
 ((v29 = true →
 (Ret1 false (QValid.fn x0))) ∧
 (v29 = false →
 ((decide (x0.2.2.2.2.2.2.2.1 < (0 : Int))) = false → (decide (x0.2.2.2.2.2.2.2.1 < (0 : Int))) = false) ∧
 ((decide (x0.2.2.2.2.2.2.2.1 < (0 : Int))) = false → (decide (x0.2.2.2.2.2.2.2.1 < (0 : Int))) = false) ∧
 ((decide (x0.2.2.2.2.2.2.2.1 < (0 : Int))) = false → (decide (x0.2.2.2.2.2.2.2.1 < (0 : Int))) = false) ∧
 (let v37 : Bool := (bif (decide (x0.2.2.2.2.2.2.2.1 < (0 : Int))) then true else (decide (x0.2.2.2.2.2.2.2.1 > (2100000000000000 : Int))))
 (v37 = false → v37 = false) ∧
 (v37 = false → v37 = false) ∧
 (v37 = false → v37 = false) ∧
 (let v42 : Bool := (bif v37 then true else (decide (x0.2.2.2.2.2.2.2.2.1 < (1 : Int))))
 (v42 = false → v42 = false) ∧
 (v42 = false → v42 = false) ∧
 (v42 = false → v42 = false) ∧
 (let v47 : Bool := (bif v42 then true else (decide (x0.2.2.2.2.2.2.2.2.1 > (16777216 : Int))))
 (v47 = false → v47 = false) ∧
 (v47 = false → v47 = false) ∧
 (v47 = false → v47 = false) ∧
 (let v52 : Bool := (bif v47 then true else (decide (x0.2.2.2.2.2.2.2.2.2.1 < (0 : Int))))
 (v52 = false → v52 = false) ∧
 (v52 = false → v52 = false) ∧
 (v52 = false → v52 = false) ∧
 (let v57 : Bool := (bif v52 then true else (decide (x0.2.2.2.2.2.2.2.2.2.1 > (16777216 : Int))))
 ((v57 = true →
 (Ret1 false (QValid.fn x0))) ∧
 (v57 = false →
 (QValid.inv6 x0 (0 : Int) ∧
 ∀ (v61 : Int), QValid.inv6 x0 v61 →
 (((decide (v61 < (x0.2.2.2.2.2.2.1.length : Int))) = true →
 (0 ≤ v61 ∧ v61 < (x0.2.2.2.2.2.2.1.length : Int)) ∧
 (let v65 : (Int × ((List Int) × Unit)) := (x0.2.2.2.2.2.2.1.getD (Int.toNat v61) ((0 : Int), ((List.replicate 32 (0 : Int)), ())))
 ((decide (v65.1 < (1 : Int))) = false → (decide (v65.1 < (1 : Int))) = false) ∧
 ((decide (v65.1 < (1 : Int))) = false → (decide (v65.1 < (1 : Int))) = false) ∧
 ((decide (v65.1 < (1 : Int))) = false → (decide (v65.1 < (1 : Int))) = false) ∧
 (let v73 : Bool := (bif (decide (v65.1 < (1 : Int))) then true else (decide (v65.1 > (16777216 : Int))))
 (v73 = false → v73 = false) ∧
 (v73 = false → v73 = false) ∧
 ((v73 = false ∧ (decide (v61 > (0 : Int))) = true) → (v73 = false ∧ (decide (v61 > (0 : Int))) = true)) ∧
 ((v73 = false ∧ (decide (v61 > (0 : Int))) = true) → (v73 = false ∧ (decide (v61 > (0 : Int))) = true)) ∧
 ((v73 = false ∧ (decide (v61 > (0 : Int))) = true) → (v73 = false ∧ (decide (v61 > (0 : Int))) = true)) ∧
 ((v73 = false ∧ (decide (v61 > (0 : Int))) = true) → (v73 = false ∧ (decide (v61 > (0 : Int))) = true)) ∧
 ((v73 = false ∧ (decide (v61 > (0 : Int))) = true) → (0 ≤ (IntKind.i64.wrap (v61 - (1 : Int))) ∧ (IntKind.i64.wrap (v61 - (1 : Int))) < (x0.2.2.2.2.2.2.1.length : Int))) ∧
 ((v73 = false ∧ (decide (v61 > (0 : Int))) = true) → (v73 = false ∧ (decide (v61 > (0 : Int))) = true)) ∧
 ((v73 = false ∧ (decide (v61 > (0 : Int))) = true) → (v73 = false ∧ (decide (v61 > (0 : Int))) = true)) ∧
 ((v73 = false ∧ (decide (v61 > (0 : Int))) = true) → (v73 = false ∧ (decide (v61 > (0 : Int))) = true)) ∧
 ((v73 = false ∧ (decide (v61 > (0 : Int))) = true) → (v73 = false ∧ (decide (v61 > (0 : Int))) = true)) ∧
 ((v73 = false ∧ (decide (v61 > (0 : Int))) = true) → (v73 = false ∧ (decide (v61 > (0 : Int))) = true)) ∧
 (v73 = false → v73 = false) ∧
 (v73 = false → ((decide (v61 > (0 : Int))) = true → (v73 = false ∧ (decide (v61 > (0 : Int))) = true))) ∧
 (v73 = false → v73 = false) ∧
 (let v89 : Bool := (bif v73 then true else (bif (decide (v61 > (0 : Int))) then (decide ((x0.2.2.2.2.2.2.1.getD (Int.toNat (IntKind.i64.wrap (v61 - (1 : Int)))) ((0 : Int), ((List.replicate 32 (0 : Int)), ()))).1 ≥ v65.1)) else false))
 ((v89 = true →
 (Ret1 false (QValid.fn x0))) ∧
 (v89 = false →
 (QValid.inv6 x0 (IntKind.i64.wrap (v61 + (1 : Int))) ∧ QValid.mes6 x0 (IntKind.i64.wrap (v61 + (1 : Int))) < QValid.mes6 x0 v61))))))) ∧
 ((decide (v61 < (x0.2.2.2.2.2.2.1.length : Int))) = false →
 QExpand.pre x0.1.2.2.2.2.1 ∧
 (((QExpand.fn x0.1.2.2.2.2.1).2 == (0 : Int)) = true → ((QExpand.fn x0.1.2.2.2.2.1).2 == (0 : Int)) = true) ∧
 (((QExpand.fn x0.1.2.2.2.2.1).2 == (0 : Int)) = true → ((QExpand.fn x0.1.2.2.2.2.1).2 == (0 : Int)) = true) ∧
 (((QExpand.fn x0.1.2.2.2.2.1).2 == (0 : Int)) = true → ((QExpand.fn x0.1.2.2.2.2.1).2 == (0 : Int)) = true) ∧
 (((QExpand.fn x0.1.2.2.2.2.1).2 == (0 : Int)) = true → QCmp.pre ((QExpand.fn x0.1.2.2.2.2.1).1) x0.2.1) ∧
 (((QExpand.fn x0.1.2.2.2.2.1).2 == (0 : Int)) = true → ((QExpand.fn x0.1.2.2.2.2.1).2 == (0 : Int)) = true) ∧
 (((QExpand.fn x0.1.2.2.2.2.1).2 == (0 : Int)) = true → ((QExpand.fn x0.1.2.2.2.2.1).2 == (0 : Int)) = true) ∧
 (let v106 : Bool := (bif ((QExpand.fn x0.1.2.2.2.2.1).2 == (0 : Int)) then (decide ((QCmp.fn ((QExpand.fn x0.1.2.2.2.2.1).1) x0.2.1) ≤ (0 : Int))) else false)
 (Ret1 v106 (QValid.fn x0))))))))))))))))))
theorem QValid.vc : QValid.VC := by
  intro p ⟨h1, h2, h3⟩
  simp only [imp_self, true_and, Bool.cond_true_left, Bool.cond_false_right, Bool.or_eq_true, Bool.or_eq_false_iff, decide_eq_true_eq, decide_eq_false_iff_not, QZero.fn, QExpand.fn, QCmp.fn, expand2, cmpLe]
  obtain ⟨q1, q2⟩ := expand1 h2
  simp only [q2, QValid.fn, ret1]
  have nv := @not_valid p
  have vi := valid_iff p
  refine ⟨h1, fun h => (nv (fun hv => by omega)).symm, fun a1 => ⟨fun h => (nv (fun hv => by omega)).symm, fun a2 => ⟨⟨by omega, by omega, by simp [prevH], by simp [prevH]⟩, ?_⟩⟩⟩
  rintro i ⟨k1, k2, k4, k3⟩
  refine ⟨fun hc => ?_, fun hc => ?_⟩
  · have hd := drop_cons k1 hc
    rw [hd] at k3
    have hi1 : i > 0 → IntKind.i64.wrap (i - 1) = i - 1 := fun _ => i64w (by omega) (by omega)
    have hpr : i > 0 → (p.2.2.2.2.2.2.1.getD (IntKind.i64.wrap (i - 1)).toNat ((0 : Int), ((List.replicate 32 (0 : Int)), ()))).1 = prevH p.2.2.2.2.2.2.1 i := fun h => by rw [hi1 h, prevH, if_neg (by omega)]
    have hp0 : ¬ i > 0 → prevH p.2.2.2.2.2.2.1 i = 0 := fun h => by rw [prevH, if_pos (by omega)]
    have hnx : prevH p.2.2.2.2.2.2.1 (i + 1) = (p.2.2.2.2.2.2.1.getD i.toNat ((0 : Int), ((List.replicate 32 (0 : Int)), ()))).1 := by rw [prevH, if_neg (by omega), show i + 1 - 1 = i by omega]
    refine ⟨⟨k1, hc⟩, fun h => ⟨?_, ?_⟩, fun h h' => ⟨h, h'⟩, fun h => (nv (fun hv => ?_)).symm, fun h => ?_⟩
    · rw [hi1 h.2]; omega
    · rw [hi1 h.2]; omega
    · have hck := hv.2.2.2.2.2.2.1
      rw [k3] at hck
      simp only [ckOk, Bool.and_eq_true, decide_eq_true_eq] at hck
      by_cases hi : i > 0
      · rw [hpr hi] at h
        simp only [hi, decide_true, Bool.true_and, decide_eq_true_eq] at h
        omega
      · have := hp0 hi
        simp only [hi, decide_false, Bool.false_and, Bool.false_eq_true, or_false] at h
        omega
    · rw [i64w (by omega) (by omega)]
      have hcond : prevH p.2.2.2.2.2.2.1 i < (p.2.2.2.2.2.2.1.getD i.toNat ((0 : Int), ((List.replicate 32 (0 : Int)), ()))).1 ∧ (p.2.2.2.2.2.2.1.getD i.toNat ((0 : Int), ((List.replicate 32 (0 : Int)), ()))).1 ≤ 16777216 := by
        by_cases hi : i > 0
        · rw [hpr hi] at h
          simp only [hi, decide_true, Bool.true_and, decide_eq_false_iff_not] at h
          omega
        · have := hp0 hi
          omega
      refine ⟨⟨by omega, by omega, by rw [hnx]; omega, ?_⟩, by simp only [QValid.mes6]; omega⟩
      rw [k3, hnx]
      simp only [ckOk]
      rw [decide_eq_true hcond, Bool.true_and]
  · refine ⟨h2, fun _ => ⟨q1, h1⟩, ?_⟩
    have hck : ckOk 0 p.2.2.2.2.2.2.1 = true := by
      rw [k3, List.drop_eq_nil_of_le (by omega)]; rfl
    rw [Bool.eq_iff_iff, vi]
    simp only [Bool.and_eq_true, decide_eq_true_eq]
    constructor
    · intro ⟨e1, e2⟩; exact ⟨by omega, by omega, by omega, by omega, by omega, by omega, hck, e1, e2⟩
    · intro hv; exact ⟨hv.2.2.2.2.2.2.2.1, hv.2.2.2.2.2.2.2.2⟩

/-! ## Medians -/
def ins (v : Int) : List Int → List Int
  | [] => [v]
  | x :: r => if x ≤ v then x :: ins v r else v :: x :: r
def isort (l : List Int) : List Int := l.foldl (fun s v => ins v s) []
theorem ins_perm (v : Int) : ∀ l, (ins v l).Perm (v :: l)
  | [] => List.Perm.refl _
  | x :: r => by
    simp only [ins]
    split
    · exact ((ins_perm v r).cons x).trans (List.Perm.swap v x r)
    · exact List.Perm.refl _
theorem ins_len (v : Int) (l : List Int) : (ins v l).length = l.length + 1 := (ins_perm v l).length_eq
theorem ins_sorted (v : Int) : ∀ l : List Int, l.Pairwise (· ≤ ·) → (ins v l).Pairwise (· ≤ ·)
  | [], _ => by simp [ins]
  | x :: r, h => by
    simp only [ins]
    obtain ⟨h1, h2⟩ := List.pairwise_cons.1 h
    split
    · refine List.pairwise_cons.2 ⟨fun y hy => ?_, ins_sorted v r h2⟩
      rcases List.mem_cons.1 ((ins_perm v r).subset hy) with rfl | hy
      · assumption
      · exact h1 y hy
    · refine List.pairwise_cons.2 ⟨fun y hy => ?_, h⟩
      rcases List.mem_cons.1 hy with rfl | hy
      · omega
      · have := h1 y hy; omega
theorem foldl_ins (l : List Int) : ∀ s : List Int, (l.foldl (fun s v => ins v s) s).Perm (l ++ s) ∧ (s.Pairwise (· ≤ ·) → (l.foldl (fun s v => ins v s) s).Pairwise (· ≤ ·)) := by
  induction l with
  | nil => intro s; exact ⟨List.Perm.refl _, fun h => h⟩
  | cons x r ih =>
    intro s
    obtain ⟨i1, i2⟩ := ih (ins x s)
    refine ⟨i1.trans ?_, fun h => i2 (ins_sorted x s h)⟩
    refine ((ins_perm x s).append_left r).trans ?_
    exact List.perm_middle
theorem isort_perm (l : List Int) : (isort l).Perm l := by have := (foldl_ins l []).1; rwa [List.append_nil] at this
theorem isort_sorted (l : List Int) : (isort l).Pairwise (· ≤ ·) := (foldl_ins l []).2 List.Pairwise.nil
theorem isort_len (l : List Int) : (isort l).length = l.length := (isort_perm l).length_eq
theorem isort_unique {l m : List Int} (h : m.Perm l) (hs : m.Pairwise (· ≤ ·)) : m = isort l :=
  List.Perm.eq_of_pairwise (le := (· ≤ ·)) (fun a b _ _ h1 h2 => by omega) hs (isort_sorted l) (h.trans (isort_perm l).symm)
theorem isort_snoc (l : List Int) (v : Int) : isort (l ++ [v]) = ins v (isort l) := by simp [isort, List.foldl_append]
theorem merge_isort (l : List Int) : l.mergeSort (fun x y => decide (x ≤ y)) = isort l := by
  refine isort_unique (List.mergeSort_perm _ _) ?_
  have := List.pairwise_mergeSort (le := fun x y : Int => decide (x ≤ y)) (fun a b c h1 h2 => by simp at *; omega) (fun a b => by simp; omega) l
  exact this.imp (fun h => by simpa using h)
def SortPre (xs : List Int) : Prop := List.length xs < 4611686018427387904
def SortFn (xs : List Int) : List Int := isort xs
def medianFn (l : List Int) : Int := if l.length = 0 then 0 else (isort l).getD (l.length / 2) 0

def RMedian.pre (l : List Int) : Prop := l.length ≤ 1000
def RMedian.fn (l : List Int) : Int := medianFn l
def RMedian.VC : Prop := ∀ (x0 : (List Int)), RMedian.pre x0 →
 ((((x0.length : Int) == (0 : Int)) = true →
 (Ret1 (0 : Int) (RMedian.fn x0))) ∧
 (((x0.length : Int) == (0 : Int)) = false →
 (0 ≤ (x0.length : Int) ∧ (x0.length : Int) ≤ (x0.length : Int)) ∧
 Room ((x0.length : Int)).toNat 4 ∧
 (let v12 : Int := ((min x0.length (List.replicate ((x0.length : Int)).toNat (0 : Int)).length : Nat) : Int)
 (let v9h : (List Int) := (x0.take (List.replicate ((x0.length : Int)).toNat (0 : Int)).length ++ (List.replicate ((x0.length : Int)).toNat (0 : Int)).drop x0.length)
 SortPre v9h ∧
 (2 : Int) ≠ 0 ∧
 (let v18 : Int := (IntKind.i64.wrap (Int.tdiv ((SortFn v9h).length : Int) (2 : Int)))
 (0 ≤ v18 ∧ v18 < ((SortFn v9h).length : Int)) ∧
 (Ret1 ((SortFn v9h).getD (Int.toNat v18) (0 : Int)) (RMedian.fn x0)))))))
theorem RMedian.vc : RMedian.VC := by
  intro l h
  have h : l.length ≤ 1000 := h
  have e0 : (l.take (List.replicate ((l.length : Int)).toNat (0 : Int)).length ++ (List.replicate ((l.length : Int)).toNat (0 : Int)).drop l.length) = l := by
    rw [Int.toNat_natCast, List.length_replicate, List.take_length, List.drop_eq_nil_of_le (by simp), List.append_nil]
  simp only [e0, SortFn, isort_len]
  have e1 : IntKind.i64.wrap (Int.tdiv (l.length : Int) 2) = ((l.length / 2 : Nat) : Int) := by
    rw [Int.tdiv_eq_ediv_of_nonneg (by omega), i64w (by omega) (by omega)]; omega
  simp only [e1, Int.toNat_natCast, RMedian.fn, medianFn, ret1]
  refine ⟨fun hc => ?_, fun hc => ?_⟩
  · have : l.length = 0 := by simpa using hc
    rw [if_pos this]
  · have hne : l.length ≠ 0 := by simpa using hc
    refine ⟨⟨by omega, by omega⟩, room_of (by omega) (by omega), by show List.length l < _; omega, by omega, ⟨by omega, by omega⟩, ?_⟩
    rw [if_neg hne]

def QMedian.pre (l : List Int) : Prop := l.length ≤ 1000
def QMedian.fn (l : List Int) : Int := medianFn l
def QMedian.inv3 (l s : List Int) (i : Int) : Prop := 0 ≤ i ∧ i ≤ l.length ∧ s = isort (l.take i.toNat)
def QMedian.mes3 (l s : List Int) (i : Int) : Nat := (l.length - i).toNat
def QMedian.inv6 (l s : List Int) (v i k : Int) : Prop := 0 ≤ k ∧ k ≤ s.length ∧ ∀ j : Nat, j < k.toNat → s.getD j 0 ≤ v
def QMedian.mes6 (l s : List Int) (v i k : Int) : Nat := (s.length - k).toNat
def QMedian.VC : Prop := ∀ (x0 : (List Int)), QMedian.pre x0 →
 (QMedian.inv3 x0 [] (0 : Int) ∧
 ∀ (v3 : (List Int)) (v9 : Int), QMedian.inv3 x0 v3 v9 →
 (((decide (v9 < (x0.length : Int))) = true →
 (0 ≤ v9 ∧ v9 < (x0.length : Int)) ∧
 (QMedian.inv6 x0 v3 (x0.getD (Int.toNat v9) (0 : Int)) v9 (0 : Int) ∧
 ∀ (v6 : Int), QMedian.inv6 x0 v3 (x0.getD (Int.toNat v9) (0 : Int)) v9 v6 →
 ((decide (v6 < (v3.length : Int))) = true → (decide (v6 < (v3.length : Int))) = true) ∧
 ((decide (v6 < (v3.length : Int))) = true → (decide (v6 < (v3.length : Int))) = true) ∧
 ((decide (v6 < (v3.length : Int))) = true → (0 ≤ v6 ∧ v6 < (v3.length : Int))) ∧
 ((decide (v6 < (v3.length : Int))) = true → (decide (v6 < (v3.length : Int))) = true) ∧
 ((decide (v6 < (v3.length : Int))) = true → (decide (v6 < (v3.length : Int))) = true) ∧
 ((decide (v6 < (v3.length : Int))) = true → (decide (v6 < (v3.length : Int))) = true) ∧
 ((decide (v6 < (v3.length : Int))) = true → (decide (v6 < (v3.length : Int))) = true) ∧
 (let v24 : Bool := (bif (decide (v6 < (v3.length : Int))) then (decide ((v3.getD (Int.toNat v6) (0 : Int)) ≤ (x0.getD (Int.toNat v9) (0 : Int)))) else false)
 ((v24 = true →
 (QMedian.inv6 x0 v3 (x0.getD (Int.toNat v9) (0 : Int)) v9 (IntKind.i64.wrap (v6 + (1 : Int))) ∧ QMedian.mes6 x0 v3 (x0.getD (Int.toNat v9) (0 : Int)) v9 (IntKind.i64.wrap (v6 + (1 : Int))) < QMedian.mes6 x0 v3 (x0.getD (Int.toNat v9) (0 : Int)) v9 v6)) ∧
 (v24 = false →
 (0 ≤ (0 : Int) ∧ (0 : Int) ≤ v6 ∧ v6 = v6 ∧ v6 ≤ (v3.length : Int)) ∧
 (0 ≤ v6 ∧ v6 ≤ (v3.length : Int) ∧ (v3.length : Int) ≤ (v3.length : Int)) ∧
 (let v35 : (List Int) := ((v3.drop (Int.toNat v6)).take ((Int.toNat (v3.length : Int)) - (Int.toNat v6)))
 Room ([(x0.getD (Int.toNat v9) (0 : Int))].length + v35.length) 4 ∧
 0 < ([(x0.getD (Int.toNat v9) (0 : Int))] ++ v35).length ∧
 Room (((v3.drop (Int.toNat (0 : Int))).take ((Int.toNat v6) - (Int.toNat (0 : Int)))).length + ([(x0.getD (Int.toNat v9) (0 : Int))] ++ v35).length) 4 ∧
 (let v37h : (List Int) := (((v3.drop (Int.toNat (0 : Int))).take ((Int.toNat v6) - (Int.toNat (0 : Int)))) ++ ([(x0.getD (Int.toNat v9) (0 : Int))] ++ v35))
 (QMedian.inv3 x0 v37h (IntKind.i64.wrap (v9 + (1 : Int))) ∧ QMedian.mes3 x0 v37h (IntKind.i64.wrap (v9 + (1 : Int))) < QMedian.mes3 x0 v3 v9)))))))) ∧
 ((decide (v9 < (x0.length : Int))) = false →
 ((((v3.length : Int) == (0 : Int)) = true →
 (Ret1 (0 : Int) (QMedian.fn x0))) ∧
 (((v3.length : Int) == (0 : Int)) = false →
 (2 : Int) ≠ 0 ∧
 (0 ≤ (IntKind.i64.wrap (Int.tdiv (v3.length : Int) (2 : Int))) ∧ (IntKind.i64.wrap (Int.tdiv (v3.length : Int) (2 : Int))) < (v3.length : Int)) ∧
 (let v47 : Int := (v3.getD (Int.toNat (IntKind.i64.wrap (Int.tdiv (v3.length : Int) (2 : Int)))) (0 : Int))
 (Ret1 v47 (QMedian.fn x0))))))))
theorem ins_at (v : Int) : ∀ (s : List Int) (k : Nat), k ≤ s.length → (∀ j, j < k → s.getD j 0 ≤ v) → (k = s.length ∨ ¬ s.getD k 0 ≤ v) → s.take k ++ v :: s.drop k = ins v s
  | [], k, h, _, _ => by have : k = 0 := by simpa using h
                         subst this; rfl
  | x :: r, 0, h, h1, h2 => by
    rcases h2 with h2 | h2
    · simp at h2
    · simp only [List.getD_cons_zero] at h2
      simp [ins, h2]
  | x :: r, k + 1, h, h1, h2 => by
    have hx : x ≤ v := by have := h1 0 (by omega); simpa using this
    simp only [List.take_succ_cons, List.drop_succ_cons, List.cons_append, ins, hx, if_true]
    have h3 : k = r.length ∨ ¬ r.getD k 0 ≤ v := by
      rcases h2 with h2 | h2
      · left; simpa using h2
      · right; simpa using h2
    rw [ins_at v r k (by simpa using h) (fun j hj => by have := h1 (j + 1) (by omega); simpa using this) h3]
theorem take_snoc {l : List Int} {i : Int} (h0 : 0 ≤ i) (h1 : i < l.length) : l.take (i + 1).toNat = l.take i.toNat ++ [l.getD i.toNat 0] := by
  rw [show (i + 1).toNat = i.toNat + 1 by omega, List.take_add_one]
  simp [List.getD_eq_getElem?_getD, show i.toNat < l.length by omega]
theorem QMedian.vc : QMedian.VC := by
  intro l h
  have h : l.length ≤ 1000 := h
  refine ⟨⟨by omega, by omega, by simp [isort]⟩, ?_⟩
  rintro s i ⟨k1, k2, rfl⟩
  have hsl : (isort (l.take i.toNat)).length = i.toNat := by rw [isort_len, List.length_take]; omega
  refine ⟨fun hc => ?_, fun hc => ?_⟩
  · have hc : i < l.length := of_decide_eq_true hc
    refine ⟨⟨k1, hc⟩, ⟨by omega, by omega, fun j hj => by simp at hj⟩, ?_⟩
    rintro k ⟨j1, j2, j3⟩
    refine ⟨fun h => h, fun h => h, fun hk => ⟨j1, of_decide_eq_true hk⟩, fun h => h, fun h => h, fun h => h, fun h => h, fun hb => ?_, fun hb => ?_⟩
    · have hkl : k < (isort (l.take i.toNat)).length := by
        refine Int.lt_of_not_ge (fun hge => ?_)
        rw [decide_eq_false (by omega)] at hb; cases hb
      rw [decide_eq_true hkl] at hb
      have hv := of_decide_eq_true hb
      rw [i64w (by omega) (by omega)]
      refine ⟨⟨by omega, by omega, fun j hj => ?_⟩, by simp only [QMedian.mes6]; omega⟩
      by_cases hjk : j = k.toNat
      · rw [hjk]; exact hv
      · exact j3 j (by omega)
    · have hexit : k.toNat = (isort (l.take i.toNat)).length ∨ ¬ (isort (l.take i.toNat)).getD k.toNat 0 ≤ l.getD i.toNat 0 := by
        by_cases hkl : k < (isort (l.take i.toNat)).length
        · rw [decide_eq_true hkl] at hb
          exact .inr (of_decide_eq_false hb)
        · left; omega
      have hi := ins_at (l.getD i.toNat 0) _ k.toNat (by omega) j3 hexit
      have hd : (List.drop k.toNat (isort (l.take i.toNat))).take (Int.toNat ((isort (l.take i.toNat)).length : Int) - k.toNat) = List.drop k.toNat (isort (l.take i.toNat)) := by
        rw [List.take_of_length_le]; rw [List.length_drop]; omega
      have ht : List.take (k.toNat - Int.toNat 0) (List.drop (Int.toNat 0) (isort (l.take i.toNat))) = List.take k.toNat (isort (l.take i.toNat)) := rfl
      simp only [hd, ht]
      have hlen : (List.take k.toNat (isort (l.take i.toNat))).length + ([l.getD i.toNat 0] ++ List.drop k.toNat (isort (l.take i.toNat))).length = i.toNat + 1 := by
        simp only [List.length_take, List.length_append, List.length_drop, List.length_singleton]; omega
      refine ⟨⟨by omega, j1, trivial, by omega⟩, ⟨j1, by omega, by omega⟩, room_of (by simp only [List.length_drop, List.length_singleton]; omega) (by omega), by simp, room_of (by rw [hlen]; omega) (by omega), ?_⟩
      rw [i64w (by omega) (by omega)]
      refine ⟨⟨by omega, by omega, ?_⟩, by simp only [QMedian.mes3]; omega⟩
      rw [take_snoc k1 hc, isort_snoc, ← hi]; rfl
  · have hc : ¬ i < l.length := of_decide_eq_false hc
    rw [List.take_of_length_le (by omega)]
    simp only [isort_len]
    have e1 : IntKind.i64.wrap (Int.tdiv (l.length : Int) 2) = ((l.length / 2 : Nat) : Int) := by
      rw [Int.tdiv_eq_ediv_of_nonneg (by omega), i64w (by omega) (by omega)]; omega
    simp only [e1, Int.toNat_natCast, QMedian.fn, medianFn, ret1]
    refine ⟨fun hc => ?_, fun hc => ?_⟩
    · have : l.length = 0 := by simpa using hc
      rw [if_pos this]
    · have hne : l.length ≠ 0 := by simpa using hc
      exact ⟨by omega, ⟨by omega, by omega⟩, by rw [if_neg hne]⟩

/-! ## Adjusted targets -/
def dueN (p : Par) : Nat := p.2.2.1.toNat * p.2.2.2.1.toNat
def spanN (due : Nat) (first last : Int) : Nat := min (max (last.toNat - first.toNat) (due / 4)) (4 * due)
def adjQ (p : Par) (bits first last : Int) : Nat := min (expandN bits.toNat * spanN (dueN p) first last / dueN p) (N4 p.2.1)
def adjFn (p : Par) (bits first last : Int) : Int × Int :=
  if validFn p = false then (0, 6) else if expandN bits.toNat = 0 then (0, 120)
  else (((compactN (if adjQ p bits first last = 0 then 1 else adjQ p bits first last) : Nat) : Int), 0)
def AdjPre (p : Par) (bits first last : Int) : Prop := ParOk p ∧ U32 bits ∧ U32 first ∧ U32 last
def RAdjust.pre (p : Par) (bits first last : Int) : Prop := AdjPre p bits first last
def RAdjust.fn (p : Par) (bits first last : Int) : Int × Int := adjFn p bits first last
def RAdjust.VC : Prop := ∀ (x0 : ((Int × ((List Int) × ((List Int) × (Int × (Int × (Int × Unit)))))) × ((List Int) × (Int × (Int × (Int × (Int × ((List (Int × ((List Int) × Unit))) × (Int × (Int × (Int × Unit))))))))))) (x1 : Int) (x2 : Int) (x3 : Int), RAdjust.pre x0 x1 x2 x3 →
 RValid.pre x0 ∧
 (((!(RValid.fn x0)) = true →
 (Ret2 (0 : Int) (6 : Int) (RAdjust.fn x0 x1 x2 x3))) ∧
 ((!(RValid.fn x0)) = false →
 TExpand.pre x1 ∧
 ((((TExpand.fn x1).2 != (0 : Int)) = true →
 (Ret2 (0 : Int) ((TExpand.fn x1).2) (RAdjust.fn x0 x1 x2 x3))) ∧
 (((TExpand.fn x1).2 != (0 : Int)) = false →
 (let v36 : Int := (IntKind.u64.wrap ((IntKind.u64.wrap x0.2.2.1) * (IntKind.u64.wrap x0.2.2.2.1)))
 (((decide (x3 > x2)) = true →
 (4 : Int) ≠ 0 ∧
 (let v47 : Int := (if (IntKind.u64.wrap (Int.tdiv v36 (4 : Int))) > (IntKind.u64.wrap (IntKind.u32.wrap (x3 - x2))) then (IntKind.u64.wrap (Int.tdiv v36 (4 : Int))) else (IntKind.u64.wrap (IntKind.u32.wrap (x3 - x2))))
 (let v50 : Int := (if (IntKind.u64.wrap ((4 : Int) * v36)) < v47 then (IntKind.u64.wrap ((4 : Int) * v36)) else v47)
 WFrom.pre v50 ∧
 WMul.pre ((TExpand.fn x1).1) (WFrom.fn v50) ∧
 WFrom.pre v36 ∧
 WDiv.pre ((WMul.fn ((TExpand.fn x1).1) (WFrom.fn v50)).1) ((WMul.fn ((TExpand.fn x1).1) (WFrom.fn v50)).2) (WFrom.fn v36) ∧
 (let v64 : (List Int) := (WDiv.fn ((WMul.fn ((TExpand.fn x1).1) (WFrom.fn v50)).1) ((WMul.fn ((TExpand.fn x1).1) (WFrom.fn v50)).2) (WFrom.fn v36)).1
 (let v65 : (List Int) := (WDiv.fn ((WMul.fn ((TExpand.fn x1).1) (WFrom.fn v50)).1) ((WMul.fn ((TExpand.fn x1).1) (WFrom.fn v50)).2) (WFrom.fn v36)).2.1
 (let v66 : Bool := (WDiv.fn ((WMul.fn ((TExpand.fn x1).1) (WFrom.fn v50)).1) ((WMul.fn ((TExpand.fn x1).1) (WFrom.fn v50)).2) (WFrom.fn v36)).2.2
 ((!v66) = false → (!v66) = false) ∧
 ((!v66) = false → (!v66) = false) ∧
 ((!v66) = false → (!v66) = false) ∧
 ((!v66) = false → WCmp.pre v64 x0.2.1) ∧
 ((!v66) = false → (!v66) = false) ∧
 ((!v66) = false → (!v66) = false) ∧
 (let v75 : Bool := (bif (!v66) then true else (decide ((WCmp.fn v64 x0.2.1) > (0 : Int))))
 ((v75 = true →
 (let v80 : Bool := (Ty.beq (.arr 4 (.int .u64)) x0.2.1 (List.replicate 4 (0 : Int)))
 ((v80 = true →
 WFrom.pre (1 : Int) ∧
 TCompact.pre (WFrom.fn (1 : Int)) ∧
 (Ret2 (TCompact.fn (WFrom.fn (1 : Int))) (0 : Int) (RAdjust.fn x0 x1 x2 x3))) ∧
 (v80 = false →
 TCompact.pre x0.2.1 ∧
 (Ret2 (TCompact.fn x0.2.1) (0 : Int) (RAdjust.fn x0 x1 x2 x3)))))) ∧
 (v75 = false →
 (let v80_1 : Bool := (Ty.beq (.arr 4 (.int .u64)) v64 (List.replicate 4 (0 : Int)))
 ((v80_1 = true →
 WFrom.pre (1 : Int) ∧
 TCompact.pre (WFrom.fn (1 : Int)) ∧
 (Ret2 (TCompact.fn (WFrom.fn (1 : Int))) (0 : Int) (RAdjust.fn x0 x1 x2 x3))) ∧
 (v80_1 = false →
 TCompact.pre v64 ∧
 (Ret2 (TCompact.fn v64) (0 : Int) (RAdjust.fn x0 x1 x2 x3)))))))))))))) ∧
 ((decide (x3 > x2)) = false →
 (4 : Int) ≠ 0 ∧
 (let v47_1 : Int := (if (IntKind.u64.wrap (Int.tdiv v36 (4 : Int))) > (0 : Int) then (IntKind.u64.wrap (Int.tdiv v36 (4 : Int))) else (0 : Int))
 (let v50_1 : Int := (if (IntKind.u64.wrap ((4 : Int) * v36)) < v47_1 then (IntKind.u64.wrap ((4 : Int) * v36)) else v47_1)
 WFrom.pre v50_1 ∧
 WMul.pre ((TExpand.fn x1).1) (WFrom.fn v50_1) ∧
 WFrom.pre v36 ∧
 WDiv.pre ((WMul.fn ((TExpand.fn x1).1) (WFrom.fn v50_1)).1) ((WMul.fn ((TExpand.fn x1).1) (WFrom.fn v50_1)).2) (WFrom.fn v36) ∧
 (let v64_1 : (List Int) := (WDiv.fn ((WMul.fn ((TExpand.fn x1).1) (WFrom.fn v50_1)).1) ((WMul.fn ((TExpand.fn x1).1) (WFrom.fn v50_1)).2) (WFrom.fn v36)).1
 (let v65_1 : (List Int) := (WDiv.fn ((WMul.fn ((TExpand.fn x1).1) (WFrom.fn v50_1)).1) ((WMul.fn ((TExpand.fn x1).1) (WFrom.fn v50_1)).2) (WFrom.fn v36)).2.1
 (let v66_1 : Bool := (WDiv.fn ((WMul.fn ((TExpand.fn x1).1) (WFrom.fn v50_1)).1) ((WMul.fn ((TExpand.fn x1).1) (WFrom.fn v50_1)).2) (WFrom.fn v36)).2.2
 ((!v66_1) = false → (!v66_1) = false) ∧
 ((!v66_1) = false → (!v66_1) = false) ∧
 ((!v66_1) = false → (!v66_1) = false) ∧
 ((!v66_1) = false → WCmp.pre v64_1 x0.2.1) ∧
 ((!v66_1) = false → (!v66_1) = false) ∧
 ((!v66_1) = false → (!v66_1) = false) ∧
 (let v75_1 : Bool := (bif (!v66_1) then true else (decide ((WCmp.fn v64_1 x0.2.1) > (0 : Int))))
 ((v75_1 = true →
 (let v80_2 : Bool := (Ty.beq (.arr 4 (.int .u64)) x0.2.1 (List.replicate 4 (0 : Int)))
 ((v80_2 = true →
 WFrom.pre (1 : Int) ∧
 TCompact.pre (WFrom.fn (1 : Int)) ∧
 (Ret2 (TCompact.fn (WFrom.fn (1 : Int))) (0 : Int) (RAdjust.fn x0 x1 x2 x3))) ∧
 (v80_2 = false →
 TCompact.pre x0.2.1 ∧
 (Ret2 (TCompact.fn x0.2.1) (0 : Int) (RAdjust.fn x0 x1 x2 x3)))))) ∧
 (v75_1 = false →
 (let v80_3 : Bool := (Ty.beq (.arr 4 (.int .u64)) v64_1 (List.replicate 4 (0 : Int)))
 ((v80_3 = true →
 WFrom.pre (1 : Int) ∧
 TCompact.pre (WFrom.fn (1 : Int)) ∧
 (Ret2 (TCompact.fn (WFrom.fn (1 : Int))) (0 : Int) (RAdjust.fn x0 x1 x2 x3))) ∧
 (v80_3 = false →
 TCompact.pre v64_1 ∧
 (Ret2 (TCompact.fn v64_1) (0 : Int) (RAdjust.fn x0 x1 x2 x3))))))))))))))))))))
theorem due_le {p : Par} (h : validFn p = true) : 1 ≤ dueN p ∧ dueN p ≤ 4294967296 := by
  have := (valid_iff p).1 h
  constructor
  · exact Nat.mul_pos (by omega) (by omega)
  · exact Nat.mul_le_mul (show p.2.2.1.toNat ≤ 4096 by omega) (show p.2.2.2.1.toNat ≤ 1048576 by omega)
theorem due_word {p : Par} (h : validFn p = true) : IntKind.u64.wrap (IntKind.u64.wrap p.2.2.1 * IntKind.u64.wrap p.2.2.2.1) = ((dueN p : Nat) : Int) := by
  have hv := (valid_iff p).1 h
  have hd := due_le h
  rw [u64w (n := p.2.2.1) (by omega) (by omega), u64w (n := p.2.2.2.1) (by omega) (by omega)]
  have e : p.2.2.1 * p.2.2.2.1 = ((dueN p : Nat) : Int) := by
    unfold dueN
    rw [Int.natCast_mul, Int.toNat_of_nonneg (by omega), Int.toNat_of_nonneg (by omega)]
  rw [e, u64w (by omega) (by omega)]
theorem span_word {due : Nat} (hd : due ≤ 4294967296) {a b : Int} (ha : U32 a) (hb : U32 b) (s : Int) (hs : (b > a ∧ s = IntKind.u64.wrap (IntKind.u32.wrap (b - a))) ∨ (¬ b > a ∧ s = 0)) :
    (if IntKind.u64.wrap (4 * (due : Int)) < (if IntKind.u64.wrap (Int.tdiv (due : Int) 4) > s then IntKind.u64.wrap (Int.tdiv (due : Int) 4) else s) then IntKind.u64.wrap (4 * (due : Int)) else (if IntKind.u64.wrap (Int.tdiv (due : Int) 4) > s then IntKind.u64.wrap (Int.tdiv (due : Int) 4) else s)) = ((spanN due a b : Nat) : Int) := by
  have e1 : IntKind.u64.wrap (Int.tdiv (due : Int) 4) = ((due / 4 : Nat) : Int) := by rw [Int.tdiv_eq_ediv_of_nonneg (by omega), u64w (by omega) (by omega)]; omega
  have e2 : IntKind.u64.wrap (4 * (due : Int)) = ((4 * due : Nat) : Int) := by rw [u64w (by omega) (by omega)]; omega
  have e3 : s = ((b.toNat - a.toNat : Nat) : Int) := by
    unfold U32 at ha hb
    rcases hs with ⟨h, rfl⟩ | ⟨h, rfl⟩
    · rw [u32w (by omega) (by omega), u64w (by omega) (by omega)]; omega
    · omega
  rw [e1, e2, e3]
  unfold spanN
  generalize b.toNat - a.toNat = x
  generalize due / 4 = y
  generalize 4 * due = z
  have hmax : (if ((y : Nat) : Int) > ((x : Nat) : Int) then ((y : Nat) : Int) else ((x : Nat) : Int)) = ((max x y : Nat) : Int) := by
    split
    · rw [Nat.max_eq_right (by omega)]
    · rw [Nat.max_eq_left (by omega)]
  rw [hmax]
  split
  · rw [Nat.min_eq_right (by omega)]
  · rw [Nat.min_eq_left (by omega)]
/-- The quotient of a product, or the limit. -/
theorem quot_cases {t s d L : Nat} (ht : t < Big) (hs : s < Big) (hd : 0 < d) (hdB : d < Big) (hL : L < Big) {a b : List Int} (ha : a = Wn 4 t) (hb : b = Wn 4 s) {D : List Int} (hD : D = Wn 4 d) :
    ∃ q : List Int, ∃ r : List Int, ∃ ok : Bool, divFn (mulFn a b).1 (mulFn a b).2 D = (q, r, ok) ∧ Ok4 q ∧ (ok = true → N4 q = t * s / d) ∧ (ok = false → L < t * s / d) := by
  subst ha hb hD
  have hX : t * s < Big * Big := mul_lt ht hs
  have h1 : t * s / Big < Big := Nat.div_lt_of_lt_mul hX
  simp only [mulFn, N4_W4 ht, N4_W4 hs, divFn, N4_W4 h1, N4_W, N4_W4 hdB]
  have e : t * s / Big * Big + t * s % Big = t * s := by rw [Nat.mul_comm]; exact Nat.div_add_mod _ _
  rw [e]
  split
  · rename_i h
    have h2 : d * Big ≤ t * s := Nat.le_trans (Nat.mul_le_mul_right _ h) (Nat.div_mul_le_self _ _)
    have h3 : Big ≤ t * s / d := (Nat.le_div_iff_mul_le hd).2 (by rw [Nat.mul_comm]; exact h2)
    exact ⟨Wn 4 0, Wn 4 0, false, rfl, ok4' 0, fun h => Bool.noConfusion h, fun _ => Nat.lt_of_lt_of_le hL h3⟩
  · rename_i h
    have h2 : t * s / d < Big := by
      rw [Nat.div_lt_iff_lt_mul hd]
      have : t * s < (t * s / Big + 1) * Big := by
        have h5 := Nat.div_add_mod (t * s) Big
        have h4 := Nat.mod_lt (t * s) (show 0 < Big by decide)
        rw [Nat.add_mul, Nat.one_mul, Nat.mul_comm (t * s / Big)]
        generalize Big * (t * s / Big) = A at *
        omega
      refine Nat.lt_of_lt_of_le this ?_
      rw [Nat.mul_comm Big]
      exact Nat.mul_le_mul_right _ (by omega)
    exact ⟨_, _, true, rfl, ok4' _, fun _ => N4_W4 h2, fun h => Bool.noConfusion h⟩
theorem cmp_gt {n m : Nat} : decide (cmpN n m > 0) = decide (m < n) := by
  rw [decide_eq_decide]; unfold cmpN
  split
  · constructor <;> intro <;> omega
  · split
    · constructor <;> intro <;> omega
    · constructor <;> intro <;> omega
theorem cmpGt {n m : Nat} : 0 < cmpN n m ↔ m < n := by
  have := cmp_gt (n := n) (m := m); rwa [decide_eq_decide] at this
theorem one4 : Wn 4 (Int.toNat 1) = Wn 4 1 := rfl
/-- What both Adjust functions do behind their checks. -/
theorem adj_core {p : Par} {bits a b : Int} (hp : AdjPre p bits a b) (hv : validFn p = true) (he : expandN bits.toNat ≠ 0) {sp : Int} (hsp : sp = ((spanN (dueN p) a b : Nat) : Int)) :
    W64 sp ∧ Ok4 (expandFn bits).1 ∧ Ok4 (Wn 4 sp.toNat) ∧ W64 ((dueN p : Nat) : Int) ∧
    ∃ q r ok, divFn (mulFn (expandFn bits).1 (Wn 4 sp.toNat)).1 (mulFn (expandFn bits).1 (Wn 4 sp.toNat)).2 (Wn 4 (Int.toNat ((dueN p : Nat) : Int))) = (q, r, ok) ∧ Ok4 q ∧
      Ok4 (mulFn (expandFn bits).1 (Wn 4 sp.toNat)).1 ∧ Ok4 (mulFn (expandFn bits).1 (Wn 4 sp.toNat)).2 ∧ Ok4 (Wn 4 (Int.toNat ((dueN p : Nat) : Int))) ∧
      ((!ok || decide (N4 p.2.1 < N4 q)) = true → adjFn p bits a b = (compactFn p.2.1, 0)) ∧
      ((!ok || decide (N4 p.2.1 < N4 q)) = false → adjFn p bits a b = (if N4 q = 0 then compactFn (Wn 4 1) else compactFn q, 0)) := by
  obtain ⟨⟨h1, h2, h3⟩, h4, h5, h6⟩ := hp
  obtain ⟨d1, d2⟩ := due_le hv
  have hvv := (valid_iff p).1 hv
  have hs : spanN (dueN p) a b ≤ 4 * dueN p := Nat.min_le_right _ _
  obtain ⟨e1, e2⟩ := expand1 h4
  have hsB : spanN (dueN p) a b < Big := by unfold Big; omega
  have hdB : dueN p < Big := by unfold Big; omega
  subst hsp
  rw [Int.toNat_natCast, Int.toNat_natCast]
  obtain ⟨q, r, ok, k1, k2, k3, k4⟩ := quot_cases (L := N4 p.2.1) e1.lt hsB d1 hdB h1.lt e1.W.symm rfl rfl
  rw [e2] at k3 k4
  refine ⟨⟨by omega, by omega⟩, e1, ok4' _, ⟨by omega, by omega⟩, q, r, ok, k1, k2, ok4' _, ok4' _, ok4' _, fun hc => ?_, fun hc => ?_⟩
  · have hm : adjQ p bits a b = N4 p.2.1 := by
      unfold adjQ
      apply Nat.min_eq_right
      cases ok
      · have := k4 rfl; omega
      · simp only [Bool.not_true, Bool.false_or, decide_eq_true_eq] at hc
        rw [k3 rfl] at hc; omega
    rw [adjFn, if_neg (by rw [hv]; simp), if_neg he, hm, if_neg hvv.1]; rfl
  · cases ok
    · simp at hc
    · simp only [Bool.not_true, Bool.false_or, decide_eq_false_iff_not] at hc
      have hm : adjQ p bits a b = N4 q := by
        unfold adjQ
        rw [← k3 rfl]
        exact Nat.min_eq_left (by omega)
      rw [adjFn, if_neg (by rw [hv]; simp), if_neg he, hm]
      split
      · rfl
      · rfl
theorem expand2n (x : Int) : ((expandFn x).2 != 0) = decide (expandN x.toNat = 0) := by
  unfold expandFn
  split
  · rename_i h; simp [h]
  · rename_i h; simp [h]
theorem expand2z {x : Int} (h : expandN x.toNat = 0) : (expandFn x).2 = 120 := by unfold expandFn; rw [if_pos h]
theorem RAdjust.vc : RAdjust.VC := by
  intro p bits a b hp
  simp only [imp_self, true_and, RValid.fn, TExpand.fn, WFrom.fn, WMul.fn, WDiv.fn, WCmp.fn, TCompact.fn, expand2n, ret2, RAdjust.fn, gt_iff_lt, cmpGt, Bool.cond_true_left]
  refine ⟨hp.1, fun hv => ?_, fun hv => ?_⟩
  · have hv : validFn p = false := by simpa using hv
    rw [adjFn, if_pos hv]
  have hv : validFn p = true := by simpa using hv
  rw [due_word hv]
  refine ⟨hp.2.1, fun he => ?_, fun he => ?_⟩
  · have he : expandN bits.toNat = 0 := of_decide_eq_true he
    rw [adjFn, if_neg (by rw [hv]; simp), if_pos he, expand2z he]
  have he : expandN bits.toNat ≠ 0 := of_decide_eq_false he
  have hlim : Ok4 p.2.1 := hp.1.1
  have fin : ∀ sp : Int, sp = ((spanN (dueN p) a b : Nat) : Int) → _ := fun sp hsp => adj_core hp hv he hsp
  refine ⟨fun hc => ⟨by omega, ?_⟩, fun hc => ⟨by omega, ?_⟩⟩
  · have hspan := span_word (due_le hv).2 hp.2.2.1 hp.2.2.2 _ (.inl ⟨of_decide_eq_true hc, rfl⟩)
    simp only [hspan]
    obtain ⟨g1, g2, g3, g4, q, r, ok, k1, k2, k3, k4, k5, k6, k7⟩ := fin _ rfl
    simp only [k1, zeq hlim, zeq k2]
    refine ⟨g1, ⟨g2, g3⟩, g4, ⟨k3, k4, k5⟩, fun _ => ⟨k2, hlim⟩, fun hb => ?_, fun hb => ?_⟩
    · refine ⟨fun hz => ?_, fun hz => ⟨hlim, (k6 hb).symm⟩⟩
      exact absurd (of_decide_eq_true hz) ((valid_iff p).1 hv).1
    · refine ⟨fun hz => ⟨⟨by omega, by omega⟩, ok4' _, ?_⟩, fun hz => ⟨k2, ?_⟩⟩
      · rw [k7 hb, if_pos (of_decide_eq_true hz)]; rfl
      · rw [k7 hb, if_neg (of_decide_eq_false hz)]
  · have hspan := span_word (due_le hv).2 hp.2.2.1 hp.2.2.2 _ (.inr ⟨of_decide_eq_false hc, rfl⟩)
    simp only [hspan]
    obtain ⟨g1, g2, g3, g4, q, r, ok, k1, k2, k3, k4, k5, k6, k7⟩ := fin _ rfl
    simp only [k1, zeq hlim, zeq k2]
    refine ⟨g1, ⟨g2, g3⟩, g4, ⟨k3, k4, k5⟩, fun _ => ⟨k2, hlim⟩, fun hb => ?_, fun hb => ?_⟩
    · refine ⟨fun hz => ?_, fun hz => ⟨hlim, (k6 hb).symm⟩⟩
      exact absurd (of_decide_eq_true hz) ((valid_iff p).1 hv).1
    · refine ⟨fun hz => ⟨⟨by omega, by omega⟩, ok4' _, ?_⟩, fun hz => ⟨k2, ?_⟩⟩
      · rw [k7 hb, if_pos (of_decide_eq_true hz)]; rfl
      · rw [k7 hb, if_neg (of_decide_eq_false hz)]
def QAdjust.pre (p : Par) (bits first last : Int) : Prop := AdjPre p bits first last
def QAdjust.fn (p : Par) (bits first last : Int) : Int × Int := adjFn p bits first last
def QAdjust.VC : Prop := ∀ (x0 : ((Int × ((List Int) × ((List Int) × (Int × (Int × (Int × Unit)))))) × ((List Int) × (Int × (Int × (Int × (Int × ((List (Int × ((List Int) × Unit))) × (Int × (Int × (Int × Unit))))))))))) (x1 : Int) (x2 : Int) (x3 : Int), QAdjust.pre x0 x1 x2 x3 →
 QValid.pre x0 ∧
 (((!(QValid.fn x0)) = true →
 (Ret2 (0 : Int) (6 : Int) (QAdjust.fn x0 x1 x2 x3))) ∧
 ((!(QValid.fn x0)) = false →
 QExpand.pre x1 ∧
 ((((QExpand.fn x1).2 != (0 : Int)) = true →
 (Ret2 (0 : Int) ((QExpand.fn x1).2) (QAdjust.fn x0 x1 x2 x3))) ∧
 (((QExpand.fn x1).2 != (0 : Int)) = false →
 (let v36 : Int := (IntKind.u64.wrap ((IntKind.u64.wrap x0.2.2.1) * (IntKind.u64.wrap x0.2.2.2.1)))
 (((decide (x3 > x2)) = true →
 (4 : Int) ≠ 0 ∧
 (let v47 : Int := (if (IntKind.u64.wrap (Int.tdiv v36 (4 : Int))) > (IntKind.u64.wrap (IntKind.u32.wrap (x3 - x2))) then (IntKind.u64.wrap (Int.tdiv v36 (4 : Int))) else (IntKind.u64.wrap (IntKind.u32.wrap (x3 - x2))))
 (let v50 : Int := (if (IntKind.u64.wrap ((4 : Int) * v36)) < v47 then (IntKind.u64.wrap ((4 : Int) * v36)) else v47)
 QFromUint.pre v50 ∧
 QMul.pre ((QExpand.fn x1).1) (QFromUint.fn v50) ∧
 QFromUint.pre v36 ∧
 QDiv.pre ((QMul.fn ((QExpand.fn x1).1) (QFromUint.fn v50)).1) ((QMul.fn ((QExpand.fn x1).1) (QFromUint.fn v50)).2) (QFromUint.fn v36) ∧
 (let v64 : (List Int) := (QDiv.fn ((QMul.fn ((QExpand.fn x1).1) (QFromUint.fn v50)).1) ((QMul.fn ((QExpand.fn x1).1) (QFromUint.fn v50)).2) (QFromUint.fn v36)).1
 (let v65 : (List Int) := (QDiv.fn ((QMul.fn ((QExpand.fn x1).1) (QFromUint.fn v50)).1) ((QMul.fn ((QExpand.fn x1).1) (QFromUint.fn v50)).2) (QFromUint.fn v36)).2.1
 (let v66 : Bool := (QDiv.fn ((QMul.fn ((QExpand.fn x1).1) (QFromUint.fn v50)).1) ((QMul.fn ((QExpand.fn x1).1) (QFromUint.fn v50)).2) (QFromUint.fn v36)).2.2
 ((!v66) = false → (!v66) = false) ∧
 ((!v66) = false → (!v66) = false) ∧
 ((!v66) = false → (!v66) = false) ∧
 ((!v66) = false → QCmp.pre v64 x0.2.1) ∧
 ((!v66) = false → (!v66) = false) ∧
 ((!v66) = false → (!v66) = false) ∧
 (let v75 : Bool := (bif (!v66) then true else (decide ((QCmp.fn v64 x0.2.1) > (0 : Int))))
 ((v75 = true →
 QZero.pre x0.2.1 ∧
 (((QZero.fn x0.2.1) = true →
 QFromUint.pre (1 : Int) ∧
 QCompact.pre (QFromUint.fn (1 : Int)) ∧
 (Ret2 (QCompact.fn (QFromUint.fn (1 : Int))) (0 : Int) (QAdjust.fn x0 x1 x2 x3))) ∧
 ((QZero.fn x0.2.1) = false →
 QCompact.pre x0.2.1 ∧
 (Ret2 (QCompact.fn x0.2.1) (0 : Int) (QAdjust.fn x0 x1 x2 x3))))) ∧
 (v75 = false →
 QZero.pre v64 ∧
 (((QZero.fn v64) = true →
 QFromUint.pre (1 : Int) ∧
 QCompact.pre (QFromUint.fn (1 : Int)) ∧
 (Ret2 (QCompact.fn (QFromUint.fn (1 : Int))) (0 : Int) (QAdjust.fn x0 x1 x2 x3))) ∧
 ((QZero.fn v64) = false →
 QCompact.pre v64 ∧
 (Ret2 (QCompact.fn v64) (0 : Int) (QAdjust.fn x0 x1 x2 x3))))))))))))) ∧
 ((decide (x3 > x2)) = false →
 (4 : Int) ≠ 0 ∧
 (let v47_1 : Int := (if (IntKind.u64.wrap (Int.tdiv v36 (4 : Int))) > (0 : Int) then (IntKind.u64.wrap (Int.tdiv v36 (4 : Int))) else (0 : Int))
 (let v50_1 : Int := (if (IntKind.u64.wrap ((4 : Int) * v36)) < v47_1 then (IntKind.u64.wrap ((4 : Int) * v36)) else v47_1)
 QFromUint.pre v50_1 ∧
 QMul.pre ((QExpand.fn x1).1) (QFromUint.fn v50_1) ∧
 QFromUint.pre v36 ∧
 QDiv.pre ((QMul.fn ((QExpand.fn x1).1) (QFromUint.fn v50_1)).1) ((QMul.fn ((QExpand.fn x1).1) (QFromUint.fn v50_1)).2) (QFromUint.fn v36) ∧
 (let v64_1 : (List Int) := (QDiv.fn ((QMul.fn ((QExpand.fn x1).1) (QFromUint.fn v50_1)).1) ((QMul.fn ((QExpand.fn x1).1) (QFromUint.fn v50_1)).2) (QFromUint.fn v36)).1
 (let v65_1 : (List Int) := (QDiv.fn ((QMul.fn ((QExpand.fn x1).1) (QFromUint.fn v50_1)).1) ((QMul.fn ((QExpand.fn x1).1) (QFromUint.fn v50_1)).2) (QFromUint.fn v36)).2.1
 (let v66_1 : Bool := (QDiv.fn ((QMul.fn ((QExpand.fn x1).1) (QFromUint.fn v50_1)).1) ((QMul.fn ((QExpand.fn x1).1) (QFromUint.fn v50_1)).2) (QFromUint.fn v36)).2.2
 ((!v66_1) = false → (!v66_1) = false) ∧
 ((!v66_1) = false → (!v66_1) = false) ∧
 ((!v66_1) = false → (!v66_1) = false) ∧
 ((!v66_1) = false → QCmp.pre v64_1 x0.2.1) ∧
 ((!v66_1) = false → (!v66_1) = false) ∧
 ((!v66_1) = false → (!v66_1) = false) ∧
 (let v75_1 : Bool := (bif (!v66_1) then true else (decide ((QCmp.fn v64_1 x0.2.1) > (0 : Int))))
 ((v75_1 = true →
 QZero.pre x0.2.1 ∧
 (((QZero.fn x0.2.1) = true →
 QFromUint.pre (1 : Int) ∧
 QCompact.pre (QFromUint.fn (1 : Int)) ∧
 (Ret2 (QCompact.fn (QFromUint.fn (1 : Int))) (0 : Int) (QAdjust.fn x0 x1 x2 x3))) ∧
 ((QZero.fn x0.2.1) = false →
 QCompact.pre x0.2.1 ∧
 (Ret2 (QCompact.fn x0.2.1) (0 : Int) (QAdjust.fn x0 x1 x2 x3))))) ∧
 (v75_1 = false →
 QZero.pre v64_1 ∧
 (((QZero.fn v64_1) = true →
 QFromUint.pre (1 : Int) ∧
 QCompact.pre (QFromUint.fn (1 : Int)) ∧
 (Ret2 (QCompact.fn (QFromUint.fn (1 : Int))) (0 : Int) (QAdjust.fn x0 x1 x2 x3))) ∧
 ((QZero.fn v64_1) = false →
 QCompact.pre v64_1 ∧
 (Ret2 (QCompact.fn v64_1) (0 : Int) (QAdjust.fn x0 x1 x2 x3)))))))))))))))))))
theorem QAdjust.vc : QAdjust.VC := by
  intro p bits a b hp
  simp only [imp_self, true_and, QValid.fn, QExpand.fn, QFromUint.fn, QMul.fn, QDiv.fn, QCmp.fn, QCompact.fn, QZero.fn, expand2n, ret2, QAdjust.fn, gt_iff_lt, cmpGt, Bool.cond_true_left]
  refine ⟨hp.1, fun hv => ?_, fun hv => ?_⟩
  · have hv : validFn p = false := by simpa using hv
    rw [adjFn, if_pos hv]
  have hv : validFn p = true := by simpa using hv
  rw [due_word hv]
  refine ⟨hp.2.1, fun he => ?_, fun he => ?_⟩
  · have he : expandN bits.toNat = 0 := of_decide_eq_true he
    rw [adjFn, if_neg (by rw [hv]; simp), if_pos he, expand2z he]
  have he : expandN bits.toNat ≠ 0 := of_decide_eq_false he
  have hlim : Ok4 p.2.1 := hp.1.1
  have fin : ∀ sp : Int, sp = ((spanN (dueN p) a b : Nat) : Int) → _ := fun sp hsp => adj_core hp hv he hsp
  refine ⟨fun hc => ⟨by omega, ?_⟩, fun hc => ⟨by omega, ?_⟩⟩
  · have hspan := span_word (due_le hv).2 hp.2.2.1 hp.2.2.2 _ (.inl ⟨of_decide_eq_true hc, rfl⟩)
    simp only [hspan]
    obtain ⟨g1, g2, g3, g4, q, r, ok, k1, k2, k3, k4, k5, k6, k7⟩ := fin _ rfl
    simp only [k1]
    refine ⟨g1, ⟨g2, g3⟩, g4, ⟨k3, k4, k5⟩, fun _ => ⟨k2, hlim⟩, fun hb => ?_, fun hb => ?_⟩
    · refine ⟨hlim, fun hz => ?_, fun hz => ⟨hlim, (k6 hb).symm⟩⟩
      exact absurd (of_decide_eq_true hz) ((valid_iff p).1 hv).1
    · refine ⟨k2, fun hz => ⟨⟨by omega, by omega⟩, ok4' _, ?_⟩, fun hz => ⟨k2, ?_⟩⟩
      · rw [k7 hb, if_pos (of_decide_eq_true hz)]; rfl
      · rw [k7 hb, if_neg (of_decide_eq_false hz)]
  · have hspan := span_word (due_le hv).2 hp.2.2.1 hp.2.2.2 _ (.inr ⟨of_decide_eq_false hc, rfl⟩)
    simp only [hspan]
    obtain ⟨g1, g2, g3, g4, q, r, ok, k1, k2, k3, k4, k5, k6, k7⟩ := fin _ rfl
    simp only [k1]
    refine ⟨g1, ⟨g2, g3⟩, g4, ⟨k3, k4, k5⟩, fun _ => ⟨k2, hlim⟩, fun hb => ?_, fun hb => ?_⟩
    · refine ⟨hlim, fun hz => ?_, fun hz => ⟨hlim, (k6 hb).symm⟩⟩
      exact absurd (of_decide_eq_true hz) ((valid_iff p).1 hv).1
    · refine ⟨k2, fun hz => ⟨⟨by omega, by omega⟩, ok4' _, ?_⟩, fun hz => ⟨k2, ?_⟩⟩
      · rw [k7 hb, if_pos (of_decide_eq_true hz)]; rfl
      · rw [k7 hb, if_neg (of_decide_eq_false hz)]

/-! ## What is due -/
def nextBad (p : Par) (c : Cx) : Bool := !validFn p || (decide (c.1 < 0) || (decide (c.1 > 16777216) || (decide (c.2.2.2.2.1.length = 0) || decide (11 < c.2.2.2.2.1.length))))
def nextFn (p : Par) (c : Cx) : Int × Int :=
  if nextBad p c = true then (0, 6) else if Int.tmod (c.1 + 1) p.2.2.1 = 0 then adjFn p c.2.2.1 c.2.2.2.1 (c.2.2.2.2.1.getD (c.2.2.2.2.1.length - 1) 0) else (c.2.2.1, 0)
def RNext.pre (p : Par) (c : Cx) : Prop := ParOk p ∧ CxOk c
def RNext.fn (p : Par) (c : Cx) : Int × Int := nextFn p c
def RNext.VC : Prop := ∀ (x0 : ((Int × ((List Int) × ((List Int) × (Int × (Int × (Int × Unit)))))) × ((List Int) × (Int × (Int × (Int × (Int × ((List (Int × ((List Int) × Unit))) × (Int × (Int × (Int × Unit))))))))))) (x1 : (Int × ((List Int) × (Int × (Int × ((List Int) × Unit)))))), RNext.pre x0 x1 →
 RValid.pre x0 ∧
 ((!(RValid.fn x0)) = false → (!(RValid.fn x0)) = false) ∧
 ((!(RValid.fn x0)) = false → (!(RValid.fn x0)) = false) ∧
 ((!(RValid.fn x0)) = false → (!(RValid.fn x0)) = false) ∧
 (let v17 : Bool := (bif (!(RValid.fn x0)) then true else (decide (x1.1 < (0 : Int))))
 (v17 = false → v17 = false) ∧
 (v17 = false → v17 = false) ∧
 (v17 = false → v17 = false) ∧
 ((bif v17 then true else (decide (x1.1 > (16777216 : Int)))) = false → (bif v17 then true else (decide (x1.1 > (16777216 : Int)))) = false) ∧
 ((bif v17 then true else (decide (x1.1 > (16777216 : Int)))) = false → (bif v17 then true else (decide (x1.1 > (16777216 : Int)))) = false) ∧
 (let v26 : Bool := (bif (bif v17 then true else (decide (x1.1 > (16777216 : Int)))) then true else ((x1.2.2.2.2.1.length : Int) == (0 : Int)))
 (v26 = false → v26 = false) ∧
 (v26 = false → v26 = false) ∧
 (let v30 : Bool := (bif v26 then true else (decide ((x1.2.2.2.2.1.length : Int) > (11 : Int))))
 ((v30 = true →
 (Ret2 (0 : Int) (6 : Int) (RNext.fn x0 x1))) ∧
 (v30 = false →
 x0.2.2.1 ≠ 0 ∧
 (let v37 : Bool := ((Int.tmod (IntKind.i64.wrap (x1.1 + (1 : Int))) x0.2.2.1) == (0 : Int))
 ((v37 = true →
 (0 ≤ (IntKind.i64.wrap ((x1.2.2.2.2.1.length : Int) - (1 : Int))) ∧ (IntKind.i64.wrap ((x1.2.2.2.2.1.length : Int) - (1 : Int))) < (x1.2.2.2.2.1.length : Int)) ∧
 (let v48 : Int := (x1.2.2.2.2.1.getD (Int.toNat (IntKind.i64.wrap ((x1.2.2.2.2.1.length : Int) - (1 : Int)))) (0 : Int))
 RAdjust.pre x0 x1.2.2.1 x1.2.2.2.1 v48 ∧
 (Ret2 ((RAdjust.fn x0 x1.2.2.1 x1.2.2.2.1 v48).1) ((RAdjust.fn x0 x1.2.2.1 x1.2.2.2.1 v48).2) (RNext.fn x0 x1)))) ∧
 (v37 = false →
 (Ret2 x1.2.2.1 (0 : Int) (RNext.fn x0 x1))))))))))
theorem next_core {p : Par} {c : Cx} (hp : ParOk p ∧ CxOk c) (h : nextBad p c = false) : p.2.2.1 ≠ 0 ∧ (0 ≤ IntKind.i64.wrap ((c.2.2.2.2.1.length : Int) - 1) ∧ IntKind.i64.wrap ((c.2.2.2.2.1.length : Int) - 1) < (c.2.2.2.2.1.length : Int)) ∧
    (IntKind.i64.wrap ((c.2.2.2.2.1.length : Int) - 1)).toNat = c.2.2.2.2.1.length - 1 ∧ IntKind.i64.wrap (c.1 + 1) = c.1 + 1 ∧ AdjPre p c.2.2.1 c.2.2.2.1 (c.2.2.2.2.1.getD (c.2.2.2.2.1.length - 1) 0) := by
  simp only [nextBad, Bool.or_eq_false_iff, Bool.not_eq_false', decide_eq_false_iff_not] at h
  obtain ⟨hv, h1, h2, h3, h4⟩ := h
  have hvv := (valid_iff p).1 hv
  rw [i64w (n := (c.2.2.2.2.1.length : Int) - 1) (by omega) (by omega)]
  refine ⟨by omega, ⟨by omega, by omega⟩, by omega, i64w (by omega) (by omega), hp.1, hp.2.1, hp.2.2.1, hp.2.2.2 _ ?_⟩
  rw [List.getD_eq_getElem?_getD, List.getElem?_eq_getElem (by omega), Option.getD_some]
  exact List.getElem_mem _
theorem RNext.vc : RNext.VC := by
  intro p c hp
  simp only [imp_self, true_and, Bool.cond_true_left, RValid.fn, ret2, RNext.fn, RAdjust.fn]
  have e : (((((!validFn p || decide (c.1 < 0)) || decide (c.1 > 16777216)) || ((c.2.2.2.2.1.length : Int) == 0)) || decide ((c.2.2.2.2.1.length : Int) > 11))) = nextBad p c := by
    rw [Bool.eq_iff_iff, nextBad]
    generalize validFn p = vb
    cases vb
    · simp
    · simp only [Bool.not_true, Bool.false_or, Bool.or_eq_true, decide_eq_true_eq, beq_iff_eq]
      omega
  rw [e]
  refine ⟨hp.1, fun hb => ?_, fun hb => ?_⟩
  · rw [nextFn, if_pos hb]
  · obtain ⟨g1, g2, g3, g4, g5⟩ := next_core hp hb
    rw [g3, g4]
    refine ⟨g1, fun hm => ⟨g2, g5, ?_⟩, fun hm => ?_⟩
    · rw [nextFn, if_neg (by rw [hb]; simp), if_pos (by simpa using hm)]
    · rw [nextFn, if_neg (by rw [hb]; simp), if_neg (by simpa using hm)]
def QNext.pre (p : Par) (c : Cx) : Prop := ParOk p ∧ CxOk c
def QNext.fn (p : Par) (c : Cx) : Int × Int := nextFn p c
def QNext.VC : Prop := ∀ (x0 : ((Int × ((List Int) × ((List Int) × (Int × (Int × (Int × Unit)))))) × ((List Int) × (Int × (Int × (Int × (Int × ((List (Int × ((List Int) × Unit))) × (Int × (Int × (Int × Unit))))))))))) (x1 : (Int × ((List Int) × (Int × (Int × ((List Int) × Unit)))))), QNext.pre x0 x1 →
 QValid.pre x0 ∧
 ((!(QValid.fn x0)) = false → (!(QValid.fn x0)) = false) ∧
 ((!(QValid.fn x0)) = false → (!(QValid.fn x0)) = false) ∧
 ((!(QValid.fn x0)) = false → (!(QValid.fn x0)) = false) ∧
 (let v13 : Bool := (bif (!(QValid.fn x0)) then true else (decide (x1.1 < (0 : Int))))
 (v13 = false → v13 = false) ∧
 (v13 = false → v13 = false) ∧
 (v13 = false → v13 = false) ∧
 ((bif v13 then true else (decide (x1.1 > (16777216 : Int)))) = false → (bif v13 then true else (decide (x1.1 > (16777216 : Int)))) = false) ∧
 ((bif v13 then true else (decide (x1.1 > (16777216 : Int)))) = false → (bif v13 then true else (decide (x1.1 > (16777216 : Int)))) = false) ∧
 ((bif v13 then true else (decide (x1.1 > (16777216 : Int)))) = false → (bif v13 then true else (decide (x1.1 > (16777216 : Int)))) = false) ∧
 ((bif v13 then true else (decide (x1.1 > (16777216 : Int)))) = false → (bif v13 then true else (decide (x1.1 > (16777216 : Int)))) = false) ∧
 (let v24 : Bool := (bif (bif v13 then true else (decide (x1.1 > (16777216 : Int)))) then true else ((x1.2.2.2.2.1.length : Int) == (0 : Int)))
 (v24 = false → v24 = false) ∧
 (v24 = false → v24 = false) ∧
 (v24 = false → v24 = false) ∧
 (v24 = false → v24 = false) ∧
 (let v30 : Bool := (bif v24 then true else (decide ((x1.2.2.2.2.1.length : Int) > (11 : Int))))
 ((v30 = true →
 (Ret2 (0 : Int) (6 : Int) (QNext.fn x0 x1))) ∧
 (v30 = false →
 x0.2.2.1 ≠ 0 ∧
 (let v37 : Bool := ((Int.tmod (IntKind.i64.wrap (x1.1 + (1 : Int))) x0.2.2.1) != (0 : Int))
 ((v37 = true →
 (Ret2 x1.2.2.1 (0 : Int) (QNext.fn x0 x1))) ∧
 (v37 = false →
 (0 ≤ (IntKind.i64.wrap ((x1.2.2.2.2.1.length : Int) - (1 : Int))) ∧ (IntKind.i64.wrap ((x1.2.2.2.2.1.length : Int) - (1 : Int))) < (x1.2.2.2.2.1.length : Int)) ∧
 (let v52 : Int := (x1.2.2.2.2.1.getD (Int.toNat (IntKind.i64.wrap ((x1.2.2.2.2.1.length : Int) - (1 : Int)))) (0 : Int))
 QAdjust.pre x0 x1.2.2.1 x1.2.2.2.1 v52 ∧
 (Ret2 ((QAdjust.fn x0 x1.2.2.1 x1.2.2.2.1 v52).1) ((QAdjust.fn x0 x1.2.2.1 x1.2.2.2.1 v52).2) (QNext.fn x0 x1)))))))))))
theorem QNext.vc : QNext.VC := by
  intro p c hp
  simp only [imp_self, true_and, Bool.cond_true_left, QValid.fn, ret2, QNext.fn, QAdjust.fn]
  have e : (((((!validFn p || decide (c.1 < 0)) || decide (c.1 > 16777216)) || ((c.2.2.2.2.1.length : Int) == 0)) || decide ((c.2.2.2.2.1.length : Int) > 11))) = nextBad p c := by
    rw [Bool.eq_iff_iff, nextBad]
    generalize validFn p = vb
    cases vb
    · simp
    · simp only [Bool.not_true, Bool.false_or, Bool.or_eq_true, decide_eq_true_eq, beq_iff_eq]
      omega
  rw [e]
  refine ⟨hp.1, fun hb => ?_, fun hb => ?_⟩
  · rw [nextFn, if_pos hb]
  · obtain ⟨g1, g2, g3, g4, g5⟩ := next_core hp hb
    rw [g3, g4]
    refine ⟨g1, fun hm => ?_, fun hm => ⟨g2, g5, ?_⟩⟩
    · rw [nextFn, if_neg (by rw [hb]; simp), if_neg (by simpa using hm)]
    · rw [nextFn, if_neg (by rw [hb]; simp), if_pos (by simpa using hm)]
end Lc
