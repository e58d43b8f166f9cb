/- The laws of chapter 13: their conditions hold. -/
import Derived.Test.YtpbfmmnncbbhdaaRetarget
set_option linter.unusedVariables false
set_option maxRecDepth 100000
namespace Lc
open Go

def madeParams (v : Int) : Par :=
  ((1, List.replicate 32 0, List.replicate 32 0, 1000 + v, 545259519, 0, ()), Wn 4 (Big / 2 - 1), 3 + v % 5, 5, 600, 1, [], 1000, 4 + v % 3, v % 3, ())
def MParams.pre (v : Int) : Prop := 0 ≤ v ∧ v ≤ 255
def MParams.fn (v : Int) : Par := madeParams v
def MParams.VC : Prop := ∀ (x0 : Int), MParams.pre x0 →
 (let v2h : ((Int × ((List Int) × ((List Int) × (Int × (Int × (Int × Unit)))))) × ((List Int) × (Int × (Int × (Int × (Int × ((List (Int × ((List Int) × Unit))) × (Int × (Int × (Int × Unit)))))))))) := (((0 : Int), ((List.replicate 32 (0 : Int)), ((List.replicate 32 (0 : Int)), ((0 : Int), ((0 : Int), ((0 : Int), ())))))), ((List.replicate 4 (0 : Int)), ((0 : Int), ((0 : Int), ((0 : Int), ((0 : Int), ([], ((0 : Int), ((0 : Int), ((0 : Int), ()))))))))))
 (let v6 : (Int × ((List Int) × ((List Int) × (Int × (Int × (Int × Unit)))))) := ((1 : Int), ((List.replicate 32 (0 : Int)), ((List.replicate 32 (0 : Int)), ((IntKind.u32.wrap ((1000 : Int) + (IntKind.u32.wrap x0))), ((545259519 : Int), ((0 : Int), ()))))))
 QNot.pre (List.replicate 4 (0 : Int)) ∧
 QShr.pre (QNot.fn (List.replicate 4 (0 : Int))) (1 : Int) ∧
 (5 : Int) ≠ 0 ∧
 (let v13 : Int := (IntKind.i64.wrap ((3 : Int) + (IntKind.i64.wrap (Int.tmod x0 (5 : Int)))))
 (3 : Int) ≠ 0 ∧
 (let v17 : Int := (IntKind.i64.wrap ((4 : Int) + (IntKind.i64.wrap (Int.tmod x0 (3 : Int)))))
 (3 : Int) ≠ 0 ∧
 (let v21 : ((Int × ((List Int) × ((List Int) × (Int × (Int × (Int × Unit)))))) × ((List Int) × (Int × (Int × (Int × (Int × ((List (Int × ((List Int) × Unit))) × (Int × (Int × (Int × Unit)))))))))) := (v6, ((QShr.fn (QNot.fn (List.replicate 4 (0 : Int))) (1 : Int)), (v13, ((5 : Int), ((600 : Int), ((1 : Int), ([], ((1000 : Int), (v17, ((IntKind.i64.wrap (Int.tmod x0 (3 : Int))), ()))))))))))
 (Ret1 v21 (MParams.fn x0)))))))
theorem limit_made : QShr.fn (QNot.fn (List.replicate 4 (0 : Int))) 1 = Wn 4 (Big / 2 - 1) := by decide +kernel
theorem MParams.vc : MParams.VC := by
  intro v ⟨h1, h2⟩
  have e5 : Int.tmod v 5 = v % 5 := Int.tmod_eq_emod_of_nonneg h1
  have e3 : Int.tmod v 3 = v % 3 := Int.tmod_eq_emod_of_nonneg h1
  rw [u32w (n := v) (by omega) (by omega), u32w (by omega) (by omega), e5, e3, i64w (n := v % 5) (by omega) (by omega), i64w (n := v % 3) (by omega) (by omega), i64w (n := 3 + v % 5) (by omega) (by omega), i64w (n := 4 + v % 3) (by omega) (by omega), limit_made]
  exact ⟨ok4' 0, ok4' _, by omega, by omega, by omega, rfl⟩
def KParams.pre (p : Par) : Prop := True
def KParams.fn (p : Par) : Bool := decide (p.2.2.2.2.2.2.1.length ≤ 8)
def KParams.VC : Prop := ∀ (x0 : ((Int × ((List Int) × ((List Int) × (Int × (Int × (Int × Unit)))))) × ((List Int) × (Int × (Int × (Int × (Int × ((List (Int × ((List Int) × Unit))) × (Int × (Int × (Int × Unit))))))))))), KParams.pre x0 →
 (Ret1 (decide ((x0.2.2.2.2.2.2.1.length : Int) ≤ (8 : Int))) (KParams.fn x0))
theorem KParams.vc : KParams.VC := by
  intro p _
  rw [ret1, KParams.fn, decide_eq_decide]; omega
def KContext.pre (c : Cx) : Prop := True
def KContext.fn (c : Cx) : Bool := decide (c.2.2.2.2.1.length ≤ 16)
def KContext.VC : Prop := ∀ (x0 : (Int × ((List Int) × (Int × (Int × ((List Int) × Unit)))))), KContext.pre x0 →
 (Ret1 (decide ((x0.2.2.2.2.1.length : Int) ≤ (16 : Int))) (KContext.fn x0))
theorem KContext.vc : KContext.VC := by
  intro c _
  rw [ret1, KContext.fn, decide_eq_decide]; omega
def LParams.pre : Prop := True
def lawParams : Par := ((1, List.replicate 32 0, List.replicate 32 0, 1000, 545259519, 0, ()), Wn 4 (Big / 2 - 1), 10, 60, 600, 1, [], 1000, 4, 0, ())
def LParams.fn : Par := lawParams
def LParams.VC : Prop := LParams.pre →
 (let v0h : ((Int × ((List Int) × ((List Int) × (Int × (Int × (Int × Unit)))))) × ((List Int) × (Int × (Int × (Int × (Int × ((List (Int × ((List Int) × Unit))) × (Int × (Int × (Int × Unit)))))))))) := (((0 : Int), ((List.replicate 32 (0 : Int)), ((List.replicate 32 (0 : Int)), ((0 : Int), ((0 : Int), ((0 : Int), ())))))), ((List.replicate 4 (0 : Int)), ((0 : Int), ((0 : Int), ((0 : Int), ((0 : Int), ([], ((0 : Int), ((0 : Int), ((0 : Int), ()))))))))))
 MParams.pre (0 : Int) ∧
 (let v1h : ((Int × ((List Int) × ((List Int) × (Int × (Int × (Int × Unit)))))) × ((List Int) × (Int × (Int × (Int × (Int × ((List (Int × ((List Int) × Unit))) × (Int × (Int × (Int × Unit)))))))))) := (((0 : Int), ((List.replicate 32 (0 : Int)), ((List.replicate 32 (0 : Int)), ((0 : Int), ((0 : Int), ((0 : Int), ())))))), ((List.replicate 4 (0 : Int)), ((0 : Int), ((0 : Int), ((0 : Int), ((0 : Int), ([], ((0 : Int), ((0 : Int), ((0 : Int), ()))))))))))
 (let v1_1h : ((Int × ((List Int) × ((List Int) × (Int × (Int × (Int × Unit)))))) × ((List Int) × (Int × (Int × (Int × (Int × ((List (Int × ((List Int) × Unit))) × (Int × (Int × (Int × Unit)))))))))) := ((MParams.fn (0 : Int)).1, ((MParams.fn (0 : Int)).2.1, ((10 : Int), (MParams.fn (0 : Int)).2.2.2)))
 (let v1_2h : ((Int × ((List Int) × ((List Int) × (Int × (Int × (Int × Unit)))))) × ((List Int) × (Int × (Int × (Int × (Int × ((List (Int × ((List Int) × Unit))) × (Int × (Int × (Int × Unit)))))))))) := (v1_1h.1, (v1_1h.2.1, (v1_1h.2.2.1, ((60 : Int), v1_1h.2.2.2.2))))
 (Ret1 v1_2h LParams.fn)))))
theorem LParams.vc : LParams.VC := fun _ => ⟨⟨by omega, by omega⟩, rfl⟩
def LSane.pre : Prop := True
def LSane.fn : Bool := true
def LSane.VC : Prop := LSane.pre →
 QCompact.pre ((List.replicate 4 (0 : Int)).set 3 (256 : Int)) ∧
 (let v7 : Int := (QCompact.fn ((List.replicate 4 (0 : Int)).set 3 (256 : Int)))
 LParams.pre ∧
 RAdjust.pre (LParams.fn) v7 (0 : Int) (300 : Int) ∧
 LParams.pre ∧
 RAdjust.pre (LParams.fn) v7 (0 : Int) (10 : Int) ∧
 (let v21 : Bool := ((RAdjust.fn (LParams.fn) v7 (0 : Int) (300 : Int)).2 == (0 : Int))
 (v21 = true → v21 = true) ∧
 (v21 = true → v21 = true) ∧
 (let v25 : Bool := (bif v21 then ((RAdjust.fn (LParams.fn) v7 (0 : Int) (10 : Int)).2 == (0 : Int)) else false)
 (v25 = true → v25 = true) ∧
 (v25 = true → QCompact.pre ((List.replicate 4 (0 : Int)).set 3 (128 : Int))) ∧
 (v25 = true → v25 = true) ∧
 (v25 = true → v25 = true) ∧
 (v25 = true → v25 = true) ∧
 (let v31 : Bool := (bif v25 then ((RAdjust.fn (LParams.fn) v7 (0 : Int) (300 : Int)).1 == (QCompact.fn ((List.replicate 4 (0 : Int)).set 3 (128 : Int)))) else false)
 (v31 = true → v31 = true) ∧
 (v31 = true → QCompact.pre ((List.replicate 4 (0 : Int)).set 3 (64 : Int))) ∧
 (v31 = true → v31 = true) ∧
 (v31 = true → v31 = true) ∧
 (v31 = true → v31 = true) ∧
 (let v37 : Bool := (bif v31 then ((RAdjust.fn (LParams.fn) v7 (0 : Int) (10 : Int)).1 == (QCompact.fn ((List.replicate 4 (0 : Int)).set 3 (64 : Int)))) else false)
 (v37 = true → v37 = true) ∧
 (v37 = true → RMedian.pre [(5 : Int), (1 : Int), (3 : Int), (9 : Int)]) ∧
 (v37 = true → v37 = true) ∧
 (v37 = true → v37 = true) ∧
 (let v42 : Bool := (bif v37 then ((RMedian.fn [(5 : Int), (1 : Int), (3 : Int), (9 : Int)]) == (5 : Int)) else false)
 (Ret1 v42 LSane.fn)))))))
theorem lawParams_ok : ParOk lawParams := ⟨ok4' _, ⟨by decide, by decide⟩, by decide⟩
theorem set3 (n : Nat) (h : n < 1000) : (List.replicate 4 (0 : Int)).set 3 (n : Int) = Wn 4 (n * 6277101735386680763835789423207666416102355444464034512896) := by
  rw [W4_eq, dig0, dig1, dig2, dig3]
  have e1 : n * 6277101735386680763835789423207666416102355444464034512896 % 18446744073709551616 = 0 := by omega
  have e2 : n * 6277101735386680763835789423207666416102355444464034512896 / 18446744073709551616 % 18446744073709551616 = 0 := by omega
  have e3 : n * 6277101735386680763835789423207666416102355444464034512896 / 340282366920938463463374607431768211456 % 18446744073709551616 = 0 := by omega
  have e4 : n * 6277101735386680763835789423207666416102355444464034512896 / 6277101735386680763835789423207666416102355444464034512896 % 18446744073709551616 = n := by omega
  rw [e1, e2, e3, e4]; rfl
theorem sane_c256 : QCompact.fn ((List.replicate 4 (0 : Int)).set 3 256) = 436273152 := by decide +kernel
theorem sane_c128 : QCompact.fn ((List.replicate 4 (0 : Int)).set 3 128) = 436240384 := by decide +kernel
theorem sane_c64 : QCompact.fn ((List.replicate 4 (0 : Int)).set 3 64) = 423624704 := by decide +kernel
theorem sane_a : RAdjust.fn lawParams 436273152 0 300 = (436240384, 0) := by decide +kernel
theorem sane_b : RAdjust.fn lawParams 436273152 0 10 = (423624704, 0) := by decide +kernel
theorem sane_m : RMedian.fn [5, 1, 3, 9] = 5 := by decide +kernel
theorem LSane.vc : LSane.VC := by
  intro _
  have o256 : Ok4 ((List.replicate 4 (0 : Int)).set 3 256) := by have := set3 256 (by omega); exact ⟨_, by decide, this⟩
  have o128 : Ok4 ((List.replicate 4 (0 : Int)).set 3 128) := by have := set3 128 (by omega); exact ⟨_, by decide, this⟩
  have o64 : Ok4 ((List.replicate 4 (0 : Int)).set 3 64) := by have := set3 64 (by omega); exact ⟨_, by decide, this⟩
  simp only [LParams.fn, sane_c256, sane_c128, sane_c64, sane_a, sane_b, sane_m]
  have u : ∀ x : Int, 0 ≤ x ∧ x ≤ 4294967295 → U32 x := fun x h => h
  refine ⟨o256, trivial, ⟨lawParams_ok, u _ (by omega), u _ (by omega), u _ (by omega)⟩, trivial, ⟨lawParams_ok, u _ (by omega), u _ (by omega), u _ (by omega)⟩, fun h => h, fun h => h, fun h => h, fun _ => o128, fun h => h, fun h => h, fun h => h, fun h => h, fun _ => o64, fun h => h, fun h => h, fun h => h, fun h => h, fun _ => ?_, fun h => h, fun h => h, ?_⟩
  · show List.length _ ≤ 1000; decide
  · rfl
attribute [irreducible] LSane.fn

theorem lsane : LSane.fn = true := by unfold LSane.fn; rfl
def RetargetValid.pre (p : Par) : Prop := Ok4 p.2.1 ∧ U32 p.1.2.2.2.2.1
def RetargetValid.fn (p : Par) : Bool := true
def RetargetValid.VC : Prop := ∀ (x0 : ((Int × ((List Int) × ((List Int) × (Int × (Int × (Int × Unit)))))) × ((List Int) × (Int × (Int × (Int × (Int × ((List (Int × ((List Int) × Unit))) × (Int × (Int × (Int × Unit))))))))))), RetargetValid.pre x0 →
 LSane.pre ∧
 (((!(LSane.fn)) = true →
 (Ret1 false (RetargetValid.fn x0))) ∧
 ((!(LSane.fn)) = false →
 KParams.pre x0 ∧
 ((!(KParams.fn x0)) = false → (!(KParams.fn x0)) = false) ∧
 ((!(KParams.fn x0)) = false → RValid.pre x0) ∧
 ((!(KParams.fn x0)) = false → (!(KParams.fn x0)) = false) ∧
 ((!(KParams.fn x0)) = false → QValid.pre x0) ∧
 ((!(KParams.fn x0)) = false → (!(KParams.fn x0)) = false) ∧
 ((!(KParams.fn x0)) = false → (!(KParams.fn x0)) = false) ∧
 ((!(KParams.fn x0)) = false → (!(KParams.fn x0)) = false) ∧
 (let v14 : Bool := (bif (!(KParams.fn x0)) then true else (Ty.beq (.bool) (RValid.fn x0) (QValid.fn x0)))
 (Ret1 v14 (RetargetValid.fn x0)))))
theorem RetargetValid.vc : RetargetValid.VC := by
  intro p ⟨h1, h2⟩
  simp only [imp_self, true_and, lsane, KParams.fn, RValid.fn, QValid.fn]
  refine ⟨trivial, fun h => (by cases h), fun _ => ⟨trivial, fun h => ?_, fun h => ?_, ?_⟩⟩
  · exact ⟨h1, h2, by simpa using h⟩
  · exact ⟨h1, h2, by simpa using h⟩
  · rw [ret1, beq_self]
    cases hk : decide (p.2.2.2.2.2.2.1.length ≤ 8) <;> rfl
def RetargetMedians.pre (l : List Int) : Prop := True
def RetargetMedians.fn (l : List Int) : Bool := true
def RetargetMedians.VC : Prop := ∀ (x0 : (List Int)), RetargetMedians.pre x0 →
 LSane.pre ∧
 (((!(LSane.fn)) = true →
 (Ret1 false (RetargetMedians.fn x0))) ∧
 ((!(LSane.fn)) = false →
 ((decide ((x0.length : Int) > (200 : Int))) = false → (decide ((x0.length : Int) > (200 : Int))) = false) ∧
 ((decide ((x0.length : Int) > (200 : Int))) = false → RMedian.pre x0) ∧
 ((decide ((x0.length : Int) > (200 : Int))) = false → (decide ((x0.length : Int) > (200 : Int))) = false) ∧
 ((decide ((x0.length : Int) > (200 : Int))) = false → QMedian.pre x0) ∧
 ((decide ((x0.length : Int) > (200 : Int))) = false → (decide ((x0.length : Int) > (200 : Int))) = false) ∧
 ((decide ((x0.length : Int) > (200 : Int))) = false → (decide ((x0.length : Int) > (200 : Int))) = false) ∧
 ((decide ((x0.length : Int) > (200 : Int))) = false → (decide ((x0.length : Int) > (200 : Int))) = false) ∧
 (let v14 : Bool := (bif (decide ((x0.length : Int) > (200 : Int))) then true else ((RMedian.fn x0) == (QMedian.fn x0)))
 (Ret1 v14 (RetargetMedians.fn x0)))))
theorem RetargetMedians.vc : RetargetMedians.VC := by
  intro l _
  simp only [imp_self, true_and, lsane, RMedian.fn, QMedian.fn, BEq.rfl]
  refine ⟨trivial, fun h => (by cases h), fun _ => ⟨fun h => ?_, fun h => ?_, ?_⟩⟩
  · have := of_decide_eq_false h; show l.length ≤ 1000; omega
  · have := of_decide_eq_false h; show l.length ≤ 1000; omega
  · rw [ret1]
    cases decide ((l.length : Int) > 200) <;> rfl
def LawAdj (p : Par) (bits first last : Int) : Prop := (Ok4 p.2.1 ∧ U32 p.1.2.2.2.2.1) ∧ U32 bits ∧ U32 first ∧ U32 last
def RetargetAdjusts.pre (p : Par) (bits first last : Int) : Prop := LawAdj p bits first last
def RetargetAdjusts.fn (p : Par) (bits first last : Int) : Bool := true
def RetargetAdjusts.VC : Prop := ∀ (x0 : ((Int × ((List Int) × ((List Int) × (Int × (Int × (Int × Unit)))))) × ((List Int) × (Int × (Int × (Int × (Int × ((List (Int × ((List Int) × Unit))) × (Int × (Int × (Int × Unit))))))))))) (x1 : Int) (x2 : Int) (x3 : Int), RetargetAdjusts.pre x0 x1 x2 x3 →
 LSane.pre ∧
 (((!(LSane.fn)) = true →
 (Ret1 false (RetargetAdjusts.fn x0 x1 x2 x3))) ∧
 ((!(LSane.fn)) = false →
 KParams.pre x0 ∧
 (((!(KParams.fn x0)) = true →
 (Ret1 true (RetargetAdjusts.fn x0 x1 x2 x3))) ∧
 ((!(KParams.fn x0)) = false →
 RAdjust.pre x0 x1 x2 x3 ∧
 QAdjust.pre x0 x1 x2 x3 ∧
 (((RAdjust.fn x0 x1 x2 x3).1 == (QAdjust.fn x0 x1 x2 x3).1) = true → ((RAdjust.fn x0 x1 x2 x3).1 == (QAdjust.fn x0 x1 x2 x3).1) = true) ∧
 (((RAdjust.fn x0 x1 x2 x3).1 == (QAdjust.fn x0 x1 x2 x3).1) = true → ((RAdjust.fn x0 x1 x2 x3).1 == (QAdjust.fn x0 x1 x2 x3).1) = true) ∧
 (((RAdjust.fn x0 x1 x2 x3).1 == (QAdjust.fn x0 x1 x2 x3).1) = true → ((RAdjust.fn x0 x1 x2 x3).1 == (QAdjust.fn x0 x1 x2 x3).1) = true) ∧
 (let v41 : Bool := (bif ((RAdjust.fn x0 x1 x2 x3).1 == (QAdjust.fn x0 x1 x2 x3).1) then ((RAdjust.fn x0 x1 x2 x3).2 == (QAdjust.fn x0 x1 x2 x3).2) else false)
 (Ret1 v41 (RetargetAdjusts.fn x0 x1 x2 x3)))))))
theorem RetargetAdjusts.vc : RetargetAdjusts.VC := by
  intro p bits a b ⟨⟨h1, h2⟩, h3, h4, h5⟩
  simp only [imp_self, true_and, lsane, KParams.fn, RAdjust.fn, QAdjust.fn, BEq.rfl]
  refine ⟨trivial, fun h => (by cases h), fun _ => ⟨trivial, fun h => rfl, fun h => ?_⟩⟩
  have hk : p.2.2.2.2.2.2.1.length ≤ 8 := by simpa using h
  exact ⟨⟨⟨h1, h2, hk⟩, h3, h4, h5⟩, ⟨⟨h1, h2, hk⟩, h3, h4, h5⟩, rfl⟩
def RetargetNext.pre (p : Par) (c : Cx) : Prop := (Ok4 p.2.1 ∧ U32 p.1.2.2.2.2.1) ∧ CxOk c
def RetargetNext.fn (p : Par) (c : Cx) : Bool := true
def RetargetNext.VC : Prop := ∀ (x0 : ((Int × ((List Int) × ((List Int) × (Int × (Int × (Int × Unit)))))) × ((List Int) × (Int × (Int × (Int × (Int × ((List (Int × ((List Int) × Unit))) × (Int × (Int × (Int × Unit))))))))))) (x1 : (Int × ((List Int) × (Int × (Int × ((List Int) × Unit)))))), RetargetNext.pre x0 x1 →
 LSane.pre ∧
 (((!(LSane.fn)) = true →
 (Ret1 false (RetargetNext.fn x0 x1))) ∧
 ((!(LSane.fn)) = false →
 KParams.pre x0 ∧
 ((!(KParams.fn x0)) = false → (!(KParams.fn x0)) = false) ∧
 ((!(KParams.fn x0)) = false → KContext.pre x1) ∧
 ((!(KParams.fn x0)) = false → (!(KParams.fn x0)) = false) ∧
 ((!(KParams.fn x0)) = false → (!(KParams.fn x0)) = false) ∧
 (((bif (!(KParams.fn x0)) then true else (!(KContext.fn x1))) = true →
 (Ret1 true (RetargetNext.fn x0 x1))) ∧
 ((bif (!(KParams.fn x0)) then true else (!(KContext.fn x1))) = false →
 RNext.pre x0 x1 ∧
 QNext.pre x0 x1 ∧
 (((RNext.fn x0 x1).1 == (QNext.fn x0 x1).1) = true → ((RNext.fn x0 x1).1 == (QNext.fn x0 x1).1) = true) ∧
 (((RNext.fn x0 x1).1 == (QNext.fn x0 x1).1) = true → ((RNext.fn x0 x1).1 == (QNext.fn x0 x1).1) = true) ∧
 (((RNext.fn x0 x1).1 == (QNext.fn x0 x1).1) = true → ((RNext.fn x0 x1).1 == (QNext.fn x0 x1).1) = true) ∧
 (let v38 : Bool := (bif ((RNext.fn x0 x1).1 == (QNext.fn x0 x1).1) then ((RNext.fn x0 x1).2 == (QNext.fn x0 x1).2) else false)
 (Ret1 v38 (RetargetNext.fn x0 x1)))))))
theorem RetargetNext.vc : RetargetNext.VC := by
  intro p c ⟨⟨h1, h2⟩, h3⟩
  simp only [imp_self, true_and, lsane, KParams.fn, KContext.fn, RNext.fn, QNext.fn, BEq.rfl]
  refine ⟨trivial, fun h => (by cases h), fun _ => ⟨trivial, fun _ => trivial, fun h => rfl, fun h => ?_⟩⟩
  have hk : p.2.2.2.2.2.2.1.length ≤ 8 := by
    by_cases hk : p.2.2.2.2.2.2.1.length ≤ 8
    · exact hk
    · rw [decide_eq_false hk] at h; cases h
  exact ⟨⟨⟨h1, h2, hk⟩, h3⟩, ⟨⟨h1, h2, hk⟩, h3⟩, rfl⟩

/-! ## What a compact form loses -/
theorem expand_compact {n : Nat} (hn : n ≠ 0) (hB : n < Big) : ∃ u, expandN (compactN n) = u ∧ u ≤ n ∧ 2 ^ (bl n - 1) ≤ u ∧ compactN n < 4294967296 := by
  have hm := manti_lt hn
  have hb := bl_big hB
  have hp := bl_pos hn
  have he0 : expo n = (bl n + 8) / 8 := rfl
  have hc : compactN n = expo n * 16777216 + manti n := by unfold compactN; rw [if_neg hn]
  have hmod : compactN n % 16777216 = manti n := by rw [hc]; omega
  have hdiv : compactN n / 16777216 = expo n := by rw [hc]; omega
  refine ⟨_, rfl, ?_, ?_, by rw [hc]; omega⟩
  · unfold expandN
    rw [hmod, hdiv, if_neg (by omega)]
    split
    · rename_i h3
      have : manti n = n * 2 ^ (8 * (3 - expo n)) := by unfold manti; rw [if_pos (by omega)]
      rw [this, Nat.mul_div_cancel _ (Nat.two_pow_pos _)]
      exact Nat.le_refl _
    · split
      · exact Nat.zero_le _
      · rename_i h3 h4
        by_cases h5 : expo n = 3
        · have : manti n = n := by unfold manti; rw [if_pos (by omega), h5]; simp
          rw [this, h5]; simp
        · have : manti n = n / 2 ^ (8 * (expo n - 3)) := by unfold manti; rw [if_neg (by omega)]
          rw [this]
          exact Nat.div_mul_le_self _ _
  · unfold expandN
    rw [hmod, hdiv, if_neg (by omega)]
    split
    · rename_i h3
      have : manti n = n * 2 ^ (8 * (3 - expo n)) := by unfold manti; rw [if_pos (by omega)]
      rw [this, Nat.mul_div_cancel _ (Nat.two_pow_pos _)]
      exact bl_le hn
    · rename_i h3
      by_cases h5 : expo n = 3
      · have : manti n = n := by unfold manti; rw [if_pos (by omega), h5]; simp
        rw [this, h5, if_neg (by omega)]; simp; exact bl_le hn
      · have hmn : manti n = n / 2 ^ (8 * (expo n - 3)) := by unfold manti; rw [if_neg (by omega)]
        have hbm : bl (manti n) = bl n - 8 * (expo n - 3) := by rw [hmn, bl_div]
        rw [if_neg (by omega), hmn]
        have hq : 2 ^ (bl n - 1 - 8 * (expo n - 3)) ≤ n / 2 ^ (8 * (expo n - 3)) := by
          rw [Nat.le_div_iff_mul_le (Nat.two_pow_pos _), ← Nat.pow_add, show bl n - 1 - 8 * (expo n - 3) + 8 * (expo n - 3) = bl n - 1 by omega]
          exact bl_le hn
        have := Nat.mul_le_mul_right (2 ^ (8 * (expo n - 3))) hq
        rw [← Nat.pow_add, show bl n - 1 - 8 * (expo n - 3) + 8 * (expo n - 3) = bl n - 1 by omega] at this
        exact this
theorem expand_mono {n m : Nat} (hn : n ≠ 0) (hm : m < Big) (h : n ≤ m) : expandN (compactN n) ≤ expandN (compactN m) := by
  obtain ⟨u, e1, e2, e3, _⟩ := expand_compact hn (by omega)
  obtain ⟨v, f1, f2, f3, _⟩ := expand_compact (n := m) (by omega) hm
  rw [e1, f1]
  by_cases hb : bl n = bl m
  · -- the same exponent: both lose the same bits
    have hexp : expo n = expo m := by unfold expo; rw [hb]
    have hman : manti n ≤ manti m := by
      unfold manti
      rw [hexp]
      split
      · exact Nat.mul_le_mul_right _ h
      · exact Nat.div_le_div_right h
    have g : ∀ {x : Nat}, x ≠ 0 → x < Big → expandN (compactN x) = if expo x < 3 then manti x / 2 ^ (8 * (3 - expo x)) else manti x * 2 ^ (8 * (expo x - 3)) := by
      intro x hx hxB
      have hm1 := manti_lt hx
      have hbx := bl_big hxB
      have hpx := bl_pos hx
      have hc : compactN x = expo x * 16777216 + manti x := by unfold compactN; rw [if_neg hx]
      have hmod : compactN x % 16777216 = manti x := by rw [hc]; omega
      have hdiv : compactN x / 16777216 = expo x := by rw [hc]; omega
      have he0 : expo x = (bl x + 8) / 8 := rfl
      unfold expandN
      rw [hmod, hdiv, if_neg (by omega)]
      split
      · rfl
      · rename_i h3
        rw [if_neg]
        unfold manti
        split
        · rename_i h4
          have h5 : expo x = 3 := by omega
          rw [h5]; simp; omega
        · rw [bl_div]; omega
    rw [← e1, ← f1, g hn (by omega), g (by omega) hm, hexp]
    split
    · exact Nat.div_le_div_right hman
    · exact Nat.mul_le_mul_right _ hman
  · have hle : bl n ≤ bl m := by rw [bl_le_iff]; exact Nat.lt_of_le_of_lt h (bl_lt m)
    have h1 := bl_lt n
    have h2 : 2 ^ bl n ≤ 2 ^ (bl m - 1) := Nat.pow_le_pow_right (by decide) (by omega)
    omega
theorem half_kept {n : Nat} (hn : n ≠ 0) (hB : n < Big) : n / 2 ≤ expandN (compactN n) := by
  obtain ⟨u, e1, e2, e3, _⟩ := expand_compact hn hB
  rw [e1]
  have h1 := bl_lt n
  have hp := bl_pos hn
  rw [show bl n = bl n - 1 + 1 by omega, Nat.pow_succ] at h1
  omega

def finQ (p : Par) (bits first last : Int) : Nat := if adjQ p bits first last = 0 then 1 else adjQ p bits first last
theorem fin_facts {p : Par} {bits first last : Int} (hp : AdjPre p bits first last) (hv : validFn p = true) (he : expandN bits.toNat ≠ 0) :
    adjFn p bits first last = (((compactN (finQ p bits first last) : Nat) : Int), 0) ∧ finQ p bits first last ≠ 0 ∧ finQ p bits first last ≤ N4 p.2.1 ∧ finQ p bits first last ≤ 4 * expandN bits.toNat ∧
    (8 ≤ dueN p → expandN bits.toNat / 8 ≤ N4 p.2.1 → expandN bits.toNat / 8 ≤ finQ p bits first last) := by
  have hvv := (valid_iff p).1 hv
  obtain ⟨d1, d2⟩ := due_le hv
  have hs1 : spanN (dueN p) first last ≤ 4 * dueN p := Nat.min_le_right _ _
  have hs2 : dueN p / 4 ≤ spanN (dueN p) first last := by
    unfold spanN
    exact Nat.le_min.2 ⟨Nat.le_max_right _ _, by omega⟩
  have hq1 : adjQ p bits first last ≤ 4 * expandN bits.toNat := by
    refine Nat.le_trans (Nat.min_le_left _ _) ?_
    apply Nat.div_le_of_le_mul
    refine Nat.le_trans (Nat.mul_le_mul_left _ hs1) ?_
    rw [Nat.mul_left_comm, Nat.mul_left_comm (dueN p), Nat.mul_comm (expandN bits.toNat)]
    exact Nat.le_refl _
  have hq2 : adjQ p bits first last ≤ N4 p.2.1 := Nat.min_le_right _ _
  refine ⟨by rw [adjFn, if_neg (by rw [hv]; simp), if_neg he]; rfl, by unfold finQ; split <;> omega, by unfold finQ; split <;> omega, by unfold finQ; split <;> omega, fun h8 hl => ?_⟩
  have hq3 : expandN bits.toNat / 8 ≤ adjQ p bits first last := by
    refine Nat.le_min.2 ⟨?_, hl⟩
    rw [Nat.le_div_iff_mul_le d1]
    have h3 : dueN p ≤ 8 * spanN (dueN p) first last := by omega
    have h4 := Nat.mul_le_mul_left (expandN bits.toNat / 8) h3
    rw [← Nat.mul_assoc] at h4
    exact Nat.le_trans h4 (Nat.mul_le_mul_right _ (Nat.div_mul_le_self _ _))
  unfold finQ; split <;> omega
theorem adj_err {p : Par} {bits first last : Int} : (adjFn p bits first last).2 = 0 → validFn p = true ∧ expandN bits.toNat ≠ 0 := by
  intro h
  unfold adjFn at h
  split at h
  · simp at h
  · split at h
    · simp at h
    · rename_i h1 h2; exact ⟨by simpa using h1, h2⟩
theorem adj_zero {p : Par} {bits first last : Int} : (adjFn p bits first last).2 ≠ 0 → (adjFn p bits first last).1 = 0 := by
  intro h
  unfold adjFn at *
  split
  · rfl
  · split
    · rfl
    · rename_i h1 h2; rw [if_neg h1, if_neg h2] at h; exact absurd rfl h

def RetargetClamped.pre (p : Par) (bits first last : Int) : Prop := LawAdj p bits first last
def RetargetClamped.fn (p : Par) (bits first last : Int) : Bool := true
def RetargetClamped.VC : Prop := ∀ (x0 : ((Int × ((List Int) × ((List Int) × (Int × (Int × (Int × Unit)))))) × ((List Int) × (Int × (Int × (Int × (Int × ((List (Int × ((List Int) × Unit))) × (Int × (Int × (Int × Unit))))))))))) (x1 : Int) (x2 : Int) (x3 : Int), RetargetClamped.pre x0 x1 x2 x3 →
 LSane.pre ∧
 (((!(LSane.fn)) = true →
 (Ret1 false (RetargetClamped.fn x0 x1 x2 x3))) ∧
 ((!(LSane.fn)) = false →
 KParams.pre x0 ∧
 (((!(KParams.fn x0)) = true →
 (Ret1 true (RetargetClamped.fn x0 x1 x2 x3))) ∧
 ((!(KParams.fn x0)) = false →
 RAdjust.pre x0 x1 x2 x3 ∧
 ((((RAdjust.fn x0 x1 x2 x3).2 != (0 : Int)) = true →
 (Ret1 ((RAdjust.fn x0 x1 x2 x3).1 == (0 : Int)) (RetargetClamped.fn x0 x1 x2 x3))) ∧
 (((RAdjust.fn x0 x1 x2 x3).2 != (0 : Int)) = false →
 QExpand.pre x1 ∧
 QExpand.pre ((RAdjust.fn x0 x1 x2 x3).1) ∧
 (((QExpand.fn ((RAdjust.fn x0 x1 x2 x3).1)).2 != (0 : Int)) = false → ((QExpand.fn ((RAdjust.fn x0 x1 x2 x3).1)).2 != (0 : Int)) = false) ∧
 (((QExpand.fn ((RAdjust.fn x0 x1 x2 x3).1)).2 != (0 : Int)) = false → ((QExpand.fn ((RAdjust.fn x0 x1 x2 x3).1)).2 != (0 : Int)) = false) ∧
 (((QExpand.fn ((RAdjust.fn x0 x1 x2 x3).1)).2 != (0 : Int)) = false → ((QExpand.fn ((RAdjust.fn x0 x1 x2 x3).1)).2 != (0 : Int)) = false) ∧
 (((QExpand.fn ((RAdjust.fn x0 x1 x2 x3).1)).2 != (0 : Int)) = false → QCmp.pre ((QExpand.fn ((RAdjust.fn x0 x1 x2 x3).1)).1) x0.2.1) ∧
 (((QExpand.fn ((RAdjust.fn x0 x1 x2 x3).1)).2 != (0 : Int)) = false → ((QExpand.fn ((RAdjust.fn x0 x1 x2 x3).1)).2 != (0 : Int)) = false) ∧
 (((QExpand.fn ((RAdjust.fn x0 x1 x2 x3).1)).2 != (0 : Int)) = false → ((QExpand.fn ((RAdjust.fn x0 x1 x2 x3).1)).2 != (0 : Int)) = false) ∧
 (let v52 : Bool := (bif ((QExpand.fn ((RAdjust.fn x0 x1 x2 x3).1)).2 != (0 : Int)) then true else (decide ((QCmp.fn ((QExpand.fn ((RAdjust.fn x0 x1 x2 x3).1)).1) x0.2.1) > (0 : Int))))
 ((v52 = true →
 (Ret1 false (RetargetClamped.fn x0 x1 x2 x3))) ∧
 (v52 = false →
 QShr.pre ((QExpand.fn ((RAdjust.fn x0 x1 x2 x3).1)).1) (2 : Int) ∧
 (let v54 : (List Int) := (QShr.fn ((QExpand.fn ((RAdjust.fn x0 x1 x2 x3).1)).1) (2 : Int))
 QCmp.pre v54 ((QExpand.fn x1).1) ∧
 (((decide ((QCmp.fn v54 ((QExpand.fn x1).1)) > (0 : Int))) = true →
 (Ret1 false (RetargetClamped.fn x0 x1 x2 x3))) ∧
 ((decide ((QCmp.fn v54 ((QExpand.fn x1).1)) > (0 : Int))) = false →
 (let v64 : Int := (IntKind.u64.wrap ((IntKind.u64.wrap x0.2.2.1) * (IntKind.u64.wrap x0.2.2.2.1)))
 QShr.pre ((QExpand.fn x1).1) (3 : Int) ∧
 ((decide (v64 < (8 : Int))) = false → (decide (v64 < (8 : Int))) = false) ∧
 ((decide (v64 < (8 : Int))) = false → (decide (v64 < (8 : Int))) = false) ∧
 ((decide (v64 < (8 : Int))) = false → (decide (v64 < (8 : Int))) = false) ∧
 ((decide (v64 < (8 : Int))) = false → QCmp.pre (QShr.fn ((QExpand.fn x1).1) (3 : Int)) x0.2.1) ∧
 ((decide (v64 < (8 : Int))) = false → (decide (v64 < (8 : Int))) = false) ∧
 ((decide (v64 < (8 : Int))) = false → (decide (v64 < (8 : Int))) = false) ∧
 (let v75 : Bool := (bif (decide (v64 < (8 : Int))) then true else (decide ((QCmp.fn (QShr.fn ((QExpand.fn x1).1) (3 : Int)) x0.2.1) > (0 : Int))))
 (v75 = false → v75 = false) ∧
 (v75 = false → QShr.pre (QShr.fn ((QExpand.fn x1).1) (3 : Int)) (1 : Int)) ∧
 (v75 = false → v75 = false) ∧
 (v75 = false → v75 = false) ∧
 (v75 = false → QCmp.pre (QShr.fn (QShr.fn ((QExpand.fn x1).1) (3 : Int)) (1 : Int)) ((QExpand.fn ((RAdjust.fn x0 x1 x2 x3).1)).1)) ∧
 (v75 = false → v75 = false) ∧
 (v75 = false → v75 = false) ∧
 (let v82 : Bool := (bif v75 then true else (decide ((QCmp.fn (QShr.fn (QShr.fn ((QExpand.fn x1).1) (3 : Int)) (1 : Int)) ((QExpand.fn ((RAdjust.fn x0 x1 x2 x3).1)).1)) ≤ (0 : Int))))
 (Ret1 v82 (RetargetClamped.fn x0 x1 x2 x3)))))))))))))))))
theorem shr4 {n k : Nat} (hn : n < Big) : N4 (shrFn (Wn 4 n) (k : Int)) = n / 2 ^ k := by
  rw [shrFn, if_neg (by omega), N4_W4 hn, Int.toNat_natCast, N4_W4 (Nat.lt_of_le_of_lt (Nat.div_le_self _ _) hn)]
theorem RetargetClamped.vc : RetargetClamped.VC := by
  intro p bits a b ⟨⟨h1, h2⟩, h3, h4, h5⟩
  simp only [imp_self, true_and, lsane, KParams.fn, RAdjust.fn, QExpand.fn, QCmp.fn, QShr.fn, expand2n, ret1, RetargetClamped.fn, Bool.cond_true_left]
  refine ⟨trivial, fun h => (by cases h), fun _ => ⟨trivial, fun _ => trivial, fun h => ?_⟩⟩
  have hk : p.2.2.2.2.2.2.1.length ≤ 8 := by simpa using h
  have hp : AdjPre p bits a b := ⟨⟨h1, h2, hk⟩, h3, h4, h5⟩
  refine ⟨hp, fun he => ?_, fun he => ?_⟩
  · have he : (adjFn p bits a b).2 ≠ 0 := by simpa using he
    simpa using adj_zero he
  have he : (adjFn p bits a b).2 = 0 := by simpa using he
  obtain ⟨hv, hz⟩ := adj_err he
  obtain ⟨f1, f2, f3, f4, f5⟩ := fin_facts hp hv hz
  have hqB : finQ p bits a b < Big := Nat.lt_of_le_of_lt f3 h1.lt
  obtain ⟨u, e1, e2, e3, e4⟩ := expand_compact f2 hqB
  have hhalf := half_kept f2 hqB
  rw [e1] at hhalf
  have hu0 : u ≠ 0 := by have := Nat.two_pow_pos (bl (finQ p bits a b) - 1); omega
  have hcu : U32 ((compactN (finQ p bits a b) : Nat) : Int) := ⟨by omega, by omega⟩
  obtain ⟨x1, x2⟩ := expand1 hcu
  obtain ⟨y1, y2⟩ := expand1 h3
  rw [Int.toNat_natCast, e1] at x2
  simp only [f1, Int.toNat_natCast, e1, hu0, decide_false, Bool.false_or]
  have hs2 : N4 (shrFn (expandFn ((compactN (finQ p bits a b) : Nat) : Int)).1 2) = u / 2 ^ 2 := by
    have := shr4 (n := u) (k := 2) (by rw [← x2]; exact x1.lt)
    rw [← x1.W, x2]; exact this
  have hs3 : N4 (shrFn (expandFn bits).1 3) = expandN bits.toNat / 2 ^ 3 := by
    have := shr4 (n := expandN bits.toNat) (k := 3) (by rw [← y2]; exact y1.lt)
    rw [← y1.W, y2]; exact this
  have ho3 : Ok4 (shrFn (expandFn bits).1 3) := ok_shr y1 3
  have hs4 : N4 (shrFn (shrFn (expandFn bits).1 3) 1) = expandN bits.toNat / 2 ^ 3 / 2 ^ 1 := by
    have := shr4 (n := expandN bits.toNat / 2 ^ 3) (k := 1) (by rw [← hs3]; exact ho3.lt)
    rw [← ho3.W, hs3]; exact this
  simp only [x2, y2, hs2, hs3, hs4, cmp_le, gt_iff_lt, cmpGt]
  refine ⟨h3, hcu, fun _ => ⟨x1, h1⟩, fun hc => ?_, fun _ => ⟨x1, ⟨ok_shr x1 2, y1⟩, fun hc => ?_, fun _ => ⟨y1, fun _ => ⟨ho3, h1⟩, fun _ => ho3, fun _ => ⟨ok_shr ho3 1, x1⟩, ?_⟩⟩⟩
  · have := of_decide_eq_true hc
    omega
  · have hc := of_decide_eq_true hc
    rw [show (2 : Nat) ^ 2 = 4 from rfl] at hc
    omega
  · simp only [due_word hv, Bool.or_eq_true, decide_eq_true_eq]
    by_cases g1 : ((dueN p : Nat) : Int) < 8
    · exact .inl (.inl g1)
    · by_cases g2 : N4 p.2.1 < expandN bits.toNat / 2 ^ 3
      · exact .inl (.inr g2)
      · right
        have := f5 (by omega) (by rw [show (8 : Nat) = 2 ^ 3 from rfl]; omega)
        rw [show (2 : Nat) ^ 3 = 8 from rfl, show (2 : Nat) ^ 1 = 2 from rfl]
        omega

def RetargetMonotone.pre (p : Par) (bits first last more : Int) : Prop := LawAdj p bits first last ∧ U32 more
def RetargetMonotone.fn (p : Par) (bits first last more : Int) : Bool := true
def RetargetMonotone.VC : Prop := ∀ (x0 : ((Int × ((List Int) × ((List Int) × (Int × (Int × (Int × Unit)))))) × ((List Int) × (Int × (Int × (Int × (Int × ((List (Int × ((List Int) × Unit))) × (Int × (Int × (Int × Unit))))))))))) (x1 : Int) (x2 : Int) (x3 : Int) (x4 : Int), RetargetMonotone.pre x0 x1 x2 x3 x4 →
 LSane.pre ∧
 (((!(LSane.fn)) = true →
 (Ret1 false (RetargetMonotone.fn x0 x1 x2 x3 x4))) ∧
 ((!(LSane.fn)) = false →
 KParams.pre x0 ∧
 ((!(KParams.fn x0)) = false → (!(KParams.fn x0)) = false) ∧
 ((!(KParams.fn x0)) = false → (!(KParams.fn x0)) = false) ∧
 ((!(KParams.fn x0)) = false → (!(KParams.fn x0)) = false) ∧
 ((!(KParams.fn x0)) = false → (!(KParams.fn x0)) = false) ∧
 ((!(KParams.fn x0)) = false → (!(KParams.fn x0)) = false) ∧
 (let v30 : Bool := (bif (!(KParams.fn x0)) then true else (decide ((IntKind.u32.wrap (x3 + x4)) < x3)))
 ((v30 = true →
 (Ret1 true (RetargetMonotone.fn x0 x1 x2 x3 x4))) ∧
 (v30 = false →
 RAdjust.pre x0 x1 x2 x3 ∧
 RAdjust.pre x0 x1 x2 (IntKind.u32.wrap (x3 + x4)) ∧
 (let v51 : Bool := ((RAdjust.fn x0 x1 x2 x3).2 != (RAdjust.fn x0 x1 x2 (IntKind.u32.wrap (x3 + x4))).2)
 ((v51 = true →
 (Ret1 false (RetargetMonotone.fn x0 x1 x2 x3 x4))) ∧
 (v51 = false →
 ((((RAdjust.fn x0 x1 x2 x3).2 != (0 : Int)) = true →
 (Ret1 true (RetargetMonotone.fn x0 x1 x2 x3 x4))) ∧
 (((RAdjust.fn x0 x1 x2 x3).2 != (0 : Int)) = false →
 QExpand.pre ((RAdjust.fn x0 x1 x2 x3).1) ∧
 QExpand.pre ((RAdjust.fn x0 x1 x2 (IntKind.u32.wrap (x3 + x4))).1) ∧
 (let v62 : (List Int) := (QExpand.fn ((RAdjust.fn x0 x1 x2 (IntKind.u32.wrap (x3 + x4))).1)).1
 (let v63 : Int := (QExpand.fn ((RAdjust.fn x0 x1 x2 (IntKind.u32.wrap (x3 + x4))).1)).2
 QCmp.pre ((QExpand.fn ((RAdjust.fn x0 x1 x2 x3).1)).1) v62 ∧
 (let v67 : Bool := (decide ((QCmp.fn ((QExpand.fn ((RAdjust.fn x0 x1 x2 x3).1)).1) v62) ≤ (0 : Int)))
 (Ret1 v67 (RetargetMonotone.fn x0 x1 x2 x3 x4)))))))))))))))
theorem RetargetMonotone.vc : RetargetMonotone.VC := by
  intro p bits a b m ⟨⟨⟨h1, h2⟩, h3, h4, h5⟩, h6⟩
  simp only [imp_self, true_and, lsane, KParams.fn, RAdjust.fn, QExpand.fn, QCmp.fn, ret1, RetargetMonotone.fn, Bool.cond_true_left]
  refine ⟨trivial, fun h => (by cases h), fun _ => ⟨trivial, fun _ => trivial, fun h => ?_⟩⟩
  simp only [Bool.or_eq_false_iff, Bool.not_eq_false', decide_eq_true_eq, decide_eq_false_iff_not] at h
  obtain ⟨hk, hw⟩ := h
  have hb2 : U32 (IntKind.u32.wrap (b + m)) := u32r _
  generalize IntKind.u32.wrap (b + m) = c at *
  have hp : AdjPre p bits a b := ⟨⟨h1, h2, hk⟩, h3, h4, h5⟩
  have hp2 : AdjPre p bits a c := ⟨⟨h1, h2, hk⟩, h3, h4, hb2⟩
  have herr : (adjFn p bits a b).2 = (adjFn p bits a c).2 := by
    unfold adjFn; split
    · rfl
    · split <;> rfl
  refine ⟨hp, hp2, fun hne => ?_, fun _ => ⟨fun _ => trivial, fun he => ?_⟩⟩
  · rw [herr] at hne; simp at hne
  have he : (adjFn p bits a b).2 = 0 := by simpa using he
  obtain ⟨hv, hz⟩ := adj_err he
  obtain ⟨f1, f2, f3, f4, f5⟩ := fin_facts hp hv hz
  obtain ⟨g1, g2, g3, g4, g5⟩ := fin_facts hp2 hv hz
  have hqB : finQ p bits a b < Big := Nat.lt_of_le_of_lt f3 h1.lt
  have hqB2 : finQ p bits a c < Big := Nat.lt_of_le_of_lt g3 h1.lt
  obtain ⟨_, _, _, _, e4⟩ := expand_compact f2 hqB
  obtain ⟨_, _, _, _, e5⟩ := expand_compact g2 hqB2
  have hcu : U32 ((compactN (finQ p bits a b) : Nat) : Int) := ⟨by omega, by omega⟩
  have hcv : U32 ((compactN (finQ p bits a c) : Nat) : Int) := ⟨by omega, by omega⟩
  obtain ⟨x1, x2⟩ := expand1 hcu
  obtain ⟨y1, y2⟩ := expand1 hcv
  rw [Int.toNat_natCast] at x2 y2
  simp only [f1, g1, x2, y2, cmp_le]
  refine ⟨hcu, hcv, ⟨x1, y1⟩, ?_⟩
  have hspan : spanN (dueN p) a b ≤ spanN (dueN p) a c := by
    unfold spanN
    unfold U32 at h5
    have : b.toNat - a.toNat ≤ c.toNat - a.toNat := by omega
    generalize b.toNat - a.toNat = s1 at *
    generalize c.toNat - a.toNat = s2 at *
    generalize dueN p / 4 = s3
    generalize 4 * dueN p = s4
    omega
  have hq : adjQ p bits a b ≤ adjQ p bits a c := by
    unfold adjQ
    have := Nat.div_le_div_right (c := dueN p) (Nat.mul_le_mul_left (expandN bits.toNat) hspan)
    omega
  have hfin : finQ p bits a b ≤ finQ p bits a c := by unfold finQ; split <;> split <;> omega
  simp [expand_mono f2 hqB2 hfin]

def RetargetMiddle.pre (l : List Int) (cut : Int) : Prop := 0 ≤ cut ∧ cut ≤ 255
def RetargetMiddle.fn (l : List Int) (cut : Int) : Bool := true
def cnt (f : Int → Bool) (l : List Int) : Int := ((l.countP f : Nat) : Int)
def RetargetMiddle.inv10 (l : List Int) (cut lo hi : Int) (fd : Bool) (i : Int) : Prop :=
  0 ≤ i ∧ i ≤ l.length ∧ lo = cnt (fun v => decide (v ≤ medianFn l)) (l.take i.toNat) ∧ hi = cnt (fun v => decide (medianFn l ≤ v)) (l.take i.toNat) ∧ fd = (l.take i.toNat).any (fun v => v == medianFn l)
def RetargetMiddle.mes10 (l : List Int) (cut lo hi : Int) (fd : Bool) (i : Int) : Nat := (l.length - i).toNat
def RetargetMiddle.VC : Prop := ∀ (x0 : (List Int)) (x1 : Int), RetargetMiddle.pre x0 x1 →
 LSane.pre ∧
 (((!(LSane.fn)) = true →
 (Ret1 false (RetargetMiddle.fn x0 x1))) ∧
 ((!(LSane.fn)) = false →
 (((x0.length : Int) == (0 : Int)) = false → ((x0.length : Int) == (0 : Int)) = false) ∧
 (((x0.length : Int) == (0 : Int)) = false → ((x0.length : Int) == (0 : Int)) = false) ∧
 (((x0.length : Int) == (0 : Int)) = false → ((x0.length : Int) == (0 : Int)) = false) ∧
 (let v22 : Bool := (bif ((x0.length : Int) == (0 : Int)) then true else (decide ((x0.length : Int) > (60 : Int))))
 ((v22 = true →
 (Ret1 true (RetargetMiddle.fn x0 x1))) ∧
 (v22 = false →
 RMedian.pre x0 ∧
 (x0.length : Int) ≠ 0 ∧
 (0 ≤ (Int.tmod (IntKind.i64.wrap x1) (x0.length : Int)) ∧ (Int.tmod (IntKind.i64.wrap x1) (x0.length : Int)) ≤ (x0.length : Int) ∧ (x0.length : Int) ≤ (x0.length : Int)) ∧
 (let v32 : (List Int) := ((x0.drop (Int.toNat (Int.tmod (IntKind.i64.wrap x1) (x0.length : Int)))).take ((Int.toNat (x0.length : Int)) - (Int.toNat (Int.tmod (IntKind.i64.wrap x1) (x0.length : Int)))))
 Room v32.length 4 ∧
 (0 ≤ (0 : Int) ∧ (0 : Int) ≤ (Int.tmod (IntKind.i64.wrap x1) (x0.length : Int)) ∧ (Int.tmod (IntKind.i64.wrap x1) (x0.length : Int)) ≤ (x0.length : Int)) ∧
 (let v36 : (List Int) := ((x0.drop (Int.toNat (0 : Int))).take ((Int.toNat (Int.tmod (IntKind.i64.wrap x1) (x0.length : Int))) - (Int.toNat (0 : Int))))
 Room (v32.length + v36.length) 4 ∧
 (RetargetMiddle.inv10 x0 x1 (0 : Int) (0 : Int) false (0 : Int) ∧
 ∀ (v8 : Int) (v9 : Int) (v10 : Bool) (v40 : Int), RetargetMiddle.inv10 x0 x1 v8 v9 v10 v40 →
 (((decide (v40 < (x0.length : Int))) = true →
 (0 ≤ v40 ∧ v40 < (x0.length : Int)) ∧
 (let v46 : Bool := (decide ((x0.getD (Int.toNat v40) (0 : Int)) ≤ (RMedian.fn x0)))
 ((v46 = true →
 (let v51 : Bool := (decide ((x0.getD (Int.toNat v40) (0 : Int)) ≥ (RMedian.fn x0)))
 ((v51 = true →
 (v10 = false → v10 = false) ∧
 (v10 = false → v10 = false) ∧
 (v10 = false → v10 = false) ∧
 (let v59 : Bool := (bif v10 then true else ((x0.getD (Int.toNat v40) (0 : Int)) == (RMedian.fn x0)))
 (RetargetMiddle.inv10 x0 x1 (IntKind.i64.wrap (v8 + (1 : Int))) (IntKind.i64.wrap (v9 + (1 : Int))) v59 (IntKind.i64.wrap (v40 + (1 : Int))) ∧ RetargetMiddle.mes10 x0 x1 (IntKind.i64.wrap (v8 + (1 : Int))) (IntKind.i64.wrap (v9 + (1 : Int))) v59 (IntKind.i64.wrap (v40 + (1 : Int))) < RetargetMiddle.mes10 x0 x1 v8 v9 v10 v40))) ∧
 (v51 = false →
 (v10 = false → v10 = false) ∧
 (v10 = false → v10 = false) ∧
 (v10 = false → v10 = false) ∧
 (let v59_1 : Bool := (bif v10 then true else ((x0.getD (Int.toNat v40) (0 : Int)) == (RMedian.fn x0)))
 (RetargetMiddle.inv10 x0 x1 (IntKind.i64.wrap (v8 + (1 : Int))) v9 v59_1 (IntKind.i64.wrap (v40 + (1 : Int))) ∧ RetargetMiddle.mes10 x0 x1 (IntKind.i64.wrap (v8 + (1 : Int))) v9 v59_1 (IntKind.i64.wrap (v40 + (1 : Int))) < RetargetMiddle.mes10 x0 x1 v8 v9 v10 v40)))))) ∧
 (v46 = false →
 (let v51_1 : Bool := (decide ((x0.getD (Int.toNat v40) (0 : Int)) ≥ (RMedian.fn x0)))
 ((v51_1 = true →
 (v10 = false → v10 = false) ∧
 (v10 = false → v10 = false) ∧
 (v10 = false → v10 = false) ∧
 (let v59_2 : Bool := (bif v10 then true else ((x0.getD (Int.toNat v40) (0 : Int)) == (RMedian.fn x0)))
 (RetargetMiddle.inv10 x0 x1 v8 (IntKind.i64.wrap (v9 + (1 : Int))) v59_2 (IntKind.i64.wrap (v40 + (1 : Int))) ∧ RetargetMiddle.mes10 x0 x1 v8 (IntKind.i64.wrap (v9 + (1 : Int))) v59_2 (IntKind.i64.wrap (v40 + (1 : Int))) < RetargetMiddle.mes10 x0 x1 v8 v9 v10 v40))) ∧
 (v51_1 = false →
 (v10 = false → v10 = false) ∧
 (v10 = false → v10 = false) ∧
 (v10 = false → v10 = false) ∧
 (let v59_3 : Bool := (bif v10 then true else ((x0.getD (Int.toNat v40) (0 : Int)) == (RMedian.fn x0)))
 (RetargetMiddle.inv10 x0 x1 v8 v9 v59_3 (IntKind.i64.wrap (v40 + (1 : Int))) ∧ RetargetMiddle.mes10 x0 x1 v8 v9 v59_3 (IntKind.i64.wrap (v40 + (1 : Int))) < RetargetMiddle.mes10 x0 x1 v8 v9 v10 v40))))))))) ∧
 ((decide (v40 < (x0.length : Int))) = false →
 (v10 = true → v10 = true) ∧
 (v10 = true → v10 = true) ∧
 (v10 = true → v10 = true) ∧
 (v10 = true → v10 = true) ∧
 (v10 = true → v10 = true) ∧
 (let v68 : Bool := (bif v10 then (decide ((IntKind.i64.wrap ((2 : Int) * v8)) > (x0.length : Int))) else false)
 (v68 = true → v68 = true) ∧
 (v68 = true → v68 = true) ∧
 (v68 = true → v68 = true) ∧
 (v68 = true → v68 = true) ∧
 (v68 = true → v68 = true) ∧
 (let v75 : Bool := (bif v68 then (decide ((IntKind.i64.wrap ((2 : Int) * v9)) ≥ (x0.length : Int))) else false)
 (v75 = true → v75 = true) ∧
 (v75 = true → RMedian.pre (v32 ++ v36)) ∧
 (v75 = true → v75 = true) ∧
 (v75 = true → v75 = true) ∧
 (v75 = true → v75 = true) ∧
 (let v81 : Bool := (bif v75 then ((RMedian.fn (v32 ++ v36)) == (RMedian.fn x0)) else false)
 (Ret1 v81 (RetargetMiddle.fn x0 x1)))))))))))))))
theorem cnt_snoc (f : Int → Bool) (l : List Int) (v : Int) : cnt f (l ++ [v]) = cnt f l + if f v then 1 else 0 := by
  unfold cnt
  rw [List.countP_append, List.countP_cons, List.countP_nil]
  split <;> simp
theorem cnt_le (f : Int → Bool) (l : List Int) : 0 ≤ cnt f l ∧ cnt f l ≤ l.length := by
  have := List.countP_le_length (p := f) (l := l)
  unfold cnt; omega
/-- In a sorted list the element in the middle has half of the others on each side. -/
theorem sorted_low : ∀ (s : List Int), s.Pairwise (· ≤ ·) → ∀ k, k < s.length → k + 1 ≤ s.countP (fun v => decide (v ≤ s.getD k 0))
  | [], _, k, h => by simp at h
  | x :: r, hs, 0, _ => by simp
  | x :: r, hs, k + 1, h => by
    obtain ⟨h1, h2⟩ := List.pairwise_cons.1 hs
    have hk : k < r.length := by simpa using h
    have := sorted_low r h2 k hk
    have hx : x ≤ r.getD k 0 := by
      rw [List.getD_eq_getElem?_getD, List.getElem?_eq_getElem hk, Option.getD_some]
      exact h1 _ (List.getElem_mem hk)
    simp only [List.getD_cons_succ, List.countP_cons, hx, decide_true, if_true]
    omega
theorem sorted_high : ∀ (s : List Int), s.Pairwise (· ≤ ·) → ∀ k, k < s.length → s.length - k ≤ s.countP (fun v => decide (s.getD k 0 ≤ v))
  | [], _, k, h => by simp at h
  | x :: r, hs, 0, _ => by
    obtain ⟨h1, h2⟩ := List.pairwise_cons.1 hs
    have : r.countP (fun v => decide (x ≤ v)) = r.length := List.countP_eq_length.2 (fun v hv => by simpa using h1 v hv)
    simp [this]
  | x :: r, hs, k + 1, h => by
    obtain ⟨h1, h2⟩ := List.pairwise_cons.1 hs
    have hk : k < r.length := by simpa using h
    have := sorted_high r h2 k hk
    simp only [List.getD_cons_succ, List.countP_cons, List.length_cons]
    omega
theorem median_perm {l m : List Int} (h : l.Perm m) : medianFn l = medianFn m := by
  have hs : isort l = isort m := isort_unique ((isort_perm l).trans h) (isort_sorted l)
  unfold medianFn
  rw [hs, h.length_eq]
theorem RetargetMiddle.vc : RetargetMiddle.VC := by
  intro l cut ⟨hc1, hc2⟩
  simp only [imp_self, true_and, lsane, RMedian.fn, ret1, RetargetMiddle.fn, Bool.cond_true_left]
  refine ⟨trivial, fun h => (by cases h), fun _ => ⟨fun _ => trivial, fun h => ?_⟩⟩
  simp only [Bool.or_eq_false_iff, beq_eq_false_iff_ne, decide_eq_false_iff_not] at h
  obtain ⟨hn0, hn60⟩ := h
  have hl0 : l.length ≠ 0 := by omega
  rw [i64w (n := cut) (by omega) (by omega)]
  have htm : Int.tmod cut (l.length : Int) = cut % (l.length : Int) := Int.tmod_eq_emod_of_nonneg hc1
  have hr1 := Int.emod_nonneg cut hn0
  have hr2 := Int.emod_lt_of_pos cut (show (0 : Int) < l.length by omega)
  rw [htm]
  generalize cut % (l.length : Int) = k at *
  have ed : (l.drop k.toNat).take (Int.toNat (l.length : Int) - k.toNat) = l.drop k.toNat := by rw [List.take_of_length_le]; rw [List.length_drop]; omega
  have et : (l.drop (Int.toNat 0)).take (k.toNat - Int.toNat 0) = l.take k.toNat := rfl
  simp only [ed, et]
  refine ⟨by show l.length ≤ 1000; omega, by omega, ⟨by omega, by omega, by omega⟩, room_of (by rw [List.length_drop]; omega) (by omega), ⟨by omega, by omega, by omega⟩, room_of (by rw [List.length_drop, List.length_take]; omega) (by omega), ⟨by omega, by omega, by simp [cnt], by simp [cnt], by simp⟩, ?_⟩
  rintro lo hi fd i ⟨k1, k2, rfl, rfl, rfl⟩
  have b1 := cnt_le (fun v => decide (v ≤ medianFn l)) (l.take i.toNat)
  have b2 := cnt_le (fun v => decide (medianFn l ≤ v)) (l.take i.toNat)
  have bl1 : (l.take i.toNat).length ≤ 60 := by rw [List.length_take]; omega
  refine ⟨fun hi' => ?_, fun hi' => ?_⟩
  · have hi' : i < l.length := of_decide_eq_true hi'
    have hts := take_snoc k1 hi'
    have w1 : IntKind.i64.wrap (cnt (fun v => decide (v ≤ medianFn l)) (l.take i.toNat) + 1) = cnt (fun v => decide (v ≤ medianFn l)) (l.take i.toNat) + 1 := i64w (by omega) (by omega)
    have w2 : IntKind.i64.wrap (cnt (fun v => decide (medianFn l ≤ v)) (l.take i.toNat) + 1) = cnt (fun v => decide (medianFn l ≤ v)) (l.take i.toNat) + 1 := i64w (by omega) (by omega)
    have w3 : IntKind.i64.wrap (i + 1) = i + 1 := i64w (by omega) (by omega)
    have hany : (l.take (i + 1).toNat).any (fun v => v == medianFn l) = ((l.take i.toNat).any (fun v => v == medianFn l) || (l.getD i.toNat 0 == medianFn l)) := by rw [hts, List.any_append]; simp
    have hm : ∀ lo hi fd lo2 hi2 fd2, RetargetMiddle.mes10 l cut lo hi fd (i + 1) < RetargetMiddle.mes10 l cut lo2 hi2 fd2 i := fun _ _ _ _ _ _ => by simp only [RetargetMiddle.mes10]; omega
    simp only [w1, w2, w3, RetargetMiddle.inv10, hany]
    refine ⟨⟨k1, hi'⟩, fun c1 => ⟨fun c2 => ⟨⟨by omega, by omega, ?_, ?_, trivial⟩, hm _ _ _ _ _ _⟩, fun c2 => ⟨⟨by omega, by omega, ?_, ?_, trivial⟩, hm _ _ _ _ _ _⟩⟩, fun c1 => ⟨fun c2 => ⟨⟨by omega, by omega, ?_, ?_, trivial⟩, hm _ _ _ _ _ _⟩, fun c2 => ⟨⟨by omega, by omega, ?_, ?_, trivial⟩, hm _ _ _ _ _ _⟩⟩⟩
    · rw [hts, cnt_snoc, if_pos (decide_eq_true (of_decide_eq_true c1))]
    · rw [hts, cnt_snoc, if_pos (decide_eq_true (of_decide_eq_true c2))]
    · rw [hts, cnt_snoc, if_pos (decide_eq_true (of_decide_eq_true c1))]
    · rw [hts, cnt_snoc, if_neg (fun h => of_decide_eq_false c2 (of_decide_eq_true h)), Int.add_zero]
    · rw [hts, cnt_snoc, if_neg (fun h => of_decide_eq_false c1 (of_decide_eq_true h)), Int.add_zero]
    · rw [hts, cnt_snoc, if_pos (decide_eq_true (of_decide_eq_true c2))]
    · rw [hts, cnt_snoc, if_neg (fun h => of_decide_eq_false c1 (of_decide_eq_true h)), Int.add_zero]
    · rw [hts, cnt_snoc, if_neg (fun h => of_decide_eq_false c2 (of_decide_eq_true h)), Int.add_zero]
  · have hi' : ¬ i < l.length := of_decide_eq_false hi'
    have hall : l.take i.toNat = l := List.take_of_length_le (by omega)
    rw [hall] at b1 b2 ⊢
    have hk2 : l.length / 2 < (isort l).length := by rw [isort_len]; omega
    have hmed : medianFn l = (isort l).getD (l.length / 2) 0 := by rw [medianFn, if_neg hl0]
    have hlow := sorted_low (isort l) (isort_sorted l) _ hk2
    have hhigh := sorted_high (isort l) (isort_sorted l) _ hk2
    rw [← hmed] at hlow hhigh
    rw [(isort_perm l).countP_eq] at hlow hhigh
    rw [isort_len] at hhigh
    have hlow2 : l.length < 2 * cnt (fun v => decide (v ≤ medianFn l)) l := by unfold cnt; omega
    have hhigh2 : l.length ≤ 2 * cnt (fun v => decide (medianFn l ≤ v)) l := by unfold cnt; omega
    have hfound : l.any (fun v => v == medianFn l) = true := by
      rw [List.any_eq_true]
      refine ⟨medianFn l, (isort_perm l).subset ?_, by simp⟩
      rw [hmed, List.getD_eq_getElem?_getD, List.getElem?_eq_getElem hk2, Option.getD_some]
      exact List.getElem_mem hk2
    rw [i64w (n := 2 * cnt (fun v => decide (v ≤ medianFn l)) l) (by omega) (by omega), i64w (n := 2 * cnt (fun v => decide (medianFn l ≤ v)) l) (by omega) (by omega)]
    have hperm : medianFn (l.drop k.toNat ++ l.take k.toNat) = medianFn l := median_perm (by
      refine List.perm_append_comm.trans ?_
      rw [List.take_append_drop])
    refine ⟨fun _ => by show List.length _ ≤ 1000; rw [List.length_append, List.length_drop, List.length_take]; omega, ?_⟩
    rw [hfound, hperm]
    have g1 : decide (2 * cnt (fun v => decide (v ≤ medianFn l)) l > (l.length : Int)) = true := decide_eq_true (by omega)
    have g2 : decide (2 * cnt (fun v => decide (medianFn l ≤ v)) l ≥ (l.length : Int)) = true := decide_eq_true (by omega)
    rw [g1, g2]
    simp
end Lc
