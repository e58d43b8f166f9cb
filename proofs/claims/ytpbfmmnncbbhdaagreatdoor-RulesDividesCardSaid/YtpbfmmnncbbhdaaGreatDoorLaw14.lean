/- The laws of chapter 14: their conditions hold. -/
import Derived.Test.YtpbfmmnncbbhdaaGreatDoorRuns
set_option linter.unusedVariables false
set_option maxRecDepth 100000
namespace Lc
open Go

def RulesAdvance.pre (p : Par) (c : Cx) (h : Hdr) : Prop := PRng p ∧ CRng c ∧ HdrOk h
def RulesAdvance.fn (p : Par) (c : Cx) (h : Hdr) : Bool := true
def RulesAdvance.VC : Prop := ∀ (x0 : ((Int × ((List Int) × ((List Int) × (Int × (Int × (Int × Unit)))))) × ((List Int) × (Int × (Int × (Int × (Int × ((List (Int × ((List Int) × Unit))) × (Int × (Int × (Int × Unit))))))))))) (x1 : (Int × ((List Int) × (Int × (Int × ((List Int) × Unit)))))) (x2 : (Int × ((List Int) × ((List Int) × (Int × (Int × (Int × Unit))))))), RulesAdvance.pre x0 x1 x2 →
 ZSane.pre ∧
 (((!(ZSane.fn)) = true →
 (Ret1 false (RulesAdvance.fn x0 x1 x2))) ∧
 ((!(ZSane.fn)) = false →
 KParams.pre x0 ∧
 ((!(KParams.fn x0)) = false → (!(KParams.fn x0)) = false) ∧
 ((!(KParams.fn x0)) = false → KContext.pre x1) ∧
 ((!(KParams.fn x0)) = false → (!(KParams.fn x0)) = false) ∧
 ((!(KParams.fn x0)) = false → (!(KParams.fn x0)) = false) ∧
 (((bif (!(KParams.fn x0)) then true else (!(KContext.fn x1))) = true →
 (Ret1 true (RulesAdvance.fn x0 x1 x2))) ∧
 ((bif (!(KParams.fn x0)) then true else (!(KContext.fn x1))) = false →
 UStart.pre x0 ∧
 (let v7h : (Int × ((List Int) × (Int × (Int × ((List Int) × Unit))))) := ((0 : Int), ((List.replicate 32 (0 : Int)), ((0 : Int), ((0 : Int), ([], ())))))
 VStart.pre x0 ∧
 (let v9h : (Int × ((List Int) × (Int × (Int × ((List Int) × Unit))))) := ((0 : Int), ((List.replicate 32 (0 : Int)), ((0 : Int), ((0 : Int), ([], ())))))
 UAdvance.pre x0 x1 x2 ∧
 (let v11h : (Int × ((List Int) × (Int × (Int × ((List Int) × Unit))))) := ((0 : Int), ((List.replicate 32 (0 : Int)), ((0 : Int), ((0 : Int), ([], ())))))
 VAdvance.pre x0 x1 x2 ∧
 (let v13h : (Int × ((List Int) × (Int × (Int × ((List Int) × Unit))))) := ((0 : Int), ((List.replicate 32 (0 : Int)), ((0 : Int), ((0 : Int), ([], ())))))
 (((UStart.fn x0).2 == (VStart.fn x0).2) = true → ((UStart.fn x0).2 == (VStart.fn x0).2) = true) ∧
 (((UStart.fn x0).2 == (VStart.fn x0).2) = true → ((UStart.fn x0).2 == (VStart.fn x0).2) = true) ∧
 (((UStart.fn x0).2 == (VStart.fn x0).2) = true → VSameContext.pre ((UStart.fn x0).1) ((VStart.fn x0).1)) ∧
 (((UStart.fn x0).2 == (VStart.fn x0).2) = true → ((UStart.fn x0).2 == (VStart.fn x0).2) = true) ∧
 (let v56 : Bool := (bif ((UStart.fn x0).2 == (VStart.fn x0).2) then (VSameContext.fn ((UStart.fn x0).1) ((VStart.fn x0).1)) else false)
 (v56 = true → v56 = true) ∧
 (v56 = true → v56 = true) ∧
 (v56 = true → v56 = true) ∧
 (let v61 : Bool := (bif v56 then ((UAdvance.fn x0 x1 x2).2 == (VAdvance.fn x0 x1 x2).2) else false)
 (v61 = true → v61 = true) ∧
 (v61 = true → v61 = true) ∧
 (v61 = true → VSameContext.pre ((UAdvance.fn x0 x1 x2).1) ((VAdvance.fn x0 x1 x2).1)) ∧
 (v61 = true → v61 = true) ∧
 (let v66 : Bool := (bif v61 then (VSameContext.fn ((UAdvance.fn x0 x1 x2).1) ((VAdvance.fn x0 x1 x2).1)) else false)
 (Ret1 v66 (RulesAdvance.fn x0 x1 x2)))))))))))))
theorem keep_ok {p : Par} {c : Cx} (h : (bif !decide (p.2.2.2.2.2.2.1.length ≤ 8) then true else !decide (c.2.2.2.2.1.length ≤ 16)) = false) : p.2.2.2.2.2.2.1.length ≤ 8 ∧ c.2.2.2.2.1.length ≤ 16 := by
  by_cases h1 : p.2.2.2.2.2.2.1.length ≤ 8
  · by_cases h2 : c.2.2.2.2.1.length ≤ 16
    · exact ⟨h1, h2⟩
    · rw [decide_eq_true h1, decide_eq_false h2] at h; cases h
  · rw [decide_eq_false h1] at h; cases h
theorem RulesAdvance.vc : RulesAdvance.VC := by
  intro p c h ⟨h1, h2, h3⟩
  simp only [imp_self, true_and, zsane, KParams.fn, KContext.fn, UStart.fn, VStart.fn, UAdvance.fn, VAdvance.fn, VSameContext.fn, same_self, BEq.rfl, cond_true]
  refine ⟨trivial, fun h => (by cases h), fun _ => ⟨trivial, fun _ => trivial, fun _ => rfl, fun hk => ?_⟩⟩
  obtain ⟨k1, k2⟩ := keep_ok hk
  have hp := h1.good k1
  have hc := h2.good k2
  have ha : AdvPre p c h := ⟨hp, hc, h3⟩
  exact ⟨hp, hp, ha, ha, fun _ => (start_good hp).2.2, fun _ => (adv_good ha).2.2, rfl⟩
def RulesChecks.pre (p : Par) (c : Cx) (h : Hdr) (now : Int) : Prop := PRng p ∧ CRng c ∧ HdrOk h ∧ U32 now
def RulesChecks.fn (p : Par) (c : Cx) (h : Hdr) (now : Int) : Bool := true
def RulesChecks.VC : Prop := ∀ (x0 : ((Int × ((List Int) × ((List Int) × (Int × (Int × (Int × Unit)))))) × ((List Int) × (Int × (Int × (Int × (Int × ((List (Int × ((List Int) × Unit))) × (Int × (Int × (Int × Unit))))))))))) (x1 : (Int × ((List Int) × (Int × (Int × ((List Int) × Unit)))))) (x2 : (Int × ((List Int) × ((List Int) × (Int × (Int × (Int × Unit))))))) (x3 : Int), RulesChecks.pre x0 x1 x2 x3 →
 ZSane.pre ∧
 (((!(ZSane.fn)) = true →
 (Ret1 false (RulesChecks.fn x0 x1 x2 x3))) ∧
 ((!(ZSane.fn)) = false →
 KParams.pre x0 ∧
 ((!(KParams.fn x0)) = false → (!(KParams.fn x0)) = false) ∧
 ((!(KParams.fn x0)) = false → KContext.pre x1) ∧
 ((!(KParams.fn x0)) = false → (!(KParams.fn x0)) = false) ∧
 ((!(KParams.fn x0)) = false → (!(KParams.fn x0)) = false) ∧
 ((bif (!(KParams.fn x0)) then true else (!(KContext.fn x1))) = false → (bif (!(KParams.fn x0)) then true else (!(KContext.fn x1))) = false) ∧
 ((bif (!(KParams.fn x0)) then true else (!(KContext.fn x1))) = false → (bif (!(KParams.fn x0)) then true else (!(KContext.fn x1))) = false) ∧
 ((bif (!(KParams.fn x0)) then true else (!(KContext.fn x1))) = false → (bif (!(KParams.fn x0)) then true else (!(KContext.fn x1))) = false) ∧
 ((bif (!(KParams.fn x0)) then true else (!(KContext.fn x1))) = false → (bif (!(KParams.fn x0)) then true else (!(KContext.fn x1))) = false) ∧
 ((bif (!(KParams.fn x0)) then true else (!(KContext.fn x1))) = false → UCheck.pre x0 x1 x2 x3) ∧
 ((bif (!(KParams.fn x0)) then true else (!(KContext.fn x1))) = false → (bif (!(KParams.fn x0)) then true else (!(KContext.fn x1))) = false) ∧
 ((bif (!(KParams.fn x0)) then true else (!(KContext.fn x1))) = false → (bif (!(KParams.fn x0)) then true else (!(KContext.fn x1))) = false) ∧
 ((bif (!(KParams.fn x0)) then true else (!(KContext.fn x1))) = false → (bif (!(KParams.fn x0)) then true else (!(KContext.fn x1))) = false) ∧
 ((bif (!(KParams.fn x0)) then true else (!(KContext.fn x1))) = false → (bif (!(KParams.fn x0)) then true else (!(KContext.fn x1))) = false) ∧
 ((bif (!(KParams.fn x0)) then true else (!(KContext.fn x1))) = false → VCheck.pre x0 x1 x2 x3) ∧
 ((bif (!(KParams.fn x0)) then true else (!(KContext.fn x1))) = false → (bif (!(KParams.fn x0)) then true else (!(KContext.fn x1))) = false) ∧
 ((bif (!(KParams.fn x0)) then true else (!(KContext.fn x1))) = false → (bif (!(KParams.fn x0)) then true else (!(KContext.fn x1))) = false) ∧
 ((bif (!(KParams.fn x0)) then true else (!(KContext.fn x1))) = false → (bif (!(KParams.fn x0)) then true else (!(KContext.fn x1))) = false) ∧
 (let v31 : Bool := (bif (bif (!(KParams.fn x0)) then true else (!(KContext.fn x1))) then true else ((UCheck.fn x0 x1 x2 x3) == (VCheck.fn x0 x1 x2 x3)))
 (Ret1 v31 (RulesChecks.fn x0 x1 x2 x3)))))
theorem RulesChecks.vc : RulesChecks.VC := by
  intro p c h now ⟨h1, h2, h3, h4⟩
  simp only [imp_self, true_and, zsane, KParams.fn, KContext.fn, UCheck.fn, VCheck.fn, BEq.rfl]
  have hpre : (bif !decide (p.2.2.2.2.2.2.1.length ≤ 8) then true else !decide (c.2.2.2.2.1.length ≤ 16)) = false → ChkPre p c h now := fun hk => by
    obtain ⟨k1, k2⟩ := keep_ok hk
    exact ⟨⟨h1.good k1, h2.good k2, h3⟩, h4⟩
  refine ⟨trivial, fun h => (by cases h), fun _ => ⟨trivial, fun _ => trivial, hpre, hpre, ret1.2 ?_⟩⟩
  cases (bif !decide (p.2.2.2.2.2.2.1.length ≤ 8) then true else !decide (c.2.2.2.2.1.length ≤ 16)) <;> rfl

def RulesRuns.pre (v : Int) (seeds : List Int) (at' b now : Int) : Prop := (0 ≤ v ∧ v ≤ 255) ∧ Bytes seeds ∧ (0 ≤ at' ∧ at' ≤ 255) ∧ U32 now
def RulesRuns.fn (v : Int) (seeds : List Int) (at' b now : Int) : Bool := true
def RulesRuns.inv9 (v : Int) (seeds : List Int) (at' b now : Int) (p : Par) (c : Cx) (i : Int) : Prop := p = madeParams v ∧ c = (startFn (madeParams v)).1 ∧ 0 ≤ i ∧ i ≤ 2
def RulesRuns.mes9 (v : Int) (seeds : List Int) (at' b now : Int) (p : Par) (c : Cx) (i : Int) : Nat := (2 - i).toNat
def RulesRuns.VC : Prop := ∀ (x0 : Int) (x1 : (List Int)) (x2 : Int) (x3 : Int) (x4 : Int), RulesRuns.pre x0 x1 x2 x3 x4 →
 ZSane.pre ∧
 (((!(ZSane.fn)) = true →
 (Ret1 false (RulesRuns.fn x0 x1 x2 x3 x4))) ∧
 ((!(ZSane.fn)) = false →
 MParams.pre x0 ∧
 (let v11h : ((Int × ((List Int) × ((List Int) × (Int × (Int × (Int × Unit)))))) × ((List Int) × (Int × (Int × (Int × (Int × ((List (Int × ((List Int) × Unit))) × (Int × (Int × (Int × Unit)))))))))) := (((0 : Int), ((List.replicate 32 (0 : Int)), ((List.replicate 32 (0 : Int)), ((0 : Int), ((0 : Int), ((0 : Int), ())))))), ((List.replicate 4 (0 : Int)), ((0 : Int), ((0 : Int), ((0 : Int), ((0 : Int), ([], ((0 : Int), ((0 : Int), ((0 : Int), ()))))))))))
 VStart.pre (MParams.fn x0) ∧
 (let v12h : (Int × ((List Int) × (Int × (Int × ((List Int) × Unit))))) := ((0 : Int), ((List.replicate 32 (0 : Int)), ((0 : Int), ((0 : Int), ([], ())))))
 KSome.pre x1 (16 : Int) ∧
 MHeaders.pre (MParams.fn x0) ((VStart.fn (MParams.fn x0)).1) (KSome.fn x1 (16 : Int)) ∧
 (let v36h : (List (Int × ((List Int) × ((List Int) × (Int × (Int × (Int × Unit))))))) := (MHeaders.fn (MParams.fn x0) ((VStart.fn (MParams.fn x0)).1) (KSome.fn x1 (16 : Int)))
 (((decide ((v36h.length : Int) > (0 : Int))) = true →
 (v36h.length : Int) ≠ 0 ∧
 (0 ≤ (Int.tmod (IntKind.i64.wrap x2) (v36h.length : Int)) ∧ (Int.tmod (IntKind.i64.wrap x2) (v36h.length : Int)) < (v36h.length : Int)) ∧
 (let v48 : Int := (v36h.getD (Int.toNat (Int.tmod (IntKind.i64.wrap x2) (v36h.length : Int))) ((0 : Int), ((List.replicate 32 (0 : Int)), ((List.replicate 32 (0 : Int)), ((0 : Int), ((0 : Int), ((0 : Int), ()))))))).2.2.2.1
 (0 ≤ (Int.tmod (IntKind.i64.wrap x2) (v36h.length : Int)) ∧ (Int.tmod (IntKind.i64.wrap x2) (v36h.length : Int)) < (v36h.length : Int)) ∧
 (let v36_1h : (List (Int × ((List Int) × ((List Int) × (Int × (Int × (Int × Unit))))))) := (v36h.set (Int.toNat (Int.tmod (IntKind.i64.wrap x2) (v36h.length : Int))) ((v36h.getD (Int.toNat (Int.tmod (IntKind.i64.wrap x2) (v36h.length : Int))) ((0 : Int), ((List.replicate 32 (0 : Int)), ((List.replicate 32 (0 : Int)), ((0 : Int), ((0 : Int), ((0 : Int), ()))))))).1, ((v36h.getD (Int.toNat (Int.tmod (IntKind.i64.wrap x2) (v36h.length : Int))) ((0 : Int), ((List.replicate 32 (0 : Int)), ((List.replicate 32 (0 : Int)), ((0 : Int), ((0 : Int), ((0 : Int), ()))))))).2.1, ((v36h.getD (Int.toNat (Int.tmod (IntKind.i64.wrap x2) (v36h.length : Int))) ((0 : Int), ((List.replicate 32 (0 : Int)), ((List.replicate 32 (0 : Int)), ((0 : Int), ((0 : Int), ((0 : Int), ()))))))).2.2.1, ((IntKind.u32.wrap (v48 + (IntKind.u32.wrap x3))), (v36h.getD (Int.toNat (Int.tmod (IntKind.i64.wrap x2) (v36h.length : Int))) ((0 : Int), ((List.replicate 32 (0 : Int)), ((List.replicate 32 (0 : Int)), ((0 : Int), ((0 : Int), ((0 : Int), ()))))))).2.2.2.2)))))
 (RulesRuns.inv9 x0 x1 x2 x3 x4 (MParams.fn x0) ((VStart.fn (MParams.fn x0)).1) (0 : Int) ∧
 ∀ (v11_1 : ((Int × ((List Int) × ((List Int) × (Int × (Int × (Int × Unit)))))) × ((List Int) × (Int × (Int × (Int × (Int × ((List (Int × ((List Int) × Unit))) × (Int × (Int × (Int × Unit))))))))))) (v12_1 : (Int × ((List Int) × (Int × (Int × ((List Int) × Unit)))))) (v57 : Int), RulesRuns.inv9 x0 x1 x2 x3 x4 v11_1 v12_1 v57 →
 (((decide (v57 < ([x4, (1073741824 : Int)].length : Int))) = true →
 (0 ≤ v57 ∧ v57 < ([x4, (1073741824 : Int)].length : Int)) ∧
 URun.pre v11_1 v12_1 v36_1h ([x4, (1073741824 : Int)].getD (Int.toNat v57) (0 : Int)) ∧
 (let v67 : (Int × ((List Int) × (Int × (Int × ((List Int) × Unit))))) := (URun.fn v11_1 v12_1 v36_1h ([x4, (1073741824 : Int)].getD (Int.toNat v57) (0 : Int))).1
 (let v68 : Int := (URun.fn v11_1 v12_1 v36_1h ([x4, (1073741824 : Int)].getD (Int.toNat v57) (0 : Int))).2.1
 (let v69 : Int := (URun.fn v11_1 v12_1 v36_1h ([x4, (1073741824 : Int)].getD (Int.toNat v57) (0 : Int))).2.2
 (let v17h : (Int × ((List Int) × (Int × (Int × ((List Int) × Unit))))) := ((0 : Int), ((List.replicate 32 (0 : Int)), ((0 : Int), ((0 : Int), ([], ())))))
 VRun.pre v11_1 v12_1 v36_1h ([x4, (1073741824 : Int)].getD (Int.toNat v57) (0 : Int)) ∧
 (let v76 : (Int × ((List Int) × (Int × (Int × ((List Int) × Unit))))) := (VRun.fn v11_1 v12_1 v36_1h ([x4, (1073741824 : Int)].getD (Int.toNat v57) (0 : Int))).1
 (let v77 : Int := (VRun.fn v11_1 v12_1 v36_1h ([x4, (1073741824 : Int)].getD (Int.toNat v57) (0 : Int))).2.1
 (let v78 : Int := (VRun.fn v11_1 v12_1 v36_1h ([x4, (1073741824 : Int)].getD (Int.toNat v57) (0 : Int))).2.2
 (let v20h : (Int × ((List Int) × (Int × (Int × ((List Int) × Unit))))) := ((0 : Int), ((List.replicate 32 (0 : Int)), ((0 : Int), ((0 : Int), ([], ())))))
 ((v68 != v77) = false → (v68 != v77) = false) ∧
 ((v68 != v77) = false → (v68 != v77) = false) ∧
 ((v68 != v77) = false → (v68 != v77) = false) ∧
 ((bif (v68 != v77) then true else (v69 != v78)) = false → (bif (v68 != v77) then true else (v69 != v78)) = false) ∧
 ((bif (v68 != v77) then true else (v69 != v78)) = false → (bif (v68 != v77) then true else (v69 != v78)) = false) ∧
 ((bif (v68 != v77) then true else (v69 != v78)) = false → VSameContext.pre v67 v76) ∧
 ((bif (v68 != v77) then true else (v69 != v78)) = false → (bif (v68 != v77) then true else (v69 != v78)) = false) ∧
 ((bif (v68 != v77) then true else (v69 != v78)) = false → (bif (v68 != v77) then true else (v69 != v78)) = false) ∧
 (let v92 : Bool := (bif (bif (v68 != v77) then true else (v69 != v78)) then true else (!(VSameContext.fn v67 v76)))
 ((v92 = true →
 (Ret1 false (RulesRuns.fn x0 x1 x2 x3 x4))) ∧
 (v92 = false →
 (RulesRuns.inv9 x0 x1 x2 x3 x4 v11_1 v12_1 (IntKind.i64.wrap (v57 + (1 : Int))) ∧ RulesRuns.mes9 x0 x1 x2 x3 x4 v11_1 v12_1 (IntKind.i64.wrap (v57 + (1 : Int))) < RulesRuns.mes9 x0 x1 x2 x3 x4 v11_1 v12_1 v57))))))))))))) ∧
 ((decide (v57 < ([x4, (1073741824 : Int)].length : Int))) = false →
 (Ret1 true (RulesRuns.fn x0 x1 x2 x3 x4)))))))) ∧
 ((decide ((v36h.length : Int) > (0 : Int))) = false →
 (RulesRuns.inv9 x0 x1 x2 x3 x4 (MParams.fn x0) ((VStart.fn (MParams.fn x0)).1) (0 : Int) ∧
 ∀ (v11_2 : ((Int × ((List Int) × ((List Int) × (Int × (Int × (Int × Unit)))))) × ((List Int) × (Int × (Int × (Int × (Int × ((List (Int × ((List Int) × Unit))) × (Int × (Int × (Int × Unit))))))))))) (v12_2 : (Int × ((List Int) × (Int × (Int × ((List Int) × Unit)))))) (v57_1 : Int), RulesRuns.inv9 x0 x1 x2 x3 x4 v11_2 v12_2 v57_1 →
 (((decide (v57_1 < ([x4, (1073741824 : Int)].length : Int))) = true →
 (0 ≤ v57_1 ∧ v57_1 < ([x4, (1073741824 : Int)].length : Int)) ∧
 URun.pre v11_2 v12_2 v36h ([x4, (1073741824 : Int)].getD (Int.toNat v57_1) (0 : Int)) ∧
 (let v67_1 : (Int × ((List Int) × (Int × (Int × ((List Int) × Unit))))) := (URun.fn v11_2 v12_2 v36h ([x4, (1073741824 : Int)].getD (Int.toNat v57_1) (0 : Int))).1
 (let v68_1 : Int := (URun.fn v11_2 v12_2 v36h ([x4, (1073741824 : Int)].getD (Int.toNat v57_1) (0 : Int))).2.1
 (let v69_1 : Int := (URun.fn v11_2 v12_2 v36h ([x4, (1073741824 : Int)].getD (Int.toNat v57_1) (0 : Int))).2.2
 (let v17_1h : (Int × ((List Int) × (Int × (Int × ((List Int) × Unit))))) := ((0 : Int), ((List.replicate 32 (0 : Int)), ((0 : Int), ((0 : Int), ([], ())))))
 VRun.pre v11_2 v12_2 v36h ([x4, (1073741824 : Int)].getD (Int.toNat v57_1) (0 : Int)) ∧
 (let v76_1 : (Int × ((List Int) × (Int × (Int × ((List Int) × Unit))))) := (VRun.fn v11_2 v12_2 v36h ([x4, (1073741824 : Int)].getD (Int.toNat v57_1) (0 : Int))).1
 (let v77_1 : Int := (VRun.fn v11_2 v12_2 v36h ([x4, (1073741824 : Int)].getD (Int.toNat v57_1) (0 : Int))).2.1
 (let v78_1 : Int := (VRun.fn v11_2 v12_2 v36h ([x4, (1073741824 : Int)].getD (Int.toNat v57_1) (0 : Int))).2.2
 (let v20_1h : (Int × ((List Int) × (Int × (Int × ((List Int) × Unit))))) := ((0 : Int), ((List.replicate 32 (0 : Int)), ((0 : Int), ((0 : Int), ([], ())))))
 ((v68_1 != v77_1) = false → (v68_1 != v77_1) = false) ∧
 ((v68_1 != v77_1) = false → (v68_1 != v77_1) = false) ∧
 ((v68_1 != v77_1) = false → (v68_1 != v77_1) = false) ∧
 ((bif (v68_1 != v77_1) then true else (v69_1 != v78_1)) = false → (bif (v68_1 != v77_1) then true else (v69_1 != v78_1)) = false) ∧
 ((bif (v68_1 != v77_1) then true else (v69_1 != v78_1)) = false → (bif (v68_1 != v77_1) then true else (v69_1 != v78_1)) = false) ∧
 ((bif (v68_1 != v77_1) then true else (v69_1 != v78_1)) = false → VSameContext.pre v67_1 v76_1) ∧
 ((bif (v68_1 != v77_1) then true else (v69_1 != v78_1)) = false → (bif (v68_1 != v77_1) then true else (v69_1 != v78_1)) = false) ∧
 ((bif (v68_1 != v77_1) then true else (v69_1 != v78_1)) = false → (bif (v68_1 != v77_1) then true else (v69_1 != v78_1)) = false) ∧
 (let v92_1 : Bool := (bif (bif (v68_1 != v77_1) then true else (v69_1 != v78_1)) then true else (!(VSameContext.fn v67_1 v76_1)))
 ((v92_1 = true →
 (Ret1 false (RulesRuns.fn x0 x1 x2 x3 x4))) ∧
 (v92_1 = false →
 (RulesRuns.inv9 x0 x1 x2 x3 x4 v11_2 v12_2 (IntKind.i64.wrap (v57_1 + (1 : Int))) ∧ RulesRuns.mes9 x0 x1 x2 x3 x4 v11_2 v12_2 (IntKind.i64.wrap (v57_1 + (1 : Int))) < RulesRuns.mes9 x0 x1 x2 x3 x4 v11_2 v12_2 v57_1))))))))))))) ∧
 ((decide (v57_1 < ([x4, (1073741824 : Int)].length : Int))) = false →
 (Ret1 true (RulesRuns.fn x0 x1 x2 x3 x4))))))))))))
theorem two_times {now : Int} (h : U32 now) {i : Int} (h0 : 0 ≤ i) (h2 : i < 2) : U32 ([now, (1073741824 : Int)].getD i.toNat 0) := by
  have : i = 0 ∨ i = 1 := by omega
  rcases this with rfl | rfl
  · exact h
  · show U32 1073741824
    exact ⟨by decide, by decide⟩
theorem set_hdr {l : List Hdr} (hl : ∀ h, h ∈ l → HdrOk h) {k : Nat} {x : Hdr} (hx : HdrOk x) : ∀ h, h ∈ l.set k x → HdrOk h := by
  intro h hh
  rcases List.mem_or_eq_of_mem_set hh with hh | rfl
  · exact hl h hh
  · exact hx
theorem RulesRuns.vc : RulesRuns.VC := by
  intro v seeds at' b now ⟨h1, h2, h3, h4⟩
  generalize hl0 : MHeaders.fn (MParams.fn v) ((VStart.fn (MParams.fn v)).1) (KSome.fn seeds 16) = l
  have hl0 : headersGo (madeParams v) (startFn (madeParams v)).1 (seeds.take (Int.toNat 16)) = l := hl0
  have hp := made_ok h1
  have hs := start_good hp
  have hsb : Bytes (seeds.take (Int.toNat 16)) := h2.take _
  have hsl : (seeds.take (Int.toNat 16)).length ≤ 1000 := by rw [List.length_take]; have : Int.toNat 16 = 16 := rfl; omega
  obtain ⟨g1, g2⟩ := headers_ok hp (seeds.take (Int.toNat 16)) _ hs hsb
  rw [hl0] at g1 g2
  simp only [imp_self, true_and, zsane, MParams.fn, VStart.fn, KSome.fn, URun.fn, VRun.fn, VSameContext.fn, same_self, bne_self_eq_false, ret1, RulesRuns.fn, cond_false, Bool.not_true]
  have fin : ∀ l' : List Hdr, (∀ h, h ∈ l' → HdrOk h) → l'.length ≤ 1000 → ∀ (p : Par) (c : Cx) (i : Int), RulesRuns.inv9 v seeds at' b now p c i → (decide (i < (([now, (1073741824 : Int)].length : Nat) : Int)) = true →
      (0 ≤ i ∧ i < (([now, (1073741824 : Int)].length : Nat) : Int)) ∧ RunPre p c l' ([now, (1073741824 : Int)].getD i.toNat 0) ∧ (runFn p c l' ([now, (1073741824 : Int)].getD i.toNat 0)).1.2.2.2.2.1.length ≤ 1000 ∧ RulesRuns.inv9 v seeds at' b now p c (IntKind.i64.wrap (i + 1)) ∧ RulesRuns.mes9 v seeds at' b now p c (IntKind.i64.wrap (i + 1)) < RulesRuns.mes9 v seeds at' b now p c i) := by
    rintro l' hl hn p c i ⟨rfl, rfl, k1, k2⟩ hc
    have hc : i < 2 := of_decide_eq_true hc
    rw [i64w (by omega) (by omega)]
    have hr : RunPre (madeParams v) (startFn (madeParams v)).1 l' ([now, (1073741824 : Int)].getD i.toNat 0) := ⟨hp, hs, hl, hn, two_times h4 k1 hc⟩
    refine ⟨⟨k1, hc⟩, hr, ?_, ⟨rfl, rfl, by omega, by omega⟩, by simp only [RulesRuns.mes9]; omega⟩
    unfold runFn
    split
    · exact zc_good.2.2
    · exact (run_good _ _ hp _ _ _ hs hl).2.2
  have inv0 : RulesRuns.inv9 v seeds at' b now (madeParams v) (startFn (madeParams v)).1 0 := ⟨rfl, rfl, by omega, by omega⟩
  refine ⟨trivial, fun _ => ⟨h1, hp, by show (0 : Int) ≤ 16; omega, ⟨hp, hs, hsb, hsl⟩, fun hl => ?_, fun hl => ?_⟩⟩
  · have hl : (l.length : Int) > 0 := of_decide_eq_true hl
    rw [i64w (n := at') (by omega) (by omega)]
    have htm : Int.tmod at' (l.length : Int) = at' % (l.length : Int) := Int.tmod_eq_emod_of_nonneg h3.1
    have hr1 := Int.emod_nonneg at' (show (l.length : Int) ≠ 0 by omega)
    have hr2 := Int.emod_lt_of_pos at' hl
    rw [htm]
    generalize at' % (l.length : Int) = k at *
    have hx := get_hdr g1 hr1 hr2
    generalize hq : l.getD k.toNat _ = x at *
    have hset : HdrOk (x.1, x.2.1, x.2.2.1, IntKind.u32.wrap (x.2.2.2.1 + IntKind.u32.wrap b), x.2.2.2.2) := ⟨hx.1, hx.2.1, hx.2.2.1, u32r _, hx.2.2.2.2⟩
    refine ⟨by omega, ⟨hr1, hr2⟩, ⟨hr1, hr2⟩, inv0, fun p c i hi => ⟨fun hc => ?_, fun _ => trivial⟩⟩
    obtain ⟨z1, z2, z3, z4, z5⟩ := fin (l.set k.toNat _) (set_hdr g1 hset) (by rw [List.length_set]; omega) p c i hi hc
    exact ⟨z1, z2, z2, fun _ => z3, fun _ => ⟨z4, z5⟩⟩
  · refine ⟨inv0, fun p c i hi => ⟨fun hc => ?_, fun _ => trivial⟩⟩
    obtain ⟨z1, z2, z3, z4, z5⟩ := fin l g1 (by omega) p c i hi hc
    exact ⟨z1, z2, z2, fun _ => z3, fun _ => ⟨z4, z5⟩⟩

def RulesDivides.pre (v : Int) (seeds : List Int) (cut now : Int) : Prop := (0 ≤ v ∧ v ≤ 255) ∧ Bytes seeds ∧ (0 ≤ cut ∧ cut ≤ 255) ∧ U32 now
def RulesDivides.fn (v : Int) (seeds : List Int) (cut now : Int) : Bool := true
def RulesDivides.VC : Prop := ∀ (x0 : Int) (x1 : (List Int)) (x2 : Int) (x3 : Int), RulesDivides.pre x0 x1 x2 x3 →
 ZSane.pre ∧
 (((!(ZSane.fn)) = true →
 (Ret1 false (RulesDivides.fn x0 x1 x2 x3))) ∧
 ((!(ZSane.fn)) = false →
 MParams.pre x0 ∧
 (let v9h : ((Int × ((List Int) × ((List Int) × (Int × (Int × (Int × Unit)))))) × ((List Int) × (Int × (Int × (Int × (Int × ((List (Int × ((List Int) × Unit))) × (Int × (Int × (Int × Unit)))))))))) := (((0 : Int), ((List.replicate 32 (0 : Int)), ((List.replicate 32 (0 : Int)), ((0 : Int), ((0 : Int), ((0 : Int), ())))))), ((List.replicate 4 (0 : Int)), ((0 : Int), ((0 : Int), ((0 : Int), ((0 : Int), ([], ((0 : Int), ((0 : Int), ((0 : Int), ()))))))))))
 UStart.pre (MParams.fn x0) ∧
 (let v10h : (Int × ((List Int) × (Int × (Int × ((List Int) × Unit))))) := ((0 : Int), ((List.replicate 32 (0 : Int)), ((0 : Int), ((0 : Int), ([], ())))))
 KSome.pre x1 (16 : Int) ∧
 MHeaders.pre (MParams.fn x0) ((UStart.fn (MParams.fn x0)).1) (KSome.fn x1 (16 : Int)) ∧
 (let v36h : (List (Int × ((List Int) × ((List Int) × (Int × (Int × (Int × Unit))))))) := (MHeaders.fn (MParams.fn x0) ((UStart.fn (MParams.fn x0)).1) (KSome.fn x1 (16 : Int)))
 (IntKind.i64.wrap ((v36h.length : Int) + (1 : Int))) ≠ 0 ∧
 (let v42 : Int := (Int.tmod (IntKind.i64.wrap x2) (IntKind.i64.wrap ((v36h.length : Int) + (1 : Int))))
 URun.pre (MParams.fn x0) ((UStart.fn (MParams.fn x0)).1) v36h x3 ∧
 (let v49 : (Int × ((List Int) × (Int × (Int × ((List Int) × Unit))))) := (URun.fn (MParams.fn x0) ((UStart.fn (MParams.fn x0)).1) v36h x3).1
 (let v50 : Int := (URun.fn (MParams.fn x0) ((UStart.fn (MParams.fn x0)).1) v36h x3).2.1
 (let v51 : Int := (URun.fn (MParams.fn x0) ((UStart.fn (MParams.fn x0)).1) v36h x3).2.2
 (let v14h : (Int × ((List Int) × (Int × (Int × ((List Int) × Unit))))) := ((0 : Int), ((List.replicate 32 (0 : Int)), ((0 : Int), ((0 : Int), ([], ())))))
 (0 ≤ (0 : Int) ∧ (0 : Int) ≤ v42 ∧ v42 ≤ (v36h.length : Int)) ∧
 (Int.toNat (0 : Int)) + ((Int.toNat v42) - (Int.toNat (0 : Int))) ≤ v36h.length ∧
 URun.pre (MParams.fn x0) ((UStart.fn (MParams.fn x0)).1) ((v36h.drop (Int.toNat (0 : Int))).take ((Int.toNat v42) - (Int.toNat (0 : Int)))) x3 ∧
 (let v60 : (Int × ((List Int) × (Int × (Int × ((List Int) × Unit))))) := (URun.fn (MParams.fn x0) ((UStart.fn (MParams.fn x0)).1) ((v36h.drop (Int.toNat (0 : Int))).take ((Int.toNat v42) - (Int.toNat (0 : Int)))) x3).1
 (let v61 : Int := (URun.fn (MParams.fn x0) ((UStart.fn (MParams.fn x0)).1) ((v36h.drop (Int.toNat (0 : Int))).take ((Int.toNat v42) - (Int.toNat (0 : Int)))) x3).2.1
 (let v62 : Int := (URun.fn (MParams.fn x0) ((UStart.fn (MParams.fn x0)).1) ((v36h.drop (Int.toNat (0 : Int))).take ((Int.toNat v42) - (Int.toNat (0 : Int)))) x3).2.2
 (let v17h : (Int × ((List Int) × (Int × (Int × ((List Int) × Unit))))) := ((0 : Int), ((List.replicate 32 (0 : Int)), ((0 : Int), ((0 : Int), ([], ())))))
 (((v62 != (0 : Int)) = true →
 ((v51 == v62) = true → (v51 == v62) = true) ∧
 ((v51 == v62) = true → (v51 == v62) = true) ∧
 ((v51 == v62) = true → (v51 == v62) = true) ∧
 ((bif (v51 == v62) then (v50 == v61) else false) = true → (bif (v51 == v62) then (v50 == v61) else false) = true) ∧
 ((bif (v51 == v62) then (v50 == v61) else false) = true → (bif (v51 == v62) then (v50 == v61) else false) = true) ∧
 ((bif (v51 == v62) then (v50 == v61) else false) = true → VSameContext.pre v49 v60) ∧
 ((bif (v51 == v62) then (v50 == v61) else false) = true → (bif (v51 == v62) then (v50 == v61) else false) = true) ∧
 (let v77 : Bool := (bif (bif (v51 == v62) then (v50 == v61) else false) then (VSameContext.fn v49 v60) else false)
 (Ret1 v77 (RulesDivides.fn x0 x1 x2 x3)))) ∧
 ((v62 != (0 : Int)) = false →
 (0 ≤ v42 ∧ v42 ≤ (v36h.length : Int) ∧ (v36h.length : Int) ≤ (v36h.length : Int)) ∧
 (Int.toNat v42) + ((Int.toNat (v36h.length : Int)) - (Int.toNat v42)) ≤ v36h.length ∧
 URun.pre (MParams.fn x0) v60 ((v36h.drop (Int.toNat v42)).take ((Int.toNat (v36h.length : Int)) - (Int.toNat v42))) x3 ∧
 (let v86 : (Int × ((List Int) × (Int × (Int × ((List Int) × Unit))))) := (URun.fn (MParams.fn x0) v60 ((v36h.drop (Int.toNat v42)).take ((Int.toNat (v36h.length : Int)) - (Int.toNat v42))) x3).1
 (let v87 : Int := (URun.fn (MParams.fn x0) v60 ((v36h.drop (Int.toNat v42)).take ((Int.toNat (v36h.length : Int)) - (Int.toNat v42))) x3).2.1
 (let v88 : Int := (URun.fn (MParams.fn x0) v60 ((v36h.drop (Int.toNat v42)).take ((Int.toNat (v36h.length : Int)) - (Int.toNat v42))) x3).2.2
 (let v20h : (Int × ((List Int) × (Int × (Int × ((List Int) × Unit))))) := ((0 : Int), ((List.replicate 32 (0 : Int)), ((0 : Int), ((0 : Int), ([], ())))))
 ((v51 == v88) = true → (v51 == v88) = true) ∧
 ((v51 == v88) = true → (v51 == v88) = true) ∧
 ((v51 == v88) = true → (v51 == v88) = true) ∧
 ((v51 == v88) = true → (v51 == v88) = true) ∧
 ((v51 == v88) = true → (v51 == v88) = true) ∧
 (let v98 : Bool := (bif (v51 == v88) then (v50 == (IntKind.i64.wrap (v61 + v87))) else false)
 (v98 = true → v98 = true) ∧
 (v98 = true → v98 = true) ∧
 (v98 = true → VSameContext.pre v49 v86) ∧
 (v98 = true → v98 = true) ∧
 (Ret1 (bif v98 then (VSameContext.fn v49 v86) else false) (RulesDivides.fn x0 x1 x2 x3)))))))))))))))))))))))
theorem RulesDivides.vc : RulesDivides.VC := by
  intro v seeds cut now ⟨h1, h2, h3, h4⟩
  generalize hl0 : MHeaders.fn (MParams.fn v) ((UStart.fn (MParams.fn v)).1) (KSome.fn seeds 16) = l
  have hl0 : headersGo (madeParams v) (startFn (madeParams v)).1 (seeds.take (Int.toNat 16)) = l := hl0
  have hp := made_ok h1
  have hs := start_good hp
  have hfit := start_fits (made_valid h1)
  have hsb : Bytes (seeds.take (Int.toNat 16)) := h2.take _
  have hsl : (seeds.take (Int.toNat 16)).length ≤ 16 := by rw [List.length_take]; have : Int.toNat 16 = 16 := rfl; omega
  obtain ⟨g1, g2⟩ := headers_ok hp (seeds.take (Int.toNat 16)) _ hs hsb
  rw [hl0] at g1 g2
  simp only [imp_self, true_and, zsane, MParams.fn, UStart.fn, KSome.fn, URun.fn, VSameContext.fn, ret1, RulesDivides.fn]
  clear hl0
  generalize madeParams v = p at *
  generalize (startFn p).1 = c at *
  have hrun : ∀ l', runFn p c l' now = runGo p now c l' 0 := fun l' => by rw [runFn, if_neg (by rw [hfit]; simp)]
  rw [i64w (n := cut) (by omega) (by omega), i64w (n := (l.length : Int) + 1) (by omega) (by omega)]
  have htm : Int.tmod cut ((l.length : Int) + 1) = cut % ((l.length : Int) + 1) := Int.tmod_eq_emod_of_nonneg h3.1
  have hr1 := Int.emod_nonneg cut (show ((l.length : Int) + 1) ≠ 0 by omega)
  have hr2 := Int.emod_lt_of_pos cut (show 0 < (l.length : Int) + 1 by omega)
  rw [htm]
  generalize cut % ((l.length : Int) + 1) = k at *
  have e1 : (l.drop (Int.toNat 0)).take (k.toNat - Int.toNat 0) = l.take k.toNat := rfl
  have e2 : (l.drop k.toNat).take (Int.toNat (l.length : Int) - k.toNat) = l.drop k.toNat := by rw [List.take_of_length_le]; rw [List.length_drop]; omega
  simp only [e1, e2, hrun]
  have hsplit : runGo p now c l 0 = if (runGo p now c (l.take k.toNat) 0).2.2 ≠ 0 then runGo p now c (l.take k.toNat) 0 else runGo p now (runGo p now c (l.take k.toNat) 0).1 (l.drop k.toNat) (runGo p now c (l.take k.toNat) 0).2.1 := by
    conv => lhs; rw [← List.take_append_drop k.toNat l]
    exact run_append p now _ _ c 0
  have ht1 : ∀ h, h ∈ l.take k.toNat → HdrOk h := fun h hh => g1 h (List.mem_of_mem_take hh)
  have ht2 : ∀ h, h ∈ l.drop k.toNat → HdrOk h := fun h hh => g1 h (List.mem_of_mem_drop hh)
  have hlt : (l.take k.toNat).length ≤ 1000 := by rw [List.length_take]; omega
  have hld : (l.drop k.toNat).length ≤ 1000 := by rw [List.length_drop]; omega
  have hgood := run_good p now hp (l.take k.toNat) c 0 hs ht1
  have hfit2 := run_fits p now (l.take k.toNat) c 0 hfit
  have hcnt := run_count p now (l.take k.toNat) c 0
  have hgl := run_good p now hp l c 0 hs g1
  have htl : ((l.take k.toNat).length : Int) ≤ 16 := by rw [List.length_take]; omega
  have r1 : RunPre p c l now := ⟨hp, hs, g1, by omega, h4⟩
  have r2 : RunPre p c (l.take k.toNat) now := ⟨hp, hs, ht1, hlt, h4⟩
  refine ⟨trivial, fun h => (by cases h), fun _ => ⟨h1, hp, by show (0 : Int) ≤ 16; omega, ⟨hp, hs, hsb, by omega⟩, by omega, r1, ⟨by omega, by omega, by omega⟩, by show 0 + (k.toNat - 0) ≤ l.length; omega, r2, fun hf => ?_, fun hf => ?_⟩⟩
  · have hf : (runGo p now c (l.take k.toNat) 0).2.2 ≠ 0 := by simpa using hf
    rw [if_pos hf] at hsplit
    simp only [hsplit, BEq.rfl, cond_true, same_self]
    exact ⟨fun _ => hgood.2.2, trivial⟩
  · have hf : (runGo p now c (l.take k.toNat) 0).2.2 = 0 := by simpa using hf
    rw [if_neg (by omega)] at hsplit
    generalize hB : runGo p now c (l.take k.toNat) 0 = B at *
    have hrun2 : runFn p B.1 (l.drop k.toNat) now = runGo p now B.1 (l.drop k.toNat) 0 := by rw [runFn, if_neg (by rw [hfit2]; simp)]
    rw [runs_shift p now (l.drop k.toNat) B.1 B.2.1] at hsplit
    have hcnt2 := run_count p now (l.drop k.toNat) B.1 0
    have hdl : ((l.drop k.toNat).length : Int) ≤ 16 := by rw [List.length_drop]; omega
    have r3 : RunPre p B.1 (l.drop k.toNat) now := ⟨hp, hgood, ht2, hld, h4⟩
    simp only [hrun2]
    generalize hD : runGo p now B.1 (l.drop k.toNat) 0 = D at *
    have hw : IntKind.i64.wrap (B.2.1 + D.2.1) = D.2.1 + B.2.1 := by rw [i64w (by omega) (by omega)]; omega
    simp only [hsplit, hw, BEq.rfl, cond_true, same_self]
    rw [hsplit] at hgl
    exact ⟨⟨by omega, by omega, by omega⟩, by rw [Int.toNat_natCast]; omega, r3, fun _ => hgl.2.2, trivial⟩

def RulesMined.pre (v : Int) (seeds : List Int) (s what b now : Int) : Prop := (0 ≤ v ∧ v ≤ 255) ∧ Bytes seeds ∧ (0 ≤ s ∧ s ≤ 255) ∧ (0 ≤ what ∧ what ≤ 255) ∧ U32 b ∧ U32 now
def RulesMined.fn (v : Int) (seeds : List Int) (s what b now : Int) : Bool := true
def RulesMined.inv6 (v : Int) (seeds : List Int) (s what b now : Int) (p : Par) (c : Cx) (i : Int) : Prop := p = madeParams v ∧ CGood c ∧ 0 ≤ i ∧ i ≤ (headersGo (madeParams v) (startFn (madeParams v)).1 (seeds.take (Int.toNat 14))).length
noncomputable def RulesMined.mes6 (v : Int) (seeds : List Int) (s what b now : Int) (p : Par) (c : Cx) (i : Int) : Nat := ((headersGo (madeParams v) (startFn (madeParams v)).1 (seeds.take (Int.toNat 14))).length - i).toNat
def RulesMined.VC : Prop := ∀ (x0 : Int) (x1 : (List Int)) (x2 : Int) (x3 : Int) (x4 : Int) (x5 : Int), RulesMined.pre x0 x1 x2 x3 x4 x5 →
 ZSane.pre ∧
 (((!(ZSane.fn)) = true →
 (Ret1 false (RulesMined.fn x0 x1 x2 x3 x4 x5))) ∧
 ((!(ZSane.fn)) = false →
 MParams.pre x0 ∧
 (let v13h : ((Int × ((List Int) × ((List Int) × (Int × (Int × (Int × Unit)))))) × ((List Int) × (Int × (Int × (Int × (Int × ((List (Int × ((List Int) × Unit))) × (Int × (Int × (Int × Unit)))))))))) := (((0 : Int), ((List.replicate 32 (0 : Int)), ((List.replicate 32 (0 : Int)), ((0 : Int), ((0 : Int), ((0 : Int), ())))))), ((List.replicate 4 (0 : Int)), ((0 : Int), ((0 : Int), ((0 : Int), ((0 : Int), ([], ((0 : Int), ((0 : Int), ((0 : Int), ()))))))))))
 VStart.pre (MParams.fn x0) ∧
 (let v14h : (Int × ((List Int) × (Int × (Int × ((List Int) × Unit))))) := ((0 : Int), ((List.replicate 32 (0 : Int)), ((0 : Int), ((0 : Int), ([], ())))))
 KSome.pre x1 (14 : Int) ∧
 MHeaders.pre (MParams.fn x0) ((VStart.fn (MParams.fn x0)).1) (KSome.fn x1 (14 : Int)) ∧
 (let v32h : (List (Int × ((List Int) × ((List Int) × (Int × (Int × (Int × Unit))))))) := (MHeaders.fn (MParams.fn x0) ((VStart.fn (MParams.fn x0)).1) (KSome.fn x1 (14 : Int)))
 (RulesMined.inv6 x0 x1 x2 x3 x4 x5 (MParams.fn x0) ((VStart.fn (MParams.fn x0)).1) (0 : Int) ∧
 ∀ (v13_1 : ((Int × ((List Int) × ((List Int) × (Int × (Int × (Int × Unit)))))) × ((List Int) × (Int × (Int × (Int × (Int × ((List (Int × ((List Int) × Unit))) × (Int × (Int × (Int × Unit))))))))))) (v14_1 : (Int × ((List Int) × (Int × (Int × ((List Int) × Unit)))))) (v34 : Int), RulesMined.inv6 x0 x1 x2 x3 x4 x5 v13_1 v14_1 v34 →
 (((decide (v34 < (v32h.length : Int))) = true →
 (0 ≤ v34 ∧ v34 < (v32h.length : Int)) ∧
 (let v37 : (Int × ((List Int) × ((List Int) × (Int × (Int × (Int × Unit)))))) := (v32h.getD (Int.toNat v34) ((0 : Int), ((List.replicate 32 (0 : Int)), ((List.replicate 32 (0 : Int)), ((0 : Int), ((0 : Int), ((0 : Int), ())))))))
 (let v17h : (Int × ((List Int) × ((List Int) × (Int × (Int × (Int × Unit)))))) := ((0 : Int), ((List.replicate 32 (0 : Int)), ((List.replicate 32 (0 : Int)), ((0 : Int), ((0 : Int), ((0 : Int), ()))))))
 VAdvance.pre v13_1 v14_1 v37 ∧
 (RulesMined.inv6 x0 x1 x2 x3 x4 x5 v13_1 ((VAdvance.fn v13_1 v14_1 v37).1) (IntKind.i64.wrap (v34 + (1 : Int))) ∧ RulesMined.mes6 x0 x1 x2 x3 x4 x5 v13_1 ((VAdvance.fn v13_1 v14_1 v37).1) (IntKind.i64.wrap (v34 + (1 : Int))) < RulesMined.mes6 x0 x1 x2 x3 x4 x5 v13_1 v14_1 v34)))) ∧
 ((decide (v34 < (v32h.length : Int))) = false →
 MMine.pre v13_1 v14_1 ((List.replicate 32 (0 : Int)).set 0 x2) (IntKind.u32.wrap x2) ∧
 (let v52 : (Int × ((List Int) × ((List Int) × (Int × (Int × (Int × Unit)))))) := (MMine.fn v13_1 v14_1 ((List.replicate 32 (0 : Int)).set 0 x2) (IntKind.u32.wrap x2))
 (let v18h : (Int × ((List Int) × ((List Int) × (Int × (Int × (Int × Unit)))))) := ((0 : Int), ((List.replicate 32 (0 : Int)), ((List.replicate 32 (0 : Int)), ((0 : Int), ((0 : Int), ((0 : Int), ()))))))
 (8 : Int) ≠ 0 ∧
 ((((Int.tmod x3 (8 : Int)) == (0 : Int)) = true →
 (let v18_1h : (Int × ((List Int) × ((List Int) × (Int × (Int × (Int × Unit)))))) := (v52.1, (v52.2.1, (v52.2.2.1, ((IntKind.u32.wrap (v52.2.2.2.1 + x4)), v52.2.2.2.2))))
 UCheck.pre v13_1 v14_1 v18_1h x5 ∧
 VCheck.pre v13_1 v14_1 v18_1h x5 ∧
 (let v121 : Bool := ((UCheck.fn v13_1 v14_1 v18_1h x5) == (VCheck.fn v13_1 v14_1 v18_1h x5))
 (v121 = true → v121 = true) ∧
 (v121 = true → v121 = true) ∧
 (v121 = true → v121 = true) ∧
 (v121 = true → UCheck.pre v13_1 v14_1 v18_1h (1073741824 : Int)) ∧
 (v121 = true → v121 = true) ∧
 (v121 = true → v121 = true) ∧
 (v121 = true → v121 = true) ∧
 (v121 = true → VCheck.pre v13_1 v14_1 v18_1h (1073741824 : Int)) ∧
 (v121 = true → v121 = true) ∧
 (v121 = true → v121 = true) ∧
 (v121 = true → v121 = true) ∧
 (let v132 : Bool := (bif v121 then ((UCheck.fn v13_1 v14_1 v18_1h (1073741824 : Int)) == (VCheck.fn v13_1 v14_1 v18_1h (1073741824 : Int))) else false)
 (Ret1 v132 (RulesMined.fn x0 x1 x2 x3 x4 x5)))))) ∧
 (((Int.tmod x3 (8 : Int)) == (0 : Int)) = false →
 ((((Int.tmod x3 (8 : Int)) == (1 : Int)) = true →
 (let v18_2h : (Int × ((List Int) × ((List Int) × (Int × (Int × (Int × Unit)))))) := (v52.1, (v52.2.1, (v52.2.2.1, (v52.2.2.2.1, ((IntKind.u32.wrap (v52.2.2.2.2.1 + x4)), v52.2.2.2.2.2)))))
 UCheck.pre v13_1 v14_1 v18_2h x5 ∧
 VCheck.pre v13_1 v14_1 v18_2h x5 ∧
 (let v121_1 : Bool := ((UCheck.fn v13_1 v14_1 v18_2h x5) == (VCheck.fn v13_1 v14_1 v18_2h x5))
 (v121_1 = true → v121_1 = true) ∧
 (v121_1 = true → v121_1 = true) ∧
 (v121_1 = true → v121_1 = true) ∧
 (v121_1 = true → UCheck.pre v13_1 v14_1 v18_2h (1073741824 : Int)) ∧
 (v121_1 = true → v121_1 = true) ∧
 (v121_1 = true → v121_1 = true) ∧
 (v121_1 = true → v121_1 = true) ∧
 (v121_1 = true → VCheck.pre v13_1 v14_1 v18_2h (1073741824 : Int)) ∧
 (v121_1 = true → v121_1 = true) ∧
 (v121_1 = true → v121_1 = true) ∧
 (v121_1 = true → v121_1 = true) ∧
 (let v132_1 : Bool := (bif v121_1 then ((UCheck.fn v13_1 v14_1 v18_2h (1073741824 : Int)) == (VCheck.fn v13_1 v14_1 v18_2h (1073741824 : Int))) else false)
 (Ret1 v132_1 (RulesMined.fn x0 x1 x2 x3 x4 x5)))))) ∧
 (((Int.tmod x3 (8 : Int)) == (1 : Int)) = false →
 ((((Int.tmod x3 (8 : Int)) == (2 : Int)) = true →
 (let v18_3h : (Int × ((List Int) × ((List Int) × (Int × (Int × (Int × Unit)))))) := (v52.1, (v52.2.1, (v52.2.2.1, (v52.2.2.2.1, (v52.2.2.2.2.1, ((IntKind.u32.wrap (v52.2.2.2.2.2.1 + x4)), v52.2.2.2.2.2.2))))))
 UCheck.pre v13_1 v14_1 v18_3h x5 ∧
 VCheck.pre v13_1 v14_1 v18_3h x5 ∧
 (let v121_2 : Bool := ((UCheck.fn v13_1 v14_1 v18_3h x5) == (VCheck.fn v13_1 v14_1 v18_3h x5))
 (v121_2 = true → v121_2 = true) ∧
 (v121_2 = true → v121_2 = true) ∧
 (v121_2 = true → v121_2 = true) ∧
 (v121_2 = true → UCheck.pre v13_1 v14_1 v18_3h (1073741824 : Int)) ∧
 (v121_2 = true → v121_2 = true) ∧
 (v121_2 = true → v121_2 = true) ∧
 (v121_2 = true → v121_2 = true) ∧
 (v121_2 = true → VCheck.pre v13_1 v14_1 v18_3h (1073741824 : Int)) ∧
 (v121_2 = true → v121_2 = true) ∧
 (v121_2 = true → v121_2 = true) ∧
 (v121_2 = true → v121_2 = true) ∧
 (let v132_2 : Bool := (bif v121_2 then ((UCheck.fn v13_1 v14_1 v18_3h (1073741824 : Int)) == (VCheck.fn v13_1 v14_1 v18_3h (1073741824 : Int))) else false)
 (Ret1 v132_2 (RulesMined.fn x0 x1 x2 x3 x4 x5)))))) ∧
 (((Int.tmod x3 (8 : Int)) == (2 : Int)) = false →
 ((((Int.tmod x3 (8 : Int)) == (3 : Int)) = true →
 (32 : Int) ≠ 0 ∧
 (0 ≤ (IntKind.i64.wrap (Int.tmod x4 (32 : Int))) ∧ (IntKind.i64.wrap (Int.tmod x4 (32 : Int))) < 32) ∧
 (let v83 : Int := (v52.2.1.getD (Int.toNat (IntKind.i64.wrap (Int.tmod x4 (32 : Int)))) (0 : Int))
 (0 ≤ (IntKind.i64.wrap (Int.tmod x4 (32 : Int))) ∧ (IntKind.i64.wrap (Int.tmod x4 (32 : Int))) < 32) ∧
 (let v18_4h : (Int × ((List Int) × ((List Int) × (Int × (Int × (Int × Unit)))))) := (v52.1, ((v52.2.1.set (Int.toNat (IntKind.i64.wrap (Int.tmod x4 (32 : Int)))) (IntKind.u8.wrap (v83 + (1 : Int)))), v52.2.2))
 UCheck.pre v13_1 v14_1 v18_4h x5 ∧
 VCheck.pre v13_1 v14_1 v18_4h x5 ∧
 (let v121_3 : Bool := ((UCheck.fn v13_1 v14_1 v18_4h x5) == (VCheck.fn v13_1 v14_1 v18_4h x5))
 (v121_3 = true → v121_3 = true) ∧
 (v121_3 = true → v121_3 = true) ∧
 (v121_3 = true → v121_3 = true) ∧
 (v121_3 = true → UCheck.pre v13_1 v14_1 v18_4h (1073741824 : Int)) ∧
 (v121_3 = true → v121_3 = true) ∧
 (v121_3 = true → v121_3 = true) ∧
 (v121_3 = true → v121_3 = true) ∧
 (v121_3 = true → VCheck.pre v13_1 v14_1 v18_4h (1073741824 : Int)) ∧
 (v121_3 = true → v121_3 = true) ∧
 (v121_3 = true → v121_3 = true) ∧
 (v121_3 = true → v121_3 = true) ∧
 (let v132_3 : Bool := (bif v121_3 then ((UCheck.fn v13_1 v14_1 v18_4h (1073741824 : Int)) == (VCheck.fn v13_1 v14_1 v18_4h (1073741824 : Int))) else false)
 (Ret1 v132_3 (RulesMined.fn x0 x1 x2 x3 x4 x5))))))) ∧
 (((Int.tmod x3 (8 : Int)) == (3 : Int)) = false →
 ((((Int.tmod x3 (8 : Int)) == (4 : Int)) = true →
 UCheck.pre v13_1 v14_1 ((IntKind.u32.wrap (v52.1 + x4)), v52.2) x5 ∧
 (let v115 : Int := (UCheck.fn v13_1 v14_1 ((IntKind.u32.wrap (v52.1 + x4)), v52.2) x5)
 VCheck.pre v13_1 v14_1 ((IntKind.u32.wrap (v52.1 + x4)), v52.2) x5 ∧
 (let v120 : Int := (VCheck.fn v13_1 v14_1 ((IntKind.u32.wrap (v52.1 + x4)), v52.2) x5)
 ((v115 == v120) = true → (v115 == v120) = true) ∧
 ((v115 == v120) = true → (v115 == v120) = true) ∧
 ((v115 == v120) = true → (v115 == v120) = true) ∧
 ((v115 == v120) = true → UCheck.pre v13_1 v14_1 ((IntKind.u32.wrap (v52.1 + x4)), v52.2) (1073741824 : Int)) ∧
 ((v115 == v120) = true → (v115 == v120) = true) ∧
 ((v115 == v120) = true → (v115 == v120) = true) ∧
 ((v115 == v120) = true → (v115 == v120) = true) ∧
 ((v115 == v120) = true → VCheck.pre v13_1 v14_1 ((IntKind.u32.wrap (v52.1 + x4)), v52.2) (1073741824 : Int)) ∧
 ((v115 == v120) = true → (v115 == v120) = true) ∧
 ((v115 == v120) = true → (v115 == v120) = true) ∧
 ((v115 == v120) = true → (v115 == v120) = true) ∧
 (let v132_4 : Bool := (bif (v115 == v120) then ((UCheck.fn v13_1 v14_1 ((IntKind.u32.wrap (v52.1 + x4)), v52.2) (1073741824 : Int)) == (VCheck.fn v13_1 v14_1 ((IntKind.u32.wrap (v52.1 + x4)), v52.2) (1073741824 : Int))) else false)
 (Ret1 v132_4 (RulesMined.fn x0 x1 x2 x3 x4 x5)))))) ∧
 (((Int.tmod x3 (8 : Int)) == (4 : Int)) = false →
 ((((Int.tmod x3 (8 : Int)) == (5 : Int)) = true →
 (16 : Int) ≠ 0 ∧
 (let v99 : Int := (IntKind.i64.wrap ((1 : Int) + (IntKind.i64.wrap (Int.tmod x4 (16 : Int)))))
 (let v102h : (List (Int × ((List Int) × Unit))) := [(v99, (((List.replicate 32 (0 : Int)).set 0 (1 : Int)), ()))]
 (let v13_2h : ((Int × ((List Int) × ((List Int) × (Int × (Int × (Int × Unit)))))) × ((List Int) × (Int × (Int × (Int × (Int × ((List (Int × ((List Int) × Unit))) × (Int × (Int × (Int × Unit)))))))))) := (v13_1.1, (v13_1.2.1, (v13_1.2.2.1, (v13_1.2.2.2.1, (v13_1.2.2.2.2.1, (v13_1.2.2.2.2.2.1, (v102h, v13_1.2.2.2.2.2.2.2)))))))
 UCheck.pre v13_2h v14_1 v52 x5 ∧
 VCheck.pre v13_2h v14_1 v52 x5 ∧
 (let v121_4 : Bool := ((UCheck.fn v13_2h v14_1 v52 x5) == (VCheck.fn v13_2h v14_1 v52 x5))
 (v121_4 = true → v121_4 = true) ∧
 (v121_4 = true → v121_4 = true) ∧
 (v121_4 = true → v121_4 = true) ∧
 (v121_4 = true → UCheck.pre v13_2h v14_1 v52 (1073741824 : Int)) ∧
 (v121_4 = true → v121_4 = true) ∧
 (v121_4 = true → v121_4 = true) ∧
 (v121_4 = true → v121_4 = true) ∧
 (v121_4 = true → VCheck.pre v13_2h v14_1 v52 (1073741824 : Int)) ∧
 (v121_4 = true → v121_4 = true) ∧
 (v121_4 = true → v121_4 = true) ∧
 (v121_4 = true → v121_4 = true) ∧
 (let v132_5 : Bool := (bif v121_4 then ((UCheck.fn v13_2h v14_1 v52 (1073741824 : Int)) == (VCheck.fn v13_2h v14_1 v52 (1073741824 : Int))) else false)
 (Ret1 v132_5 (RulesMined.fn x0 x1 x2 x3 x4 x5)))))))) ∧
 (((Int.tmod x3 (8 : Int)) == (5 : Int)) = false →
 ((((Int.tmod x3 (8 : Int)) == (6 : Int)) = true →
 (let v13_3h : ((Int × ((List Int) × ((List Int) × (Int × (Int × (Int × Unit)))))) × ((List Int) × (Int × (Int × (Int × (Int × ((List (Int × ((List Int) × Unit))) × (Int × (Int × (Int × Unit)))))))))) := (v13_1.1, (v13_1.2.1, (v13_1.2.2.1, (v13_1.2.2.2.1, (v13_1.2.2.2.2.1, ((IntKind.u32.wrap (v13_1.2.2.2.2.2.1 + x4)), v13_1.2.2.2.2.2.2))))))
 UCheck.pre v13_3h v14_1 v52 x5 ∧
 VCheck.pre v13_3h v14_1 v52 x5 ∧
 (let v121_5 : Bool := ((UCheck.fn v13_3h v14_1 v52 x5) == (VCheck.fn v13_3h v14_1 v52 x5))
 (v121_5 = true → v121_5 = true) ∧
 (v121_5 = true → v121_5 = true) ∧
 (v121_5 = true → v121_5 = true) ∧
 (v121_5 = true → UCheck.pre v13_3h v14_1 v52 (1073741824 : Int)) ∧
 (v121_5 = true → v121_5 = true) ∧
 (v121_5 = true → v121_5 = true) ∧
 (v121_5 = true → v121_5 = true) ∧
 (v121_5 = true → VCheck.pre v13_3h v14_1 v52 (1073741824 : Int)) ∧
 (v121_5 = true → v121_5 = true) ∧
 (v121_5 = true → v121_5 = true) ∧
 (v121_5 = true → v121_5 = true) ∧
 (let v132_6 : Bool := (bif v121_5 then ((UCheck.fn v13_3h v14_1 v52 (1073741824 : Int)) == (VCheck.fn v13_3h v14_1 v52 (1073741824 : Int))) else false)
 (Ret1 v132_6 (RulesMined.fn x0 x1 x2 x3 x4 x5)))))) ∧
 (((Int.tmod x3 (8 : Int)) == (6 : Int)) = false →
 UCheck.pre v13_1 v14_1 v52 x5 ∧
 VCheck.pre v13_1 v14_1 v52 x5 ∧
 (let v121_6 : Bool := ((UCheck.fn v13_1 v14_1 v52 x5) == (VCheck.fn v13_1 v14_1 v52 x5))
 (v121_6 = true → v121_6 = true) ∧
 (v121_6 = true → v121_6 = true) ∧
 (v121_6 = true → v121_6 = true) ∧
 (v121_6 = true → UCheck.pre v13_1 v14_1 v52 (1073741824 : Int)) ∧
 (v121_6 = true → v121_6 = true) ∧
 (v121_6 = true → v121_6 = true) ∧
 (v121_6 = true → v121_6 = true) ∧
 (v121_6 = true → VCheck.pre v13_1 v14_1 v52 (1073741824 : Int)) ∧
 (v121_6 = true → v121_6 = true) ∧
 (v121_6 = true → v121_6 = true) ∧
 (v121_6 = true → v121_6 = true) ∧
 (let v132_7 : Bool := (bif v121_6 then ((UCheck.fn v13_1 v14_1 v52 (1073741824 : Int)) == (VCheck.fn v13_1 v14_1 v52 (1073741824 : Int))) else false)
 (Ret1 v132_7 (RulesMined.fn x0 x1 x2 x3 x4 x5))))))))))))))))))))))))))))
theorem RulesMined.vc : RulesMined.VC := by
  intro v seeds s what b now ⟨h1, h2, h3, h4, h5, h6⟩
  generalize hl0 : MHeaders.fn (MParams.fn v) ((VStart.fn (MParams.fn v)).1) (KSome.fn seeds 14) = l
  have hl0 : headersGo (madeParams v) (startFn (madeParams v)).1 (seeds.take (Int.toNat 14)) = l := hl0
  have hp := made_ok h1
  have hs := start_good hp
  have hsb : Bytes (seeds.take (Int.toNat 14)) := h2.take _
  have hsl : (seeds.take (Int.toNat 14)).length ≤ 1000 := by rw [List.length_take]; have : Int.toNat 14 = 14 := rfl; omega
  obtain ⟨g1, g2⟩ := headers_ok hp (seeds.take (Int.toNat 14)) _ hs hsb
  rw [hl0] at g1 g2
  simp only [imp_self, true_and, zsane, MParams.fn, VStart.fn, KSome.fn, VAdvance.fn, MMine.fn, UCheck.fn, VCheck.fn, BEq.rfl, cond_true, ret1, RulesMined.fn, RulesMined.inv6, RulesMined.mes6, hl0]
  refine ⟨trivial, fun h => (by cases h), fun _ => ⟨h1, hp, by show (0 : Int) ≤ 14; omega, ⟨hp, hs, hsb, hsl⟩, ⟨hs, by omega, by omega⟩, ?_⟩⟩
  rintro p c i ⟨rfl, hc, k1, k2⟩
  refine ⟨fun hi => ?_, fun hi => ?_⟩
  · have hi : i < l.length := of_decide_eq_true hi
    have hh := get_hdr g1 k1 hi
    generalize l.getD i.toNat _ = h at *
    rw [i64w (by omega) (by omega)]
    exact ⟨⟨k1, hi⟩, ⟨hp, hc, hh⟩, ⟨rfl, adv_good ⟨hp, hc, hh⟩, by omega, by omega⟩, by omega⟩
  · have hm : PGood (madeParams v) ∧ CGood c ∧ HOk (rootS s) := ⟨hp, hc, rootS_ok h3⟩
    have hh := mine_ok (b := IntKind.u32.wrap s) hm
    have hr : List.set (List.replicate 32 (0 : Int)) 0 s = rootS s := rfl
    rw [hr]
    generalize mineFn (madeParams v) c (rootS s) (IntKind.u32.wrap s) = h at *
    have late : U32 1073741824 := ⟨by decide, by decide⟩
    have ok : ∀ {p' : Par} {h' : Hdr}, PGood p' → HdrOk h' → ∀ n, U32 n → ChkPre p' c h' n := fun a1 a2 n hn => ⟨⟨a1, hc, a2⟩, hn⟩
    have ht32 : Int.tmod b 32 = b % 32 := Int.tmod_eq_emod_of_nonneg h5.1
    have ht16 : Int.tmod b 16 = b % 16 := Int.tmod_eq_emod_of_nonneg h5.1
    have e32 : IntKind.i64.wrap (b % 32) = b % 32 := i64w (by omega) (by omega)
    have e16 : IntKind.i64.wrap (b % 16) = b % 16 := i64w (by omega) (by omega)
    simp only [ht32, e32]
    refine ⟨hm, by omega, fun _ => ?_, fun _ => ⟨fun _ => ?_, fun _ => ⟨fun _ => ?_, fun _ => ⟨fun _ => ?_, fun _ => ⟨fun _ => ?_, fun _ => ⟨fun _ => ?_, fun _ => ⟨fun _ => ?_, fun _ => ?_⟩⟩⟩⟩⟩⟩⟩
    · have h' : HdrOk (h.1, h.2.1, h.2.2.1, IntKind.u32.wrap (h.2.2.2.1 + b), h.2.2.2.2) := ⟨hh.1, hh.2.1, hh.2.2.1, u32r _, hh.2.2.2.2⟩
      exact ⟨ok hp h' _ h6, ok hp h' _ h6, fun _ => ok hp h' _ late, fun _ => ok hp h' _ late, trivial⟩
    · have h' : HdrOk (h.1, h.2.1, h.2.2.1, h.2.2.2.1, IntKind.u32.wrap (h.2.2.2.2.1 + b), h.2.2.2.2.2) := ⟨hh.1, hh.2.1, hh.2.2.1, hh.2.2.2.1, u32r _, hh.2.2.2.2.2⟩
      exact ⟨ok hp h' _ h6, ok hp h' _ h6, fun _ => ok hp h' _ late, fun _ => ok hp h' _ late, trivial⟩
    · have h' : HdrOk (h.1, h.2.1, h.2.2.1, h.2.2.2.1, h.2.2.2.2.1, IntKind.u32.wrap (h.2.2.2.2.2.1 + b), h.2.2.2.2.2.2) := ⟨hh.1, hh.2.1, hh.2.2.1, hh.2.2.2.1, hh.2.2.2.2.1, u32r _⟩
      exact ⟨ok hp h' _ h6, ok hp h' _ h6, fun _ => ok hp h' _ late, fun _ => ok hp h' _ late, trivial⟩
    · have h' : HdrOk (h.1, h.2.1.set (b % 32).toNat (IntKind.u8.wrap (h.2.1.getD (b % 32).toNat 0 + 1)), h.2.2) := ⟨hh.1, ⟨by show (List.set _ _ _).length = 32; rw [List.length_set]; exact hh.2.1.1, hh.2.1.2.set _ (u8r _)⟩, hh.2.2⟩
      exact ⟨by omega, by omega, by omega, ok hp h' _ h6, ok hp h' _ h6, fun _ => ok hp h' _ late, fun _ => ok hp h' _ late, trivial⟩
    · have h' : HdrOk (IntKind.u32.wrap (h.1 + b), h.2) := ⟨u32r _, hh.2⟩
      exact ⟨ok hp h' _ h6, ok hp h' _ h6, fun _ => ok hp h' _ late, fun _ => ok hp h' _ late, trivial⟩
    · have hp' : ∀ cps : List Cp, cps.length ≤ 8 → PGood ((madeParams v).1, (madeParams v).2.1, (madeParams v).2.2.1, (madeParams v).2.2.2.1, (madeParams v).2.2.2.2.1, (madeParams v).2.2.2.2.2.1, cps, (madeParams v).2.2.2.2.2.2.2) := fun cps hl => ⟨⟨hp.1.1, hp.1.2.1, hl⟩, hp.2⟩
      exact ⟨by omega, ok (hp' _ (by simp)) hh _ h6, ok (hp' _ (by simp)) hh _ h6, fun _ => ok (hp' _ (by simp)) hh _ late, fun _ => ok (hp' _ (by simp)) hh _ late, trivial⟩
    · have hp' : PGood ((madeParams v).1, (madeParams v).2.1, (madeParams v).2.2.1, (madeParams v).2.2.2.1, (madeParams v).2.2.2.2.1, IntKind.u32.wrap ((madeParams v).2.2.2.2.2.1 + b), (madeParams v).2.2.2.2.2.2) := ⟨hp.1, hp.2.1, hp.2.2.1, u32r _⟩
      exact ⟨ok hp' hh _ h6, ok hp' hh _ h6, fun _ => ok hp' hh _ late, fun _ => ok hp' hh _ late, trivial⟩
    · exact ⟨ok hp hh _ h6, ok hp hh _ h6, fun _ => ok hp hh _ late, fun _ => ok hp hh _ late, trivial⟩
end Lc
