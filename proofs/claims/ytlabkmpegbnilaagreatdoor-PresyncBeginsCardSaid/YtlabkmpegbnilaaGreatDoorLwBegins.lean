/- The law PresyncBegins of chapter 17: its condition holds. -/
import Derived.Test.YtlabkmpegbnilaaGreatDoorFeeds
set_option linter.unusedVariables false
set_option maxRecDepth 100000
namespace Lc
open Go

def PresyncBegins.pre (p : Par) (c : Cx) (base goal salt h : List Int) (H : Int) : Prop := PRng p ∧ CRng c ∧ Ok4 base ∧ Ok4 goal ∧ HOk salt ∧ HOk h
def PresyncBegins.fn (p : Par) (c : Cx) (base goal salt h : List Int) (H : Int) : Bool := true
def PresyncBegins.VC : Prop := ∀ (x0 : Par) (x1 : Cx) (x2 : (List Int)) (x3 : (List Int)) (x4 : (List Int)) (x5 : (List Int)) (x6 : Int), PresyncBegins.pre x0 x1 x2 x3 x4 x5 x6 → LSane.pre ∧ (((!(LSane.fn)) = true → (Ret1 false (PresyncBegins.fn x0 x1 x2 x3 x4 x5 x6))) ∧ ((!(LSane.fn)) = false → KParams.pre x0 ∧ ((!(KParams.fn x0)) = false → (!(KParams.fn x0)) = false) ∧ ((!(KParams.fn x0)) = false → KContext.pre x1) ∧ ((!(KParams.fn x0)) = false → (!(KParams.fn x0)) = false) ∧ ((!(KParams.fn x0)) = false → (!(KParams.fn x0)) = false) ∧ (((bif (!(KParams.fn x0)) then true else (!(KContext.fn x1))) = true → (Ret1 true (PresyncBegins.fn x0 x1 x2 x3 x4 x5 x6))) ∧ ((bif (!(KParams.fn x0)) then true else (!(KContext.fn x1))) = false → PBegin.pre x0 x1 x2 x3 x4 ∧ (let v15h : Pst := ((0 : Int), ((List.replicate 32 (0 : Int)), ((List.replicate 4 (0 : Int)), (((0 : Int), ((List.replicate 32 (0 : Int)), ((0 : Int), ((0 : Int), ([], ()))))), ((List.replicate 4 (0 : Int)), (((0 : Int), ((List.replicate 32 (0 : Int)), ((0 : Int), ((0 : Int), ([], ()))))), ((List.replicate 4 (0 : Int)), ((0 : Int), ([], ([], ()))))))))))
 VBegin17.pre x0 x1 x2 x3 x4 ∧ (let v17h : Pst := ((0 : Int), ((List.replicate 32 (0 : Int)), ((List.replicate 4 (0 : Int)), (((0 : Int), ((List.replicate 32 (0 : Int)), ((0 : Int), ((0 : Int), ([], ()))))), ((List.replicate 4 (0 : Int)), (((0 : Int), ((List.replicate 32 (0 : Int)), ((0 : Int), ((0 : Int), ([], ()))))), ((List.replicate 4 (0 : Int)), ((0 : Int), ([], ([], ()))))))))))
 (let v49 : Pst := ((0 : Int), (x4, ((List.replicate 4 (0 : Int)), (((0 : Int), ((List.replicate 32 (0 : Int)), ((0 : Int), ((0 : Int), ([], ()))))), ((List.replicate 4 (0 : Int)), (((0 : Int), ((List.replicate 32 (0 : Int)), ((0 : Int), ((0 : Int), ([], ()))))), ((List.replicate 4 (0 : Int)), ((0 : Int), ([], ([], ()))))))))))
 (let v19h : Pst := ((0 : Int), ((List.replicate 32 (0 : Int)), ((List.replicate 4 (0 : Int)), (((0 : Int), ((List.replicate 32 (0 : Int)), ((0 : Int), ((0 : Int), ([], ()))))), ((List.replicate 4 (0 : Int)), (((0 : Int), ((List.replicate 32 (0 : Int)), ((0 : Int), ((0 : Int), ([], ()))))), ((List.replicate 4 (0 : Int)), ((0 : Int), ([], ([], ()))))))))))
 (let v52 : Bool := ((PBegin.fn x0 x1 x2 x3 x4).2 == (VBegin17.fn x0 x1 x2 x3 x4).2)
 (v52 = true → v52 = true) ∧ (v52 = true → v52 = true) ∧ (v52 = true → VSame17.pre ((PBegin.fn x0 x1 x2 x3 x4).1) ((VBegin17.fn x0 x1 x2 x3 x4).1)) ∧ (v52 = true → v52 = true) ∧ (let v57 : Bool := (bif v52 then (VSame17.fn ((PBegin.fn x0 x1 x2 x3 x4).1) ((VBegin17.fn x0 x1 x2 x3 x4).1)) else false)
 (v57 = true → v57 = true) ∧ (v57 = true → v57 = true) ∧ ((v57 = true ∧ (decide (x6 < (0 : Int))) = false) → (v57 = true ∧ (decide (x6 < (0 : Int))) = false)) ∧ ((v57 = true ∧ (decide (x6 < (0 : Int))) = false) → (v57 = true ∧ (decide (x6 < (0 : Int))) = false)) ∧ ((v57 = true ∧ (decide (x6 < (0 : Int))) = false) → PCommits.pre v49 x6) ∧ ((v57 = true ∧ (decide (x6 < (0 : Int))) = false) → (v57 = true ∧ (decide (x6 < (0 : Int))) = false)) ∧ ((v57 = true ∧ (decide (x6 < (0 : Int))) = false) → (v57 = true ∧ (decide (x6 < (0 : Int))) = false)) ∧ ((v57 = true ∧ (decide (x6 < (0 : Int))) = false) → VCommits17.pre v49 x6) ∧ ((v57 = true ∧ (decide (x6 < (0 : Int))) = false) → (v57 = true ∧ (decide (x6 < (0 : Int))) = false)) ∧ ((v57 = true ∧ (decide (x6 < (0 : Int))) = false) → (v57 = true ∧ (decide (x6 < (0 : Int))) = false)) ∧ (v57 = true → v57 = true) ∧ (v57 = true → ((decide (x6 < (0 : Int))) = false → (v57 = true ∧ (decide (x6 < (0 : Int))) = false))) ∧ (v57 = true → v57 = true) ∧ (let v70 : Bool := (bif v57 then (bif (decide (x6 < (0 : Int))) then true else (Ty.beq (.bool) (PCommits.fn v49 x6) (VCommits17.fn v49 x6))) else false)
 (v70 = true → v70 = true) ∧ (v70 = true → v70 = true) ∧ (v70 = true → PCommitment.pre v49 x5) ∧ (v70 = true → v70 = true) ∧ (v70 = true → v70 = true) ∧ (v70 = true → VCommitment17.pre v49 x5) ∧ (v70 = true → v70 = true) ∧ (v70 = true → v70 = true) ∧ (v70 = true → v70 = true) ∧ (let v79 : Bool := (bif v70 then (Ty.beq (.bool) (PCommitment.fn v49 x5) (VCommitment17.fn v49 x5)) else false)
 (Ret1 v79 (PresyncBegins.fn x0 x1 x2 x3 x4 x5 x6))))))))))))))
theorem keep17 {p : Par} {c : Cx} (h : (bif !decide (p.2.2.2.2.2.2.1.length ≤ 8) then true else !decide (c.2.2.2.2.1.length ≤ 16)) = false) : p.2.2.2.2.2.2.1.length ≤ 8 ∧ c.2.2.2.2.1.length ≤ 16 := by
  by_cases h1 : p.2.2.2.2.2.2.1.length ≤ 8
  · by_cases h2 : c.2.2.2.2.1.length ≤ 16
    · exact ⟨h1, h2⟩
    · rw [decide_eq_true h1, decide_eq_false h2] at h; simp at h
  · rw [decide_eq_false h1] at h; simp at h
theorem begin_len {p : Par} {c : Cx} {base goal salt : List Int} (h : CGood c) : VSame17.pre (beginFn p c base goal salt).1 (beginFn p c base goal salt).1 := by
  unfold beginFn
  split
  · exact ⟨by show 0 ≤ _; omega, by show 0 ≤ _; omega, zc_good, zc_good⟩
  split
  · exact ⟨by show 0 ≤ _; omega, by show 0 ≤ _; omega, zc_good, zc_good⟩
  · exact ⟨by show 0 ≤ _; omega, by show 0 ≤ _; omega, h, h⟩
theorem PresyncBegins.vc : PresyncBegins.VC := by
  intro p c base goal salt h H ⟨h1, h2, h3, h4, h5, h6⟩
  simp only [imp_self, true_and, lsane, KParams.fn, KContext.fn, PBegin.fn, VBegin17.fn, BEq.rfl, cond_true, same17_self, PCommits.fn, VCommits17.fn, PCommitment.fn, VCommitment17.fn, beq_self, Bool.cond_true_right, ret1, PresyncBegins.fn]
  refine ⟨trivial, fun h => (by cases h), fun _ => ⟨trivial, fun _ => trivial, fun _ => trivial, fun hk => ?_⟩⟩
  obtain ⟨k1, k2⟩ := keep17 hk
  have hp := h1.good k1
  have hc := h2.good k2
  refine ⟨⟨hp, hc, h3, h4⟩, ⟨hp, hc, h3, h4⟩, fun _ => begin_len hc, fun _ => h5, fun _ => h5, fun _ => ⟨h5, h6⟩, fun _ => ⟨h5, h6⟩, ?_⟩
  rw [Bool.or_true]; rfl
end Lc
