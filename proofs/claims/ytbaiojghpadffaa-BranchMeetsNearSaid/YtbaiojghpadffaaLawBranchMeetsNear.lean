/- The laws of this seat, for every input: each law returns true and its arguments read behind the call as before; the package-level tables are as the text of the program lays them. -/
import Derived.Test.YtbaiojghpadffaaRows
import Derived.Test.YtbaiojghpadffaaSound
import Derived.Test.YtbaiojghpadffaaEngV
import Derived.Stop.LaidErr
namespace Go.Proofs.Ytbaiojghpadffaa
open Go Lc Go.ChangeShapes Go.WideShapes Go.ChangeAt Go.RowKit
set_option maxRecDepth 1000000
set_option linter.unusedVariables false
theorem own : ownKnob Try.prog.godebug = none := by kernel_rfl
theorem laidOut : laidOutB Try.prog = true := by kernel_rfl
theorem tables {W : World} (h : laidMetH Try.prog Rows.branchMeetsNearRow.laid W) : GlobOk gl (full W.heap) := by
  intro g tv e
  simp [gl, glT, Lc.look] at e
noncomputable def laidWorld (os : Os) : World :=
  { World.holding Try.prog os ⟨#[], #[], []⟩ with heap := (World.holding Try.prog os ⟨#[], #[], []⟩).heap }
namespace lawBranchMeetsNear
noncomputable def wa : Array Value := #[(.slice none 0 0), (.int .u8 0)]
noncomputable def wd {H : Type} : List (DataW H) := [.nil, .lit (.int .u8 0)]
theorem pre_of : ∀ xs, RngT conBranchMeetsNear.params xs → conBranchMeetsNear.pre xs := by
  rintro ⟨l, n, _⟩ ⟨h1, h2, _⟩; exact ⟨rngU8s h1, rngU8 h2⟩
theorem contract (H : Type) (enc : TypeId × Value → H) (W : World) (base : Nat) (args : Array Value) (ds gs : List (DataW H)) (before : List MemPlace)
    (hval : ∀ (j : Nat) t v, Try.f7.params[j]? = some t → args[j]? = some v → Value.okWide Try.prog W .any base t v)
    (hW : DataW.Whole enc Try.prog Try.f7.params.toList Rows.branchMeetsNearSpec.vars false W args.toList ds gs before) (hL : laidMetH Try.prog Rows.branchMeetsNearRow.laid W) :
    Calls Try.prog 7 args W fun e W' => ∃ v, e = .returned v ∧ Rows.branchMeetsNearSpec.post enc Try.prog Try.f7 false true false false W args v W' :=
  law_post (ts := conBranchMeetsNear.params) (pre := conBranchMeetsNear.pre) (is := [25, 5]) (tb := 4) okBranchMeetsNear laidOut (by kernel_rfl) (by kernel_rfl) (by kernel_rfl) (by kernel_rfl) rfl
    (fun ds h => by exact (match ds, h with | [d0, d1], _ => rfl)) hval hW (tables hL) pre_of
theorem laid_met (os : Os) : laidMet Try.prog Rows.branchMeetsNearRow.laid ((laidWorld os).forCall (fun _ _ => 0) ⟨#[], wa, []⟩).memory :=
  laidMet_of_run' 8 (by kernel_rfl) (by kernel_rfl)
theorem reads (os : Os) {H : Type} (enc : TypeId × Value → H) : ∃ places, DataW.whole enc Try.prog ((laidWorld os).forCall (fun _ _ => 0) ⟨#[], wa, []⟩).memory Try.f7.params.toList Rows.branchMeetsNearSpec.vars false (wa : Array Value).toList 8 = some (wd, [], places) :=
  ⟨[], by kernel_rfl⟩
theorem lifted (os : Os) (started : os.Started) (H : Type) (enc : TypeId × Value → H) (F : Stop.Interp) :
    ReturnsInHanded {} Try.checked os 7 .any ((OpenSpec.ofChange Rows.branchMeetsNearSpec).preRow enc Try.prog Try.f7 Rows.branchMeetsNearRow.domain false Rows.branchMeetsNearRow.laid) (((OpenSpec.ofChange Rows.branchMeetsNearSpec).at F).post enc Try.prog Try.f7 false true false false) := by
  obtain ⟨places, hx⟩ := reads os enc
  refine returnsInHanded_of_row (C := Try.checked) (s := OpenSpec.ofChange Rows.branchMeetsNearSpec) own started (by kernel_rfl) Try.func7
    (witness_row_at (enc := enc) (C := Try.checked) false (laidWorld os) wa rfl (by kernel_rfl) (by kernel_rfl) (by kernel_rfl)
      (OpenSpec.preRow_of_cond 8 hx (by kernel_rfl) (fun k hk => by cases hk) (by kernel_rfl) (laid_met os))) ?_
  intro W base args ds gs before hval hW _ _ _ hL _ _
  exact contract H enc W base args ds gs before hval hW hL
theorem said : Rows.BranchMeetsNearSaid :=
  OpenClaim.holds_of_cond 7 Try.f7 rfl rfl rfl rfl rfl rfl rfl ⟨rfl, rfl, rfl, rfl, rfl⟩ rfl rfl rfl rfl rfl (by kernel_rfl) Try.func7 (by kernel_rfl)
    (of_decide_eq_true (by kernel_rfl)) (by unfold Func.isWrapper; first | (rw [if_pos (by decide +kernel)]; kernel_rfl) | (rw [if_neg (by decide +kernel)]; exact ⟨rfl, rfl⟩))
    (fun os started H enc _ F => by rw [OpenClaim.pre_eq_preRow]; exact lifted os started H enc F)
end lawBranchMeetsNear
theorem branchMeetsNearHolds : Rows.BranchMeetsNearSaid := lawBranchMeetsNear.said
end Go.Proofs.Ytbaiojghpadffaa
