/- This law, for every input. -/
import Derived.Test.YtlhdieoemhjjiaaGreatDoorCards
import Derived.Test.YtlhdieoemhjjiaaGreatDoorTie
import Derived.Test.YtlhdieoemhjjiaaGreatDoorLtValid
import Derived.Test.YtlhdieoemhjjiaaGreatDoorSound
import Derived.Test.YtlhdieoemhjjiaaGreatDoorEngSV
import Derived.Stop.LaidErr
import Derived.Test.YtlhdieoemhjjiaaGreatDoorTiedTreeValid
set_option linter.unusedVariables false
set_option linter.unusedSimpArgs false
namespace Go.Proofs.YtlhdieoemhjjiaaGreatDoor
open Go Lc Go.ChangeShapes Go.WideShapes Go.ChangeAt Go.RowKit
set_option maxRecDepth 1000000
namespace lawTreeValid
theorem closed :joinedFacts Tryz.pinned.checked.prog 3 Tryz.f3 Rows.treeValidSpec Rows.treeValidRow=true:=by
 unfold joinedFacts
 rw[show laidOutB Tryz.pinned.checked.prog=true from laidOut,jInPlace,jUnfollowed,jRecurses,jNamed]
 kernel_rfl
theorem said :Rows.TreeValidSaid:=
 OpenClaim.holds_of_cond 3 Tryz.f3 rfl rfl rfl rfl rfl rfl rfl ⟨rfl,rfl,rfl,rfl,rfl⟩ rfl rfl rfl rfl rfl (by kernel_rfl) Tryz.func3 closed
  (of_decide_eq_true (by kernel_rfl)) (by unfold Func.isWrapper;first|(rw[if_pos (by decide+kernel)];kernel_rfl)|(rw[if_neg (by decide+kernel)];exact⟨rfl,rfl⟩))
  (fun os started H enc _ F=>by rw[OpenClaim.pre_eq_preRow];exact lifted os started H enc F)
theorem plain (f:FuncId)(fn:Func)(hf:Tryz.pinned.checked.prog.funcNamed "lightclient/lightclientlaw15.TreeValid" =some f)(hfn:Tryz.pinned.checked.prog.funcs[f]? =some fn):
 false=Tryz.pinned.checked.prog.looks []∧∀(j:Nat) t,fn.params[j]? =some t→Tryz.pinned.checked.prog.wantsStandIn t=false:=by
 obtain rfl:f=3:=Option.some.inj ((show Tryz.prog.funcNamed "lightclient/lightclientlaw15.TreeValid" =some 3 by kernel_rfl).symm.trans hf)|>.symm
 obtain rfl:fn=Tryz.f3:=(Option.some.inj (Tryz.func3.symm.trans hfn)).symm
 refine⟨by kernel_rfl,fun j t ht=> ?_⟩
 rw[Tryz.params3] at ht
 have hm:=Array.mem_of_getElem? ht
 have all:(#[32,35,5,36,5,5]:Array Nat).all (fun t=> !(Tryz.prog.wantsStandIn t))=true:=by kernel_rfl
 rw[Array.all_eq_true'] at all
 have h3:=all t hm
 exact(Bool.not_eq_true' _).mp h3
theorem card :Rows.TreeValidCardSaid:=
 Claim7.holds_tied_plain_at .later [] _ _ _ _ said (fun _ h=>by cases h) (by kernel_rfl) (fun _ h=>by cases h) treeValid_row_tie rfl ⟨rfl,rfl⟩ (by kernel_rfl) rfl plain (by kernel_rfl)
end lawTreeValid
theorem treeValidHolds :Rows.TreeValidCardSaid:=lawTreeValid.card
end Go.Proofs.YtlhdieoemhjjiaaGreatDoor
