/- This law, for every input. -/
import Derived.Test.YtlabkmpegbnilaaGreatDoorCards
import Derived.Test.YtlabkmpegbnilaaGreatDoorTie
import Derived.Test.YtlabkmpegbnilaaGreatDoorLwMemory
import Derived.Test.YtlabkmpegbnilaaGreatDoorSound
import Derived.Test.YtlabkmpegbnilaaGreatDoorEngSV
import Derived.Stop.LaidErr
import Derived.Test.YtlabkmpegbnilaaGreatDoorTiedPresyncMemory
set_option linter.unusedVariables false
set_option linter.unusedSimpArgs false
namespace Go.Proofs.YtlabkmpegbnilaaGreatDoor
open Go Lc Go.ChangeShapes Go.WideShapes Go.ChangeAt Go.RowKit
set_option maxRecDepth 1000000
namespace lawPresyncMemory
theorem closed :joinedFacts Tryz.pinned.checked.prog 14 Tryz.f14 Rows.presyncMemorySpec Rows.presyncMemoryRow=true:=by
 unfold joinedFacts
 rw[show laidOutB Tryz.pinned.checked.prog=true from laidOut,jInPlace,jUnfollowed,jRecurses,jNamed]
 kernel_rfl
theorem said :Rows.PresyncMemorySaid:=
 OpenClaim.holds_of_cond 14 Tryz.f14 rfl rfl rfl rfl rfl rfl rfl ⟨rfl,rfl,rfl,rfl,rfl⟩ rfl rfl rfl rfl rfl (by kernel_rfl) Tryz.func14 closed
  (of_decide_eq_true (by kernel_rfl)) (by unfold Func.isWrapper;first|(rw[if_pos (by decide+kernel)];kernel_rfl)|(rw[if_neg (by decide+kernel)];exact⟨rfl,rfl⟩))
  (fun os started H enc _ F=>by rw[OpenClaim.pre_eq_preRow];exact lifted os started H enc F)
theorem plain (f:FuncId)(fn:Func)(hf:Tryz.pinned.checked.prog.funcNamed "lightclient/lightclientlaw17.PresyncMemory" =some f)(hfn:Tryz.pinned.checked.prog.funcs[f]? =some fn):
 false=Tryz.pinned.checked.prog.looks []∧∀(j:Nat) t,fn.params[j]? =some t→Tryz.pinned.checked.prog.wantsStandIn t=false:=by
 obtain rfl:f=14:=Option.some.inj ((show Tryz.prog.funcNamed "lightclient/lightclientlaw17.PresyncMemory" =some 14 by kernel_rfl).symm.trans hf)|>.symm
 obtain rfl:fn=Tryz.f14:=(Option.some.inj (Tryz.func14.symm.trans hfn)).symm
 refine⟨by kernel_rfl,fun j t ht=> ?_⟩
 rw[Tryz.params14] at ht
 have hm:=Array.mem_of_getElem? ht
 have all:(#[5,36,24,98,36]:Array Nat).all (fun t=> !(Tryz.prog.wantsStandIn t))=true:=by kernel_rfl
 rw[Array.all_eq_true'] at all
 have h3:=all t hm
 exact(Bool.not_eq_true' _).mp h3
theorem card :Rows.PresyncMemoryCardSaid:=
 Claim7.holds_tied_plain_at .later [] _ _ _ _ said (fun _ h=>by cases h) (by kernel_rfl) (fun _ h=>by cases h) presyncMemory_row_tie rfl ⟨rfl,rfl⟩ (by kernel_rfl) rfl plain (by kernel_rfl)
end lawPresyncMemory
theorem presyncMemoryHolds :Rows.PresyncMemoryCardSaid:=lawPresyncMemory.card
end Go.Proofs.YtlabkmpegbnilaaGreatDoor
