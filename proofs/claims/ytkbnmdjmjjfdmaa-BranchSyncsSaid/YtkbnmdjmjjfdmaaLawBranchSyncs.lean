/- The laws of this seat, for every input: each law returns true and its arguments read behind the call as before; the package-level tables are as the text of the program lays them. -/
import Derived.Test.YtkbnmdjmjjfdmaaRows
import Derived.Test.YtkbnmdjmjjfdmaaLtSyncs
import Derived.Test.YtkbnmdjmjjfdmaaSound
import Derived.Test.YtkbnmdjmjjfdmaaEngSV
import Derived.Stop.LaidErr
set_option linter.unusedVariables false
set_option linter.unusedSimpArgs false
namespace Go.Proofs.Ytkbnmdjmjjfdmaa
open Go Lc Go.ChangeShapes Go.WideShapes Go.ChangeAt Go.RowKit
set_option maxRecDepth 1000000
noncomputable def conBranchSyncs :Con:={params:=[.int .u8,.slc (.int .u8),.int .u8],rets:=[.deep (.bool)],pre:=fun x=>BranchSyncs.pre x.1 x.2.1 x.2.2.1,fn:=fun x=>(BranchSyncs.fn x.1 x.2.1 x.2.2.1,())}
noncomputable def NBranchSyncs :Tup conBranchSyncs.params→Notes:=fun x=>{loops:=fun n=>Lc.look n [(9,{see:=[],ann:=fun _=>{frz:=[],keep:=[10,42,43],vars:=[(7,.ptr (Tq17)),(8,.ptr (Tq23)),(11,.ptr (.pair (.int .i64) (Tq27))),(44,.val (.int .i64))],inv:=BranchSyncs.inv9 x.1 x.2.1 x.2.2.1,mes:=BranchSyncs.mes9 x.1 x.2.1 x.2.2.1}})],cuts:=fun n=>Lc.look n [],frz:=fun _=>[]}
theorem tieBranchSyncs :fnVC (env0 tb70 [] 114 []) conBranchSyncs NBranchSyncs (Try.f3.body.getD .skip) Try.f3.results.toList=BranchSyncs.VC:=by kernel_rfl
theorem okBranchSyncs :Sound Try.prog gl 3 conBranchSyncs:=fnS al70 Try.func3 (by kernel_rfl) (Eq.mpr tieBranchSyncs BranchSyncs.vc)
theorem own :ownKnob Try.prog.godebug=none:=by kernel_rfl
theorem laidOut :laidOutB Try.prog=true:=by kernel_rfl
theorem tables {W:World}(h:laidMetH Try.prog Rows.branchSyncsRow.laid W):GlobOk gl (full W.heap):=by
 intro g tv e
 simp[gl,glT,Lc.look] at e
noncomputable def laidWorld (os:Os):World:=
 {World.holding Try.prog os ⟨#[],#[],[]⟩ with heap:=(World.holding Try.prog os ⟨#[],#[],[]⟩).heap}
namespace lawBranchSyncs
noncomputable def wa :Array Value:= #[(.int .u8 0),(.slice none 0 0),(.int .u8 0)]
noncomputable def wd {H:Type}:List (DataW H):=[.lit (.int .u8 0),.nil,.lit (.int .u8 0)]
theorem pre_of :∀xs,RngT conBranchSyncs.params xs→conBranchSyncs.pre xs:=by
 rintro⟨v,s,n,_⟩ ⟨h1,⟨_,h2⟩,h3,_⟩;exact⟨rngU8 h1,rngBytes14 h2,rngU8 h3⟩
theorem contract (H:Type)(enc:TypeId×Value→H)(W:World)(base:Nat)(args:Array Value)(ds gs:List (DataW H))(before:List MemPlace)
 (hval:∀(j:Nat) t v,Try.f3.params[j]? =some t→args[j]? =some v→Value.okWide Try.prog W .any base t v)
 (hW:DataW.Whole enc Try.prog Try.f3.params.toList Rows.branchSyncsSpec.vars false W args.toList ds gs before) (hL:laidMetH Try.prog Rows.branchSyncsRow.laid W):
 Calls Try.prog 3 args W fun e W'=>∃v,e= .returned v∧Rows.branchSyncsSpec.post enc Try.prog Try.f3 false true false false W args v W':=
 law_post (ts:=conBranchSyncs.params) (pre:=conBranchSyncs.pre) (is:=[5,22,5]) (tb:=4) okBranchSyncs laidOut (by kernel_rfl) (by kernel_rfl) (by kernel_rfl) (by kernel_rfl) rfl
  (fun ds h=>by exact(match ds,h with|[d0,d1,d2],_=>rfl)) hval hW (tables hL) pre_of
theorem laid_met (os:Os):laidMet Try.prog Rows.branchSyncsRow.laid ((laidWorld os).forCall (fun _ _=>0) ⟨#[],wa,[]⟩).memory:=
 laidMet_of_run' 8 (by kernel_rfl) (by kernel_rfl)
theorem reads (os:Os){H:Type}(enc:TypeId×Value→H):∃places,DataW.whole enc Try.prog ((laidWorld os).forCall (fun _ _=>0) ⟨#[],wa,[]⟩).memory Try.f3.params.toList Rows.branchSyncsSpec.vars false (wa:Array Value).toList 8=some (wd,[],places):=
 ⟨[],by kernel_rfl⟩
theorem lifted (os:Os)(started:os.Started)(H:Type)(enc:TypeId×Value→H)(F:Stop.Interp):
 ReturnsInHanded {} Try.checked os 3 .any ((OpenSpec.ofChange Rows.branchSyncsSpec).preRow enc Try.prog Try.f3 Rows.branchSyncsRow.domain false Rows.branchSyncsRow.laid) (((OpenSpec.ofChange Rows.branchSyncsSpec).at F).post enc Try.prog Try.f3 false true false false):=by
 obtain⟨places,hx⟩:=reads os enc
 refine returnsInHanded_of_row (C:=Try.checked) (s:=OpenSpec.ofChange Rows.branchSyncsSpec) own started (by kernel_rfl) Try.func3
  (witness_row_at (enc:=enc) (C:=Try.checked) false (laidWorld os) wa rfl (by kernel_rfl) (by kernel_rfl) (by kernel_rfl)
    (OpenSpec.preRow_of_cond 8 hx (by kernel_rfl) (fun k hk=>by cases hk) (by kernel_rfl) (laid_met os))) ?_
 intro W base args ds gs before hval hW _ _ _ hL _ _
 exact contract H enc W base args ds gs before hval hW hL
theorem said :Rows.BranchSyncsSaid:=
 OpenClaim.holds_of_cond 3 Try.f3 rfl rfl rfl rfl rfl rfl rfl ⟨rfl,rfl,rfl,rfl,rfl⟩ rfl rfl rfl rfl rfl (by kernel_rfl) Try.func3 (by kernel_rfl)
  (of_decide_eq_true (by kernel_rfl)) (by unfold Func.isWrapper;first|(rw[if_pos (by decide+kernel)];kernel_rfl)|(rw[if_neg (by decide+kernel)];exact⟨rfl,rfl⟩))
  (fun os started H enc _ F=>by rw[OpenClaim.pre_eq_preRow];exact lifted os started H enc F)
end lawBranchSyncs
theorem branchSyncsHolds :Rows.BranchSyncsSaid:=lawBranchSyncs.said
end Go.Proofs.Ytkbnmdjmjjfdmaa
