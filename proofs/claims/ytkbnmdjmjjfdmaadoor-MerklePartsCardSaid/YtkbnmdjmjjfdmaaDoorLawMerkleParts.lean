/- The laws of this seat, for every input: each law returns true and its arguments read behind the call as before; the package-level tables are as the text of the program lays them. -/
import Derived.Test.YtkbnmdjmjjfdmaaDoorCards
import Derived.Test.YtkbnmdjmjjfdmaaDoorTie
import Derived.Test.YtkbnmdjmjjfdmaaDoorLaw07e
import Derived.Test.YtkbnmdjmjjfdmaaDoorSound
import Derived.Test.YtkbnmdjmjjfdmaaDoorEngSV
import Derived.Stop.LaidErr
set_option linter.unusedVariables false
set_option linter.unusedSimpArgs false
namespace Go.Proofs.YtkbnmdjmjjfdmaaDoor
open Go Lc Go.ChangeShapes Go.WideShapes Go.ChangeAt Go.RowKit
set_option maxRecDepth 1000000
noncomputable def conMerkleParts :Con:={params:=[.slc (.arr 32 (.int .u8)),.slc (.bool)],rets:=[.deep (.bool)],pre:=fun x=>MerkleParts.pre x.1 x.2.1,fn:=fun x=>(MerkleParts.fn x.1 x.2.1,())}
noncomputable def NMerkleParts :Tup conMerkleParts.params→Notes:=fun _=>{loops:=fun n=>Lc.look n [],cuts:=fun n=>Lc.look n [],frz:=fun _=>[]}
theorem tieMerkleParts :fnVC (env0 tb32 [] 39 []) conMerkleParts NMerkleParts (Tryd.f3.body.getD .skip) Tryd.f3.results.toList=MerkleParts.VC:=by kernel_rfl
theorem okMerkleParts :Sound Tryd.prog gl 3 conMerkleParts:=fnS al32 Tryd.func3 (by kernel_rfl) (Eq.mpr tieMerkleParts MerkleParts.vc)
theorem own :ownKnob Tryd.prog.godebug=none:=by kernel_rfl
theorem laidOut :laidOutB Tryd.prog=true:=by kernel_rfl
theorem tables {W:World}(h:laidMetH Tryd.prog Rows.merklePartsRow.laid W):GlobOk gl (full W.heap):=by
 have h0:laidMet Tryd.prog Rows.merklePartsRow.laid W:=h
 have h1:=h0.tail
 refine globOk_tabs (P:=Tryd.prog) glT rfl (fun p hp=> ?_)
 simp only[glT,List.mem_cons,List.not_mem_nil,or_false] at hp
 rcases hp with rfl|rfl
 ·exact⟨ "lightclient/sha.initial",.u32,ShaInitial,by kernel_rfl,Lib.tabIs_of_head (g:=0) (t:=53) (e:=52) (n:=8) (by kernel_rfl) (by kernel_rfl) (by kernel_rfl) (by kernel_rfl) (by kernel_rfl) (by kernel_rfl) h1,rfl⟩
 ·exact⟨ "lightclient/sha.k",.u32,ShaK,by kernel_rfl,Lib.tabIs_of_head (g:=1) (t:=58) (e:=52) (n:=64) (by kernel_rfl) (by kernel_rfl) (by kernel_rfl) (by kernel_rfl) (by kernel_rfl) (by kernel_rfl) h0,rfl⟩
noncomputable def cells0 :Array Value:= #[.int .u32 1116352408,.int .u32 1899447441,.int .u32 3049323471,.int .u32 3921009573,.int .u32 961987163,.int .u32 1508970993,.int .u32 2453635748,.int .u32 2870763221,.int .u32 3624381080,.int .u32 310598401,.int .u32 607225278,.int .u32 1426881987,.int .u32 1925078388,.int .u32 2162078206,.int .u32 2614888103,.int .u32 3248222580,.int .u32 3835390401,.int .u32 4022224774,.int .u32 264347078,.int .u32 604807628,.int .u32 770255983,.int .u32 1249150122,.int .u32 1555081692,.int .u32 1996064986,.int .u32 2554220882,.int .u32 2821834349,.int .u32 2952996808,.int .u32 3210313671,.int .u32 3336571891,.int .u32 3584528711,.int .u32 113926993,.int .u32 338241895,.int .u32 666307205,.int .u32 773529912,.int .u32 1294757372,.int .u32 1396182291,.int .u32 1695183700,.int .u32 1986661051,.int .u32 2177026350,.int .u32 2456956037,.int .u32 2730485921,.int .u32 2820302411,.int .u32 3259730800,.int .u32 3345764771,.int .u32 3516065817,.int .u32 3600352804,.int .u32 4094571909,.int .u32 275423344,.int .u32 430227734,.int .u32 506948616,.int .u32 659060556,.int .u32 883997877,.int .u32 958139571,.int .u32 1322822218,.int .u32 1537002063,.int .u32 1747873779,.int .u32 1955562222,.int .u32 2024104815,.int .u32 2227730452,.int .u32 2361852424,.int .u32 2428436474,.int .u32 2756734187,.int .u32 3204031479,.int .u32 3329325298]
noncomputable def cells1 :Array Value:= #[.int .u32 1779033703,.int .u32 3144134277,.int .u32 1013904242,.int .u32 2773480762,.int .u32 1359893119,.int .u32 2600822924,.int .u32 528734635,.int .u32 1541459225]
noncomputable def laidWorld (os:Os):World:=
 {World.holding Tryd.prog os ⟨#[],#[],[]⟩ with heap:=(((World.holding Tryd.prog os ⟨#[],#[],[]⟩).heap.modify 1 fun| .cells _ t frozen=> .cells cells0 t frozen|o=>o).modify 0 fun| .cells _ t frozen=> .cells cells1 t frozen|o=>o)}
namespace lawMerkleParts
noncomputable def wa :Array Value:= #[(.slice none 0 0),(.slice none 0 0)]
noncomputable def wd {H:Type}:List (DataW H):=[.nil,.nil]
theorem pre_of :∀xs,RngT conMerkleParts.params xs→conMerkleParts.pre xs:=by
 rintro⟨l,w,_⟩ ⟨h1,_⟩;exact rngHashes h1
theorem contract (H:Type)(enc:TypeId×Value→H)(W:World)(base:Nat)(args:Array Value)(ds gs:List (DataW H))(before:List MemPlace)
 (hval:∀(j:Nat) t v,Tryd.f3.params[j]? =some t→args[j]? =some v→Value.okWide Tryd.prog W .any base t v)
 (hW:DataW.Whole enc Tryd.prog Tryd.f3.params.toList Rows.merklePartsSpec.vars false W args.toList ds gs before) (hL:laidMetH Tryd.prog Rows.merklePartsRow.laid W):
 Calls Tryd.prog 3 args W fun e W'=>∃v,e= .returned v∧Rows.merklePartsSpec.post enc Tryd.prog Tryd.f3 false true false false W args v W':=
 law_post (ts:=conMerkleParts.params) (pre:=conMerkleParts.pre) (is:=[22,23]) (tb:=4) okMerkleParts laidOut (by kernel_rfl) (by kernel_rfl) (by kernel_rfl) (by kernel_rfl) rfl
  (fun ds h=>by exact(match ds,h with|[d0,d1],_=>rfl)) hval hW (tables hL) pre_of
theorem laid_met (os:Os):laidMet Tryd.prog Rows.merklePartsRow.laid ((laidWorld os).forCall (fun _ _=>0) ⟨#[],wa,[]⟩).memory:=
 laidMet_of_run' 8 (by kernel_rfl) (by kernel_rfl)
theorem reads (os:Os){H:Type}(enc:TypeId×Value→H):∃places,DataW.whole enc Tryd.prog ((laidWorld os).forCall (fun _ _=>0) ⟨#[],wa,[]⟩).memory Tryd.f3.params.toList Rows.merklePartsSpec.vars false (wa:Array Value).toList 8=some (wd,[],places):=
 ⟨[],by kernel_rfl⟩
theorem lifted (os:Os)(started:os.Started)(H:Type)(enc:TypeId×Value→H)(F:Stop.Interp):
 ReturnsInHanded {} Tryd.checked os 3 .any ((OpenSpec.ofChange Rows.merklePartsSpec).preRow enc Tryd.prog Tryd.f3 Rows.merklePartsRow.domain false Rows.merklePartsRow.laid) (((OpenSpec.ofChange Rows.merklePartsSpec).at F).post enc Tryd.prog Tryd.f3 false true false false):=by
 obtain⟨places,hx⟩:=reads os enc
 refine returnsInHanded_of_row (C:=Tryd.checked) (s:=OpenSpec.ofChange Rows.merklePartsSpec) own started (by kernel_rfl) Tryd.func3
  (witness_row_at (enc:=enc) (C:=Tryd.checked) false (laidWorld os) wa rfl (by kernel_rfl) (by kernel_rfl) (by kernel_rfl)
    (OpenSpec.preRow_of_cond 8 hx (by kernel_rfl) (fun k hk=>by cases hk) (by kernel_rfl) (laid_met os))) ?_
 intro W base args ds gs before hval hW _ _ _ hL _ _
 exact contract H enc W base args ds gs before hval hW hL
theorem said :Rows.MerklePartsSaid:=
 OpenClaim.holds_of_cond 3 Tryd.f3 rfl rfl rfl rfl rfl rfl rfl ⟨rfl,rfl,rfl,rfl,rfl⟩ rfl rfl rfl rfl rfl (by kernel_rfl) Tryd.func3 (by kernel_rfl)
  (of_decide_eq_true (by kernel_rfl)) (by unfold Func.isWrapper;first|(rw[if_pos (by decide+kernel)];kernel_rfl)|(rw[if_neg (by decide+kernel)];exact⟨rfl,rfl⟩))
  (fun os started H enc _ F=>by rw[OpenClaim.pre_eq_preRow];exact lifted os started H enc F)
theorem plain (f:FuncId)(fn:Func)(hf:Tryd.pinned.checked.prog.funcNamed "lightclient/lightclientlaw07.MerkleParts" =some f)(hfn:Tryd.pinned.checked.prog.funcs[f]? =some fn):
 false=Tryd.pinned.checked.prog.looks []∧∀(j:Nat) t,fn.params[j]? =some t→Tryd.pinned.checked.prog.wantsStandIn t=false:=by
 obtain rfl:f=3:=Option.some.inj ((show Tryd.prog.funcNamed "lightclient/lightclientlaw07.MerkleParts" =some 3 by kernel_rfl).symm.trans hf)|>.symm
 obtain rfl:fn=Tryd.f3:=(Option.some.inj (Tryd.func3.symm.trans hfn)).symm
 refine⟨by kernel_rfl,fun j t ht=> ?_⟩
 rw[Tryd.params3] at ht
 have hm:=Array.mem_of_getElem? ht
 have all:(#[22,23]:Array Nat).all (fun t=> !(Tryd.prog.wantsStandIn t))=true:=by kernel_rfl
 rw[Array.all_eq_true'] at all
 have h3:=all t hm
 exact(Bool.not_eq_true' _).mp h3
theorem card :Rows.MerklePartsCardSaid:=
 Claim7.holds_tied_plain_at .later [] _ _ _ _ said (fun _ h=>by cases h) (by kernel_rfl) (fun _ h=>by cases h) merkleParts_row_tie rfl ⟨rfl,rfl⟩ (by kernel_rfl) rfl plain (by kernel_rfl)
end lawMerkleParts
theorem merklePartsHolds :Rows.MerklePartsCardSaid:=lawMerkleParts.card
end Go.Proofs.YtkbnmdjmjjfdmaaDoor
