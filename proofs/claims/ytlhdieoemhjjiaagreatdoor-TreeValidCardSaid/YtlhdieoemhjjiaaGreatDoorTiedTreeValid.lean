/- The laws of this seat, for every input: each law returns true and its arguments read behind the call as before; the package-level tables are as the text of the program lays them. -/
import Derived.Test.YtlhdieoemhjjiaaGreatDoorCards
import Derived.Test.YtlhdieoemhjjiaaGreatDoorTie
import Derived.Test.YtlhdieoemhjjiaaGreatDoorLtValid
import Derived.Test.YtlhdieoemhjjiaaGreatDoorSound
import Derived.Test.YtlhdieoemhjjiaaGreatDoorEngSV
import Derived.Stop.LaidErr
set_option linter.unusedVariables false
set_option linter.unusedSimpArgs false
namespace Go.Proofs.YtlhdieoemhjjiaaGreatDoor
open Go Lc Go.ChangeShapes Go.WideShapes Go.ChangeAt Go.RowKit
set_option maxRecDepth 1000000
noncomputable def conTreeValid :Con:={params:=[Tq17,Tq23,.int .u8,.slc (.int .u8),.int .u8,.int .u8],rets:=[.deep (.bool)],pre:=fun x=>TreeValid.pre x.1 x.2.1 x.2.2.1 x.2.2.2.1 x.2.2.2.2.1 x.2.2.2.2.2.1,fn:=fun x=>(TreeValid.fn x.1 x.2.1 x.2.2.1 x.2.2.2.1 x.2.2.2.2.1 x.2.2.2.2.2.1,())}
noncomputable def NTreeValid :Tup conTreeValid.params→Notes:=fun _=>{loops:=fun n=>Lc.look n [],cuts:=fun n=>Lc.look n [],frz:=fun n=>(Lc.look n [(27,[18])]).getD []}
theorem tieTreeValid :fnVC (env0 tb119 [66,150] 159 []) conTreeValid NTreeValid (Tryz.f3.body.getD .skip) Tryz.f3.results.toList=TreeValid.VC:=by kernel_rfl
theorem okTreeValid :Sound Tryz.prog gl 3 conTreeValid:=fnS al119 Tryz.func3 (by kernel_rfl) (Eq.mpr tieTreeValid TreeValid.vc)
theorem own :ownKnob Tryz.prog.godebug=none:=by kernel_rfl
theorem laidOut :laidOutB Tryz.prog=true:=by kernel_rfl
theorem tables {W:World}(h:laidMetH Tryz.prog Rows.treeValidRow.laid W):GlobOk gl (full W.heap):=by
 have h0:laidMet Tryz.prog Rows.treeValidRow.laid W:=h
 have h1:=h0.tail
 refine globOk_tabs (P:=Tryz.prog) glT rfl (fun p hp=> ?_)
 simp only[glT,List.mem_cons,List.not_mem_nil,or_false] at hp
 rcases hp with rfl|rfl
 ·exact⟨ "lightclient/sha.initial",.u32,ShaInitial,by kernel_rfl,Lib.tabIs_of_head (g:=0) (t:=129) (e:=22) (n:=8) (by kernel_rfl) (by kernel_rfl) (by kernel_rfl) (by kernel_rfl) (by kernel_rfl) (by kernel_rfl) h1,rfl⟩
 ·exact⟨ "lightclient/sha.k",.u32,ShaK,by kernel_rfl,Lib.tabIs_of_head (g:=1) (t:=144) (e:=22) (n:=64) (by kernel_rfl) (by kernel_rfl) (by kernel_rfl) (by kernel_rfl) (by kernel_rfl) (by kernel_rfl) h0,rfl⟩
noncomputable def cells0 :Array Value:= #[.int .u32 1116352408,.int .u32 1899447441,.int .u32 3049323471,.int .u32 3921009573,.int .u32 961987163,.int .u32 1508970993,.int .u32 2453635748,.int .u32 2870763221,.int .u32 3624381080,.int .u32 310598401,.int .u32 607225278,.int .u32 1426881987,.int .u32 1925078388,.int .u32 2162078206,.int .u32 2614888103,.int .u32 3248222580,.int .u32 3835390401,.int .u32 4022224774,.int .u32 264347078,.int .u32 604807628,.int .u32 770255983,.int .u32 1249150122,.int .u32 1555081692,.int .u32 1996064986,.int .u32 2554220882,.int .u32 2821834349,.int .u32 2952996808,.int .u32 3210313671,.int .u32 3336571891,.int .u32 3584528711,.int .u32 113926993,.int .u32 338241895,.int .u32 666307205,.int .u32 773529912,.int .u32 1294757372,.int .u32 1396182291,.int .u32 1695183700,.int .u32 1986661051,.int .u32 2177026350,.int .u32 2456956037,.int .u32 2730485921,.int .u32 2820302411,.int .u32 3259730800,.int .u32 3345764771,.int .u32 3516065817,.int .u32 3600352804,.int .u32 4094571909,.int .u32 275423344,.int .u32 430227734,.int .u32 506948616,.int .u32 659060556,.int .u32 883997877,.int .u32 958139571,.int .u32 1322822218,.int .u32 1537002063,.int .u32 1747873779,.int .u32 1955562222,.int .u32 2024104815,.int .u32 2227730452,.int .u32 2361852424,.int .u32 2428436474,.int .u32 2756734187,.int .u32 3204031479,.int .u32 3329325298]
noncomputable def cells1 :Array Value:= #[.int .u32 1779033703,.int .u32 3144134277,.int .u32 1013904242,.int .u32 2773480762,.int .u32 1359893119,.int .u32 2600822924,.int .u32 528734635,.int .u32 1541459225]
noncomputable def laidWorld (os:Os):World:=
 {World.holding Tryz.prog os ⟨#[],#[],[]⟩ with heap:=(((World.holding Tryz.prog os ⟨#[],#[],[]⟩).heap.modify 1 fun| .cells _ t frozen=> .cells cells0 t frozen|o=>o).modify 0 fun| .cells _ t frozen=> .cells cells1 t frozen|o=>o)}
namespace lawTreeValid
noncomputable def wa :Array Value:= #[(.agg #[.int .u32 0,.int .u8 0,.int .u8 0,.int .u8 0,.int .u8 0,.int .u8 0,.int .u8 0,.int .u8 0,.int .u8 0,.int .u8 0,.int .u8 0,.int .u8 0,.int .u8 0,.int .u8 0,.int .u8 0,.int .u8 0,.int .u8 0,.int .u8 0,.int .u8 0,.int .u8 0,.int .u8 0,.int .u8 0,.int .u8 0,.int .u8 0,.int .u8 0,.int .u8 0,.int .u8 0,.int .u8 0,.int .u8 0,.int .u8 0,.int .u8 0,.int .u8 0,.int .u8 0,.int .u8 0,.int .u8 0,.int .u8 0,.int .u8 0,.int .u8 0,.int .u8 0,.int .u8 0,.int .u8 0,.int .u8 0,.int .u8 0,.int .u8 0,.int .u8 0,.int .u8 0,.int .u8 0,.int .u8 0,.int .u8 0,.int .u8 0,.int .u8 0,.int .u8 0,.int .u8 0,.int .u8 0,.int .u8 0,.int .u8 0,.int .u8 0,.int .u8 0,.int .u8 0,.int .u8 0,.int .u8 0,.int .u8 0,.int .u8 0,.int .u8 0,.int .u8 0,.int .u32 0,.int .u32 0,.int .u32 0,.int .u64 0,.int .u64 0,.int .u64 0,.int .u64 0,.int .i64 0,.int .u32 0,.int .u32 0,.int .u32 0,.slice none 0 0,.int .i64 0,.int .i64 0,.int .i64 0]),(.agg #[.slice none 0 0,.int .i64 0]),(.int .u8 0),(.slice none 0 0),(.int .u8 0),(.int .u8 0)]
noncomputable def wd {H:Type}:List (DataW H):=[.agg [.agg [.lit (.int .u32 0),.agg [.lit (.int .u8 0),.lit (.int .u8 0),.lit (.int .u8 0),.lit (.int .u8 0),.lit (.int .u8 0),.lit (.int .u8 0),.lit (.int .u8 0),.lit (.int .u8 0),.lit (.int .u8 0),.lit (.int .u8 0),.lit (.int .u8 0),.lit (.int .u8 0),.lit (.int .u8 0),.lit (.int .u8 0),.lit (.int .u8 0),.lit (.int .u8 0),.lit (.int .u8 0),.lit (.int .u8 0),.lit (.int .u8 0),.lit (.int .u8 0),.lit (.int .u8 0),.lit (.int .u8 0),.lit (.int .u8 0),.lit (.int .u8 0),.lit (.int .u8 0),.lit (.int .u8 0),.lit (.int .u8 0),.lit (.int .u8 0),.lit (.int .u8 0),.lit (.int .u8 0),.lit (.int .u8 0),.lit (.int .u8 0)],.agg [.lit (.int .u8 0),.lit (.int .u8 0),.lit (.int .u8 0),.lit (.int .u8 0),.lit (.int .u8 0),.lit (.int .u8 0),.lit (.int .u8 0),.lit (.int .u8 0),.lit (.int .u8 0),.lit (.int .u8 0),.lit (.int .u8 0),.lit (.int .u8 0),.lit (.int .u8 0),.lit (.int .u8 0),.lit (.int .u8 0),.lit (.int .u8 0),.lit (.int .u8 0),.lit (.int .u8 0),.lit (.int .u8 0),.lit (.int .u8 0),.lit (.int .u8 0),.lit (.int .u8 0),.lit (.int .u8 0),.lit (.int .u8 0),.lit (.int .u8 0),.lit (.int .u8 0),.lit (.int .u8 0),.lit (.int .u8 0),.lit (.int .u8 0),.lit (.int .u8 0),.lit (.int .u8 0),.lit (.int .u8 0)],.lit (.int .u32 0),.lit (.int .u32 0),.lit (.int .u32 0)],.agg [.lit (.int .u64 0),.lit (.int .u64 0),.lit (.int .u64 0),.lit (.int .u64 0)],.lit (.int .i64 0),.lit (.int .u32 0),.lit (.int .u32 0),.lit (.int .u32 0),.nil,.lit (.int .i64 0),.lit (.int .i64 0),.lit (.int .i64 0)],.agg [.nil,.lit (.int .i64 0)],.lit (.int .u8 0),.nil,.lit (.int .u8 0),.lit (.int .u8 0)]
theorem pre_of :∀xs,RngT conTreeValid.params xs→conTreeValid.pre xs:=by
 rintro⟨p,t,v,l,w,n,_⟩ ⟨h1,h2,h3,⟨_,h4⟩,h5,h6,_⟩;exact⟨rngPar14 h1,rngTre h2,rngU8 h3,rngBytes14 h4,rngU8 h5,rngU8 h6⟩
theorem contract (H:Type)(enc:TypeId×Value→H)(W:World)(base:Nat)(args:Array Value)(ds gs:List (DataW H))(before:List MemPlace)
 (hval:∀(j:Nat) t v,Tryz.f3.params[j]? =some t→args[j]? =some v→Value.okWide Tryz.prog W .any base t v)
 (hW:DataW.Whole enc Tryz.prog Tryz.f3.params.toList Rows.treeValidSpec.vars false W args.toList ds gs before) (hL:laidMetH Tryz.prog Rows.treeValidRow.laid W):
 Calls Tryz.prog 3 args W fun e W'=>∃v,e= .returned v∧Rows.treeValidSpec.post enc Tryz.prog Tryz.f3 false true false false W args v W':=
 law_post (ts:=conTreeValid.params) (pre:=conTreeValid.pre) (is:=[32,35,5,36,5,5]) (tb:=4) okTreeValid laidOut (by kernel_rfl) (by kernel_rfl) (by kernel_rfl) (by kernel_rfl) rfl
  (fun ds h=>by exact(match ds,h with|[d0,d1,d2,d3,d4,d5],_=>rfl)) hval hW (tables hL) pre_of
theorem laid_met (os:Os):laidMet Tryz.prog Rows.treeValidRow.laid ((laidWorld os).forCall (fun _ _=>0) ⟨#[],wa,[]⟩).memory:=
 laidMet_of_run' 8 (by kernel_rfl) (by kernel_rfl)
theorem reads (os:Os){H:Type}(enc:TypeId×Value→H):∃places,DataW.whole enc Tryz.prog ((laidWorld os).forCall (fun _ _=>0) ⟨#[],wa,[]⟩).memory Tryz.f3.params.toList Rows.treeValidSpec.vars false (wa:Array Value).toList 8=some (wd,[],places):=
 ⟨[],by kernel_rfl⟩
theorem lifted (os:Os)(started:os.Started)(H:Type)(enc:TypeId×Value→H)(F:Stop.Interp):
 ReturnsInHanded {} Tryz.checked os 3 .any ((OpenSpec.ofChange Rows.treeValidSpec).preRow enc Tryz.prog Tryz.f3 Rows.treeValidRow.domain false Rows.treeValidRow.laid) (((OpenSpec.ofChange Rows.treeValidSpec).at F).post enc Tryz.prog Tryz.f3 false true false false):=by
 obtain⟨places,hx⟩:=reads os enc
 refine returnsInHanded_of_row (C:=Tryz.checked) (s:=OpenSpec.ofChange Rows.treeValidSpec) own started (by kernel_rfl) Tryz.func3
  (witness_row_at (enc:=enc) (C:=Tryz.checked) false (laidWorld os) wa rfl (by kernel_rfl) (by kernel_rfl) (by kernel_rfl)
    (OpenSpec.preRow_of_cond 8 hx (by kernel_rfl) (fun k hk=>by cases hk) (by kernel_rfl) (laid_met os))) ?_
 intro W base args ds gs before hval hW _ _ _ hL _ _
 exact contract H enc W base args ds gs before hval hW hL
theorem jInPlace :(Rows.treeValidRow.inPlace==Tryz.pinned.checked.prog.inPlace 3)=true:=by kernel_rfl
theorem jUnfollowed :(Rows.treeValidRow.unfollowed==Tryz.pinned.checked.prog.unfollowed 3)=true:=by kernel_rfl
theorem jRecurses :(Rows.treeValidRow.recurses==Tryz.pinned.checked.prog.recurses 3)=true:=by kernel_rfl
theorem jNamed :(Rows.treeValidRow.named==Tryz.pinned.checked.prog.varsNamed 3)=true:=by kernel_rfl
end lawTreeValid
end Go.Proofs.YtlhdieoemhjjiaaGreatDoor
