/- The laws of this seat, for every input: each law returns true and its arguments read behind the call as before; the package-level tables are as the text of the program lays them. -/
import Derived.Test.YtlabkmpegbnilaaGreatDoorCards
import Derived.Test.YtlabkmpegbnilaaGreatDoorTie
import Derived.Test.YtlabkmpegbnilaaGreatDoorLwMemory
import Derived.Test.YtlabkmpegbnilaaGreatDoorSound
import Derived.Test.YtlabkmpegbnilaaGreatDoorEngSV
import Derived.Stop.LaidErr
set_option linter.unusedVariables false
set_option linter.unusedSimpArgs false
namespace Go.Proofs.YtlabkmpegbnilaaGreatDoor
open Go Lc Go.ChangeShapes Go.WideShapes Go.ChangeAt Go.RowKit
set_option maxRecDepth 1000000
noncomputable def conPresyncMemory :Con:={params:=[.int .u8,.slc (.int .u8),.arr 32 (.int .u8),.slc (.slc (Tq5)),.slc (.int .u8)],rets:=[.deep (.bool)],pre:=fun x=>PresyncMemory.pre x.1 x.2.1 x.2.2.1 x.2.2.2.1 x.2.2.2.2.1,fn:=fun x=>(PresyncMemory.fn x.1 x.2.1 x.2.2.1 x.2.2.2.1 x.2.2.2.2.1,())}
noncomputable def NPresyncMemory :Tup conPresyncMemory.params→Notes:=fun x=>{loops:=fun n=>Lc.look n [(7,{see:=[],ann:=fun _=>{frz:=[],keep:=[3,13,32,33],vars:=[(11,.ptr (Tq17)),(12,.ptr (Tq32)),(34,.val (.int .i64))],inv:=PresyncMemory.inv7 x.1 x.2.1 x.2.2.1 x.2.2.2.1 x.2.2.2.2.1,mes:=PresyncMemory.mes7 x.1 x.2.1 x.2.2.1 x.2.2.2.1 x.2.2.2.2.1}})],cuts:=fun n=>Lc.look n [],frz:=fun _=>[]}
theorem tiePresyncMemory :fnVC (env0 tb120 [] 83 []) conPresyncMemory NPresyncMemory (Tryz.f14.body.getD .skip) Tryz.f14.results.toList=PresyncMemory.VC:=by kernel_rfl
theorem okPresyncMemory :Sound Tryz.prog gl 14 conPresyncMemory:=fnS al120 Tryz.func14 (by kernel_rfl) (Eq.mpr tiePresyncMemory PresyncMemory.vc)
theorem own :ownKnob Tryz.prog.godebug=none:=by kernel_rfl
theorem laidOut :laidOutB Tryz.prog=true:=by kernel_rfl
theorem tables {W:World}(h:laidMetH Tryz.prog Rows.presyncMemoryRow.laid W):GlobOk gl (full W.heap):=by
 have h0:laidMet Tryz.prog Rows.presyncMemoryRow.laid W:=h
 have h1:=h0.tail
 refine globOk_tabs (P:=Tryz.prog) glT rfl (fun p hp=> ?_)
 simp only[glT,List.mem_cons,List.not_mem_nil,or_false] at hp
 rcases hp with rfl|rfl
 ·exact⟨ "lightclient/sha.initial",.u32,ShaInitial,by kernel_rfl,Lib.tabIs_of_head (g:=0) (t:=159) (e:=22) (n:=8) (by kernel_rfl) (by kernel_rfl) (by kernel_rfl) (by kernel_rfl) (by kernel_rfl) (by kernel_rfl) h1,rfl⟩
 ·exact⟨ "lightclient/sha.k",.u32,ShaK,by kernel_rfl,Lib.tabIs_of_head (g:=1) (t:=184) (e:=22) (n:=64) (by kernel_rfl) (by kernel_rfl) (by kernel_rfl) (by kernel_rfl) (by kernel_rfl) (by kernel_rfl) h0,rfl⟩
noncomputable def cells0 :Array Value:= #[.int .u32 1116352408,.int .u32 1899447441,.int .u32 3049323471,.int .u32 3921009573,.int .u32 961987163,.int .u32 1508970993,.int .u32 2453635748,.int .u32 2870763221,.int .u32 3624381080,.int .u32 310598401,.int .u32 607225278,.int .u32 1426881987,.int .u32 1925078388,.int .u32 2162078206,.int .u32 2614888103,.int .u32 3248222580,.int .u32 3835390401,.int .u32 4022224774,.int .u32 264347078,.int .u32 604807628,.int .u32 770255983,.int .u32 1249150122,.int .u32 1555081692,.int .u32 1996064986,.int .u32 2554220882,.int .u32 2821834349,.int .u32 2952996808,.int .u32 3210313671,.int .u32 3336571891,.int .u32 3584528711,.int .u32 113926993,.int .u32 338241895,.int .u32 666307205,.int .u32 773529912,.int .u32 1294757372,.int .u32 1396182291,.int .u32 1695183700,.int .u32 1986661051,.int .u32 2177026350,.int .u32 2456956037,.int .u32 2730485921,.int .u32 2820302411,.int .u32 3259730800,.int .u32 3345764771,.int .u32 3516065817,.int .u32 3600352804,.int .u32 4094571909,.int .u32 275423344,.int .u32 430227734,.int .u32 506948616,.int .u32 659060556,.int .u32 883997877,.int .u32 958139571,.int .u32 1322822218,.int .u32 1537002063,.int .u32 1747873779,.int .u32 1955562222,.int .u32 2024104815,.int .u32 2227730452,.int .u32 2361852424,.int .u32 2428436474,.int .u32 2756734187,.int .u32 3204031479,.int .u32 3329325298]
noncomputable def cells1 :Array Value:= #[.int .u32 1779033703,.int .u32 3144134277,.int .u32 1013904242,.int .u32 2773480762,.int .u32 1359893119,.int .u32 2600822924,.int .u32 528734635,.int .u32 1541459225]
noncomputable def laidWorld (os:Os):World:=
 {World.holding Tryz.prog os ⟨#[],#[],[]⟩ with heap:=(((World.holding Tryz.prog os ⟨#[],#[],[]⟩).heap.modify 1 fun| .cells _ t frozen=> .cells cells0 t frozen|o=>o).modify 0 fun| .cells _ t frozen=> .cells cells1 t frozen|o=>o)}
namespace lawPresyncMemory
noncomputable def wa :Array Value:= #[(.int .u8 0),(.slice none 0 0),(.agg #[.int .u8 0,.int .u8 0,.int .u8 0,.int .u8 0,.int .u8 0,.int .u8 0,.int .u8 0,.int .u8 0,.int .u8 0,.int .u8 0,.int .u8 0,.int .u8 0,.int .u8 0,.int .u8 0,.int .u8 0,.int .u8 0,.int .u8 0,.int .u8 0,.int .u8 0,.int .u8 0,.int .u8 0,.int .u8 0,.int .u8 0,.int .u8 0,.int .u8 0,.int .u8 0,.int .u8 0,.int .u8 0,.int .u8 0,.int .u8 0,.int .u8 0,.int .u8 0]),(.slice none 0 0),(.slice none 0 0)]
noncomputable def wd {H:Type}:List (DataW H):=[.lit (.int .u8 0),.nil,.agg [.lit (.int .u8 0),.lit (.int .u8 0),.lit (.int .u8 0),.lit (.int .u8 0),.lit (.int .u8 0),.lit (.int .u8 0),.lit (.int .u8 0),.lit (.int .u8 0),.lit (.int .u8 0),.lit (.int .u8 0),.lit (.int .u8 0),.lit (.int .u8 0),.lit (.int .u8 0),.lit (.int .u8 0),.lit (.int .u8 0),.lit (.int .u8 0),.lit (.int .u8 0),.lit (.int .u8 0),.lit (.int .u8 0),.lit (.int .u8 0),.lit (.int .u8 0),.lit (.int .u8 0),.lit (.int .u8 0),.lit (.int .u8 0),.lit (.int .u8 0),.lit (.int .u8 0),.lit (.int .u8 0),.lit (.int .u8 0),.lit (.int .u8 0),.lit (.int .u8 0),.lit (.int .u8 0),.lit (.int .u8 0)],.nil,.nil]
theorem pre_of :∀xs,RngT conPresyncMemory.params xs→conPresyncMemory.pre xs:=by
 rintro⟨v,s,t,l,o,_⟩ ⟨h1,⟨_,h2⟩,h3,h4,⟨_,h5⟩,_⟩;exact⟨rngU8 h1,rngBytes14 h2,rngHash14 h3,fun x hx=>rngHdrs (h4.2 x hx),rngBytes14 h5⟩
theorem contract (H:Type)(enc:TypeId×Value→H)(W:World)(base:Nat)(args:Array Value)(ds gs:List (DataW H))(before:List MemPlace)
 (hval:∀(j:Nat) t v,Tryz.f14.params[j]? =some t→args[j]? =some v→Value.okWide Tryz.prog W .any base t v)
 (hW:DataW.Whole enc Tryz.prog Tryz.f14.params.toList Rows.presyncMemorySpec.vars false W args.toList ds gs before) (hL:laidMetH Tryz.prog Rows.presyncMemoryRow.laid W):
 Calls Tryz.prog 14 args W fun e W'=>∃v,e= .returned v∧Rows.presyncMemorySpec.post enc Tryz.prog Tryz.f14 false true false false W args v W':=
 law_post (ts:=conPresyncMemory.params) (pre:=conPresyncMemory.pre) (is:=[5,36,24,98,36]) (tb:=4) okPresyncMemory laidOut (by kernel_rfl) (by kernel_rfl) (by kernel_rfl) (by kernel_rfl) rfl
  (fun ds h=>by exact(match ds,h with|[d0,d1,d2,d3,d4],_=>rfl)) hval hW (tables hL) pre_of
theorem laid_met (os:Os):laidMet Tryz.prog Rows.presyncMemoryRow.laid ((laidWorld os).forCall (fun _ _=>0) ⟨#[],wa,[]⟩).memory:=
 laidMet_of_run' 8 (by kernel_rfl) (by kernel_rfl)
theorem reads (os:Os){H:Type}(enc:TypeId×Value→H):∃places,DataW.whole enc Tryz.prog ((laidWorld os).forCall (fun _ _=>0) ⟨#[],wa,[]⟩).memory Tryz.f14.params.toList Rows.presyncMemorySpec.vars false (wa:Array Value).toList 8=some (wd,[],places):=
 ⟨[],by kernel_rfl⟩
theorem lifted (os:Os)(started:os.Started)(H:Type)(enc:TypeId×Value→H)(F:Stop.Interp):
 ReturnsInHanded {} Tryz.checked os 14 .any ((OpenSpec.ofChange Rows.presyncMemorySpec).preRow enc Tryz.prog Tryz.f14 Rows.presyncMemoryRow.domain false Rows.presyncMemoryRow.laid) (((OpenSpec.ofChange Rows.presyncMemorySpec).at F).post enc Tryz.prog Tryz.f14 false true false false):=by
 obtain⟨places,hx⟩:=reads os enc
 refine returnsInHanded_of_row (C:=Tryz.checked) (s:=OpenSpec.ofChange Rows.presyncMemorySpec) own started (by kernel_rfl) Tryz.func14
  (witness_row_at (enc:=enc) (C:=Tryz.checked) false (laidWorld os) wa rfl (by kernel_rfl) (by kernel_rfl) (by kernel_rfl)
    (OpenSpec.preRow_of_cond 8 hx (by kernel_rfl) (fun k hk=>by cases hk) (by kernel_rfl) (laid_met os))) ?_
 intro W base args ds gs before hval hW _ _ _ hL _ _
 exact contract H enc W base args ds gs before hval hW hL
theorem jInPlace :(Rows.presyncMemoryRow.inPlace==Tryz.pinned.checked.prog.inPlace 14)=true:=by kernel_rfl
theorem jUnfollowed :(Rows.presyncMemoryRow.unfollowed==Tryz.pinned.checked.prog.unfollowed 14)=true:=by kernel_rfl
theorem jRecurses :(Rows.presyncMemoryRow.recurses==Tryz.pinned.checked.prog.recurses 14)=true:=by kernel_rfl
theorem jNamed :(Rows.presyncMemoryRow.named==Tryz.pinned.checked.prog.varsNamed 14)=true:=by kernel_rfl
end lawPresyncMemory
end Go.Proofs.YtlabkmpegbnilaaGreatDoor
