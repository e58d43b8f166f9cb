/- The definitions alone. -/
import Derived.Test.YtlhdieoemhjjiaaGreatDoorEngSV
import Derived.Test.YtlhdieoemhjjiaaGreatDoorTargets
set_option linter.unusedVariables false
set_option linter.unusedSimpArgs false
namespace Lc
def Clone.pre (l:List Int):Prop:=l.length≤1000
def Clone.fn (l:List Int):List Int:=l
end Lc
set_option maxRecDepth 100000
namespace Lc
open Go
abbrev b32 :List Int→List Int→Bool:=Ty.beq (.arr 32 (.int .u8))
def zc :Cx:=(0,List.replicate 32 0,0,0,[],())
def PGood (p:Par):Prop:=ParOk p∧HdrOk p.1∧U32 p.2.2.2.2.1∧U32 p.2.2.2.2.2.1
def CGood (c:Cx):Prop:=CxOk c∧HOk c.2.1∧c.2.2.2.2.1.length≤1000
theorem zc_good :CGood zc:=⟨⟨U32.zero,U32.zero,fun t h=>by cases h⟩,HOk.zero,by simp[zc]⟩
def fitsFn (p:Par)(c:Cx):Bool:=validFn p&&(decide (0≤c.1)&&(decide (c.1≤16777216)&&decide ((c.2.2.2.2.1.length:Int)=if 11<c.1+1 then 11 else c.1+1)))
theorem fits_iff (p:Par)(c:Cx):fitsFn p c=true↔validFn p=true∧0≤c.1∧c.1≤16777216∧(c.2.2.2.2.1.length:Int)=if 11<c.1+1 then 11 else c.1+1:=by
 simp only[fitsFn,Bool.and_eq_true,decide_eq_true_eq]
def UFits.pre (p:Par)(c:Cx):Prop:=ParOk p
def UFits.fn (p:Par)(c:Cx):Bool:=fitsFn p c
def UFits.VC :Prop:=∀(x0:Par) (x1:Cx),UFits.pre x0 x1→RValid.pre x0∧((RValid.fn x0)=true→(RValid.fn x0)=true)∧((RValid.fn x0)=true→(RValid.fn x0)=true)∧((RValid.fn x0)=true→(RValid.fn x0)=true)∧(let v11:Bool:=(bif (RValid.fn x0) then(decide (x1.1≥(0:Int))) else false)
 (v11=true→v11=true)∧(v11=true→v11=true)∧(v11=true→v11=true)∧((bif v11 then(decide (x1.1≤(16777216:Int))) else false)=true→(bif v11 then(decide (x1.1≤(16777216:Int))) else false)=true)∧((bif v11 then(decide (x1.1≤(16777216:Int))) else false)=true→(bif v11 then(decide (x1.1≤(16777216:Int))) else false)=true)∧((bif v11 then(decide (x1.1≤(16777216:Int))) else false)=true→(bif v11 then(decide (x1.1≤(16777216:Int))) else false)=true)∧((bif v11 then(decide (x1.1≤(16777216:Int))) else false)=true→(bif v11 then(decide (x1.1≤(16777216:Int))) else false)=true)∧((bif v11 then(decide (x1.1≤(16777216:Int))) else false)=true→(bif v11 then(decide (x1.1≤(16777216:Int))) else false)=true)∧((bif v11 then(decide (x1.1≤(16777216:Int))) else false)=true→(bif v11 then(decide (x1.1≤(16777216:Int))) else false)=true)∧((bif v11 then(decide (x1.1≤(16777216:Int))) else false)=true→(bif v11 then(decide (x1.1≤(16777216:Int))) else false)=true)∧((bif v11 then(decide (x1.1≤(16777216:Int))) else false)=true→(bif v11 then(decide (x1.1≤(16777216:Int))) else false)=true)∧(let v26:Bool:=(bif (bif v11 then(decide (x1.1≤(16777216:Int))) else false) then((x1.2.2.2.2.1.length:Int)==(if(11:Int)<(IntKind.i64.wrap (x1.1+(1:Int))) then(11:Int) else(IntKind.i64.wrap (x1.1+(1:Int))))) else false)
 (Ret1 v26 (UFits.fn x0 x1))))
theorem fits_eq (v:Bool)(p:Par)(c:Cx)(hv:v=validFn p):
 (bif (bif (bif v then decide (c.1≥0) else false) then decide (c.1≤16777216) else false) then(c.2.2.2.2.1.length:Int)==(if(11:Int)<IntKind.i64.wrap (c.1+1) then(11:Int) else IntKind.i64.wrap (c.1+1)) else false)=fitsFn p c:=by
 subst hv
 unfold fitsFn
 by_cases h0:0≤c.1
 ·by_cases h1:c.1≤16777216
  ·rw[i64w (by omega) (by omega)]
   cases validFn p<;>simp[h0,h1]<;>rfl
  ·cases validFn p<;>simp[h0,h1]
 ·cases validFn p<;>simp[h0]
theorem UFits.vc :UFits.VC:=by
 intro p c hp
 simp only[imp_self,true_and,RValid.fn]
 exact⟨hp,ret1.2 (fits_eq _ p c rfl)⟩
def VFits.pre (p:Par)(c:Cx):Prop:=ParOk p
def VFits.fn (p:Par)(c:Cx):Bool:=fitsFn p c
def VFits.VC :Prop:=∀(x0:Par) (x1:Cx),VFits.pre x0 x1→QValid.pre x0∧((QValid.fn x0)=true→(QValid.fn x0)=true)∧((QValid.fn x0)=true→(QValid.fn x0)=true)∧((QValid.fn x0)=true→(QValid.fn x0)=true)∧(let v11:Bool:=(bif (QValid.fn x0) then(decide (x1.1≥(0:Int))) else false)
 (v11=true→v11=true)∧(v11=true→v11=true)∧(v11=true→v11=true)∧((bif v11 then(decide (x1.1≤(16777216:Int))) else false)=true→(bif v11 then(decide (x1.1≤(16777216:Int))) else false)=true)∧((bif v11 then(decide (x1.1≤(16777216:Int))) else false)=true→(bif v11 then(decide (x1.1≤(16777216:Int))) else false)=true)∧((bif v11 then(decide (x1.1≤(16777216:Int))) else false)=true→(bif v11 then(decide (x1.1≤(16777216:Int))) else false)=true)∧((bif v11 then(decide (x1.1≤(16777216:Int))) else false)=true→(bif v11 then(decide (x1.1≤(16777216:Int))) else false)=true)∧((bif v11 then(decide (x1.1≤(16777216:Int))) else false)=true→(bif v11 then(decide (x1.1≤(16777216:Int))) else false)=true)∧((bif v11 then(decide (x1.1≤(16777216:Int))) else false)=true→(bif v11 then(decide (x1.1≤(16777216:Int))) else false)=true)∧((bif v11 then(decide (x1.1≤(16777216:Int))) else false)=true→(bif v11 then(decide (x1.1≤(16777216:Int))) else false)=true)∧((bif v11 then(decide (x1.1≤(16777216:Int))) else false)=true→(bif v11 then(decide (x1.1≤(16777216:Int))) else false)=true)∧(let v26:Bool:=(bif (bif v11 then(decide (x1.1≤(16777216:Int))) else false) then((x1.2.2.2.2.1.length:Int)==(if(11:Int)<(IntKind.i64.wrap (x1.1+(1:Int))) then(11:Int) else(IntKind.i64.wrap (x1.1+(1:Int))))) else false)
 (Ret1 v26 (VFits.fn x0 x1))))
theorem VFits.vc :VFits.VC:=by
 intro p c hp
 simp only[imp_self,true_and,QValid.fn]
 exact⟨hp,ret1.2 (fits_eq _ p c rfl)⟩
def roomFn (p:Par)(c:Cx):Int:=if fitsFn p c=false then 6 else if c.1=16777216 then 4 else 0
theorem room_ok {p:Par}{c:Cx}(h:roomFn p c=0):fitsFn p c=true∧c.1≠16777216:=by
 unfold roomFn at h
 split at h
 ·omega
 ·split at h
  ·omega
  ·rename_i h1 h2;exact⟨by simpa using h1,h2⟩
def URoom.pre (p:Par)(c:Cx):Prop:=ParOk p
def URoom.fn (p:Par)(c:Cx):Int:=roomFn p c
def URoom.VC :Prop:=∀(x0:Par) (x1:Cx),URoom.pre x0 x1→UFits.pre x0 x1∧(((!(UFits.fn x0 x1))=true→(Ret1 (6:Int) (URoom.fn x0 x1)))∧((!(UFits.fn x0 x1))=false→(((x1.1==(16777216:Int))=true→(Ret1 (4:Int) (URoom.fn x0 x1)))∧((x1.1==(16777216:Int))=false→(Ret1 (0:Int) (URoom.fn x0 x1))))))
theorem URoom.vc :URoom.VC:=by
 intro p c hp
 simp only[UFits.fn,URoom.fn,ret1]
 refine⟨hp,fun h=> ?_,fun h=>⟨fun h2=> ?_,fun h2=> ?_⟩⟩
 ·rw[roomFn,if_pos (by simpa using h)]
 ·rw[roomFn,if_neg (by simpa using h),if_pos (by simpa using h2)]
 ·rw[roomFn,if_neg (by simpa using h),if_neg (by simpa using h2)]
noncomputable def startFn (p:Par):Cx×Int:=if validFn p=false then(zc,6) else((0,hashH p.1,p.1.2.2.2.2.1,p.1.2.2.2.1,[p.1.2.2.2.1],()),0)
def UStart.pre (p:Par):Prop:=PGood p
noncomputable def UStart.fn (p:Par):Cx×Int:=startFn p
def UStart.VC :Prop:=∀(x0:Par),UStart.pre x0→(let v2h:Cx:=((0:Int),((List.replicate 32 (0:Int)),((0:Int),((0:Int),([],())))))
 RValid.pre x0∧(((!(RValid.fn x0))=true→(let v8:Cx:=((0:Int),((List.replicate 32 (0:Int)),((0:Int),((0:Int),([],())))))
 (Ret2 v8 (6:Int) (UStart.fn x0))))∧((!(RValid.fn x0))=false→(let v4h:Hdr:=((0:Int),((List.replicate 32 (0:Int)),((List.replicate 32 (0:Int)),((0:Int),((0:Int),((0:Int),()))))))
 BHash.pre x0.1∧(let v20:Cx:=((0:Int),((BHash.fn x0.1),(x0.1.2.2.2.2.1,(x0.1.2.2.2.1,([x0.1.2.2.2.1],())))))
 (Ret2 v20 (0:Int) (UStart.fn x0)))))))
theorem UStart.vc :UStart.VC:=by
 intro p hp
 simp only[RValid.fn,UStart.fn,ret2,BHash.fn]
 refine⟨hp.1,fun h=> ?_,fun h=>⟨hp.2.1, ?_⟩⟩
 ·rw[startFn,if_pos (by simpa using h)];rfl
 ·rw[startFn,if_neg (by simpa using h)]
def VStart.pre (p:Par):Prop:=PGood p
noncomputable def VStart.fn (p:Par):Cx×Int:=startFn p
def VStart.VC :Prop:=∀(x0:Par),VStart.pre x0→(let v2h:Cx:=((0:Int),((List.replicate 32 (0:Int)),((0:Int),((0:Int),([],())))))
 QValid.pre x0∧(((!(QValid.fn x0))=true→(let v8:Cx:=((0:Int),((List.replicate 32 (0:Int)),((0:Int),((0:Int),([],())))))
 (Ret2 v8 (6:Int) (VStart.fn x0))))∧((!(QValid.fn x0))=false→(let v4h:Hdr:=((0:Int),((List.replicate 32 (0:Int)),((List.replicate 32 (0:Int)),((0:Int),((0:Int),((0:Int),()))))))
 RHdr.pre x0.1∧(let v20:Cx:=((0:Int),((RHdr.fn x0.1),(x0.1.2.2.2.2.1,(x0.1.2.2.2.1,([x0.1.2.2.2.1],())))))
 (Ret2 v20 (0:Int) (VStart.fn x0)))))))
theorem VStart.vc :VStart.VC:=by
 intro p hp
 simp only[QValid.fn,VStart.fn,ret2,RHdr.fn]
 refine⟨hp.1,fun h=> ?_,fun h=>⟨hp.2.1, ?_⟩⟩
 ·rw[startFn,if_pos (by simpa using h)];rfl
 ·rw[startFn,if_neg (by simpa using h)]
theorem start_good {p:Par}(hp:PGood p):CGood (startFn p).1:=by
 unfold startFn
 split
 ·exact zc_good
 ·exact⟨⟨hp.2.1.2.2.2.2.1,hp.2.1.2.2.2.1,fun t ht=>by rw[List.mem_singleton.1 ht];exact hp.2.1.2.2.2.1⟩,hashH_ok _,by simp⟩
def nextT (l:List Int)(t:Int):List Int:=if l.length=11 then l.drop 1++[t] else l++[t]
noncomputable def advFn (p:Par)(c:Cx)(h:Hdr):Cx×Int:=
 if roomFn p c≠0 then(zc,roomFn p c) else((c.1+1,hashH h,h.2.2.2.2.1,if Int.tmod (c.1+1) p.2.2.1=0 then h.2.2.2.1 else c.2.2.2.1,nextT c.2.2.2.2.1 h.2.2.2.1,()),0)
def AdvPre (p:Par)(c:Cx)(h:Hdr):Prop:=PGood p∧CGood c∧HdrOk h
theorem nextT_u32 {l:List Int}{t:Int}(hl:∀x,x∈l→U32 x)(ht:U32 t):∀x,x∈nextT l t→U32 x:=by
 intro x hx
 unfold nextT at hx
 split at hx
 ·rcases List.mem_append.1 hx with h|h
  ·exact hl x (List.mem_of_mem_drop h)
  ·rw[List.mem_singleton.1 h];exact ht
 ·rcases List.mem_append.1 hx with h|h
  ·exact hl x h
  ·rw[List.mem_singleton.1 h];exact ht
theorem nextT_len {l:List Int}(t:Int):(nextT l t).length=if l.length=11 then 11 else l.length+1:=by
 unfold nextT
 split
 ·rename_i h;simp[h]
 ·simp
theorem adv_good {p:Par}{c:Cx}{h:Hdr}(hp:AdvPre p c h):CGood (advFn p c h).1:=by
 unfold advFn
 split
 ·exact zc_good
 ·rename_i hr
  obtain⟨hf,_⟩:=room_ok (by omega:roomFn p c=0)
  have hl:=((fits_iff p c).1 hf).2.2.2
  refine⟨⟨hp.2.2.2.2.2.2.1, ?_,nextT_u32 hp.2.1.1.2.2 hp.2.2.2.2.2.1⟩,hashH_ok _, ?_⟩
  ·show U32 (if _ then _ else _)
   split
   ·exact hp.2.2.2.2.2.1
   ·exact hp.2.1.1.2.1
  ·show(nextT _ _).length≤1000
   rw[nextT_len];split
   ·omega
   ·split at hl<;>omega
def UAdvance.pre (p:Par)(c:Cx)(h:Hdr):Prop:=AdvPre p c h
noncomputable def UAdvance.fn (p:Par)(c:Cx)(h:Hdr):Cx×Int:=advFn p c h
def UAdvance.VC :Prop:=∀(x0:Par) (x1:Cx) (x2:Hdr),UAdvance.pre x0 x1 x2→(let v6h:Cx:=((0:Int),((List.replicate 32 (0:Int)),((0:Int),((0:Int),([],())))))
 URoom.pre x0 x1∧((((URoom.fn x0 x1) !=(0:Int))=true→(let v17:Cx:=((0:Int),((List.replicate 32 (0:Int)),((0:Int),((0:Int),([],())))))
 (Ret2 v17 (URoom.fn x0 x1) (UAdvance.fn x0 x1 x2))))∧(((URoom.fn x0 x1) !=(0:Int))=false→(let v24:Int:=(IntKind.i64.wrap ((IntKind.i64.wrap ((x1.2.2.2.2.1.length:Int)+(1:Int)))-(11:Int)))
 BHash.pre x2∧(let v35:Cx:=((IntKind.i64.wrap (x1.1+(1:Int))),((BHash.fn x2),(x2.2.2.2.2.1,(x1.2.2.2.1,([],())))))
 (let v11h:Cx:=((0:Int),((List.replicate 32 (0:Int)),((0:Int),((0:Int),([],())))))
 x0.2.2.1≠0∧((((Int.tmod v35.1 x0.2.2.1)==(0:Int))=true→(0≤(if v24>(0:Int) then v24 else(0:Int))∧(if v24>(0:Int) then v24 else(0:Int))≤(x1.2.2.2.2.1.length:Int)∧(x1.2.2.2.2.1.length:Int)=(x1.2.2.2.2.1.length:Int)∧(x1.2.2.2.2.1.length:Int)≤(x1.2.2.2.2.1.length:Int))∧0<[x2.2.2.2.1].length∧Room (((x1.2.2.2.2.1.drop (Int.toNat (if v24>(0:Int) then v24 else(0:Int)))).take ((Int.toNat (x1.2.2.2.2.1.length:Int))-(Int.toNat (if v24>(0:Int) then v24 else(0:Int))))).length+[x2.2.2.2.1].length) 4∧(let v54h:(List Int):=(((x1.2.2.2.2.1.drop (Int.toNat (if v24>(0:Int) then v24 else(0:Int)))).take ((Int.toNat (x1.2.2.2.2.1.length:Int))-(Int.toNat (if v24>(0:Int) then v24 else(0:Int)))))++[x2.2.2.2.1])
 (let v11_1h:Cx:=(v35.1,(v35.2.1,(v35.2.2.1,(x2.2.2.2.1,(v54h,v35.2.2.2.2.2)))))
 (Ret2 v11_1h (0:Int) (UAdvance.fn x0 x1 x2)))))∧(((Int.tmod v35.1 x0.2.2.1)==(0:Int))=false→(0≤(if v24>(0:Int) then v24 else(0:Int))∧(if v24>(0:Int) then v24 else(0:Int))≤(x1.2.2.2.2.1.length:Int)∧(x1.2.2.2.2.1.length:Int)=(x1.2.2.2.2.1.length:Int)∧(x1.2.2.2.2.1.length:Int)≤(x1.2.2.2.2.1.length:Int))∧0<[x2.2.2.2.1].length∧Room (((x1.2.2.2.2.1.drop (Int.toNat (if v24>(0:Int) then v24 else(0:Int)))).take ((Int.toNat (x1.2.2.2.2.1.length:Int))-(Int.toNat (if v24>(0:Int) then v24 else(0:Int))))).length+[x2.2.2.2.1].length) 4∧(let v54_1h:(List Int):=(((x1.2.2.2.2.1.drop (Int.toNat (if v24>(0:Int) then v24 else(0:Int)))).take ((Int.toNat (x1.2.2.2.2.1.length:Int))-(Int.toNat (if v24>(0:Int) then v24 else(0:Int)))))++[x2.2.2.2.1])
 (let v11_2h:Cx:=(v35.1,(v35.2.1,(v35.2.2.1,(v35.2.2.2.1,(v54_1h,v35.2.2.2.2.2)))))
 (Ret2 v11_2h (0:Int) (UAdvance.fn x0 x1 x2))))))))))))
theorem room_facts {p:Par}{c:Cx}(hr:roomFn p c=0):p.2.2.1≠0∧IntKind.i64.wrap (c.1+1)=c.1+1∧1≤c.2.2.2.2.1.length∧c.2.2.2.2.1.length≤11∧0≤c.1∧c.1<16777216∧validFn p=true∧(c.2.2.2.2.1.length:Int)=if 11<c.1+1 then 11 else c.1+1:=by
 obtain⟨hf,hm⟩:=room_ok hr
 obtain⟨h1,h2,h3,h4⟩:=(fits_iff p c).1 hf
 have hv:=(valid_iff p).1 h1
 refine⟨by omega,i64w (by omega) (by omega), ?_, ?_,h2,by omega,h1,h4⟩
 ·split at h4<;>omega
 ·split at h4<;>omega
theorem UAdvance.vc :UAdvance.VC:=by
 intro p c h hp
 simp only[URoom.fn,UAdvance.fn,ret2,BHash.fn]
 refine⟨hp.1.1,fun hr=> ?_,fun hr=> ?_⟩
 ·rw[advFn,if_pos (by simpa using hr)];rfl
 have hr:roomFn p c=0:=by simpa using hr
 obtain⟨f1,f2,f3,f4,f5,f6,f7,f8⟩:=room_facts hr
 have e1:IntKind.i64.wrap ((c.2.2.2.2.1.length:Int)+1)=(c.2.2.2.2.1.length:Int)+1:=i64w (by omega) (by omega)
 have e2:IntKind.i64.wrap ((c.2.2.2.2.1.length:Int)+1-11)=(c.2.2.2.2.1.length:Int)+1-11:=i64w (by omega) (by omega)
 simp only[e1,e2,f2]
 have hk:∃k:Nat,(if(c.2.2.2.2.1.length:Int)+1-11>0 then(c.2.2.2.2.1.length:Int)+1-11 else 0)=(k:Int)∧k≤c.2.2.2.2.1.length∧c.2.2.2.2.1.drop k++[h.2.2.2.1]=nextT c.2.2.2.2.1 h.2.2.2.1:=by
  by_cases h11:c.2.2.2.2.1.length=11
  ·exact⟨1,by rw[if_pos (by omega)];omega,by omega,by rw[nextT,if_pos h11]⟩
  ·exact⟨0,by rw[if_neg (by omega)];rfl,by omega,by rw[nextT,if_neg h11];rfl⟩
 obtain⟨k,k1,k2,k3⟩:=hk
 simp only[k1,Int.toNat_natCast]
 have et:List.take (c.2.2.2.2.1.length-k) (List.drop k c.2.2.2.2.1)=List.drop k c.2.2.2.2.1:=by rw[List.take_of_length_le];rw[List.length_drop];omega
 simp only[et]
 have room:Room ((List.drop k c.2.2.2.2.1).length+[h.2.2.2.1].length) 4:=room_of (by rw[List.length_drop,List.length_singleton];omega) (by omega)
 refine⟨hp.2.2,f1,fun hm=>⟨⟨by omega,by omega,trivial,by omega⟩,by simp,room, ?_⟩,fun hm=>⟨⟨by omega,by omega,trivial,by omega⟩,by simp,room, ?_⟩⟩
 ·rw[advFn,if_neg (by omega),if_pos (by simpa using hm),←k3]
 ·rw[advFn,if_neg (by omega),if_neg (by simpa using hm),←k3]
def VAdvance.pre (p:Par)(c:Cx)(h:Hdr):Prop:=AdvPre p c h
noncomputable def VAdvance.fn (p:Par)(c:Cx)(h:Hdr):Cx×Int:=advFn p c h
def VAdvance.VC :Prop:=∀(x0:Par) (x1:Cx) (x2:Hdr),VAdvance.pre x0 x1 x2→(let v6h:Cx:=((0:Int),((List.replicate 32 (0:Int)),((0:Int),((0:Int),([],())))))
 VFits.pre x0 x1∧(((!(VFits.fn x0 x1))=true→(let v13:Cx:=((0:Int),((List.replicate 32 (0:Int)),((0:Int),((0:Int),([],())))))
 (Ret2 v13 (6:Int) (VAdvance.fn x0 x1 x2))))∧((!(VFits.fn x0 x1))=false→(((x1.1==(16777216:Int))=true→(let v17:Cx:=((0:Int),((List.replicate 32 (0:Int)),((0:Int),((0:Int),([],())))))
 (Ret2 v17 (4:Int) (VAdvance.fn x0 x1 x2))))∧((x1.1==(16777216:Int))=false→RHdr.pre x2∧(let v27:Cx:=((IntKind.i64.wrap (x1.1+(1:Int))),((RHdr.fn x2),(x2.2.2.2.2.1,(x1.2.2.2.1,([],())))))
 (let v8h:Cx:=((0:Int),((List.replicate 32 (0:Int)),((0:Int),((0:Int),([],())))))
 x0.2.2.1≠0∧((((Int.tmod v27.1 x0.2.2.1)==(0:Int))=true→Room x1.2.2.2.2.1.length 4∧Room (x1.2.2.2.2.1.length+[x2.2.2.2.1].length) 4∧(let v8_1h:Cx:=(v27.1,(v27.2.1,(v27.2.2.1,(x2.2.2.2.1,((x1.2.2.2.2.1++[x2.2.2.2.1]),v27.2.2.2.2.2)))))
 (let v48:Bool:=(decide (((x1.2.2.2.2.1++[x2.2.2.2.1]).length:Int)>(11:Int)))
 ((v48=true→(0≤(1:Int)∧(1:Int)≤((x1.2.2.2.2.1++[x2.2.2.2.1]).length:Int)∧((x1.2.2.2.2.1++[x2.2.2.2.1]).length:Int)≤((x1.2.2.2.2.1++[x2.2.2.2.1]).length:Int))∧(Int.toNat (1:Int))+((Int.toNat ((x1.2.2.2.2.1++[x2.2.2.2.1]).length:Int))-(Int.toNat (1:Int)))≤(x1.2.2.2.2.1++[x2.2.2.2.1]).length∧(let v8_2h:Cx:=(v8_1h.1,(v8_1h.2.1,(v8_1h.2.2.1,(v8_1h.2.2.2.1,((((x1.2.2.2.2.1++[x2.2.2.2.1]).drop (Int.toNat (1:Int))).take ((Int.toNat ((x1.2.2.2.2.1++[x2.2.2.2.1]).length:Int))-(Int.toNat (1:Int)))),v8_1h.2.2.2.2.2)))))
 (Ret2 v8_2h (0:Int) (VAdvance.fn x0 x1 x2))))∧(v48=false→(Ret2 v8_1h (0:Int) (VAdvance.fn x0 x1 x2)))))))∧(((Int.tmod v27.1 x0.2.2.1)==(0:Int))=false→Room x1.2.2.2.2.1.length 4∧Room (x1.2.2.2.2.1.length+[x2.2.2.2.1].length) 4∧(let v8_3h:Cx:=(v27.1,(v27.2.1,(v27.2.2.1,(v27.2.2.2.1,((x1.2.2.2.2.1++[x2.2.2.2.1]),v27.2.2.2.2.2)))))
 (let v48_1:Bool:=(decide (((x1.2.2.2.2.1++[x2.2.2.2.1]).length:Int)>(11:Int)))
 ((v48_1=true→(0≤(1:Int)∧(1:Int)≤((x1.2.2.2.2.1++[x2.2.2.2.1]).length:Int)∧((x1.2.2.2.2.1++[x2.2.2.2.1]).length:Int)≤((x1.2.2.2.2.1++[x2.2.2.2.1]).length:Int))∧(Int.toNat (1:Int))+((Int.toNat ((x1.2.2.2.2.1++[x2.2.2.2.1]).length:Int))-(Int.toNat (1:Int)))≤(x1.2.2.2.2.1++[x2.2.2.2.1]).length∧(let v8_4h:Cx:=(v8_3h.1,(v8_3h.2.1,(v8_3h.2.2.1,(v8_3h.2.2.2.1,((((x1.2.2.2.2.1++[x2.2.2.2.1]).drop (Int.toNat (1:Int))).take ((Int.toNat ((x1.2.2.2.2.1++[x2.2.2.2.1]).length:Int))-(Int.toNat (1:Int)))),v8_3h.2.2.2.2.2)))))
 (Ret2 v8_4h (0:Int) (VAdvance.fn x0 x1 x2))))∧(v48_1=false→(Ret2 v8_3h (0:Int) (VAdvance.fn x0 x1 x2)))))))))))))))
theorem VAdvance.vc :VAdvance.VC:=by
 intro p c h hp
 simp only[VFits.fn,VAdvance.fn,ret2,RHdr.fn]
 refine⟨hp.1.1,fun hr=> ?_,fun hr=>⟨fun hm=> ?_,fun hm=> ?_⟩⟩
 ·have e:roomFn p c=6:=by rw[roomFn,if_pos (by simpa using hr)]
  rw[advFn,e,if_pos (by decide)];rfl
 ·have e:roomFn p c=4:=by rw[roomFn,if_neg (by simpa using hr),if_pos (by simpa using hm)]
  rw[advFn,e,if_pos (by decide)];rfl
 have hr:roomFn p c=0:=by rw[roomFn,if_neg (by simpa using hr),if_neg (by simpa using hm)]
 obtain⟨f1,f2,f3,f4,f5,f6,f7,f8⟩:=room_facts hr
 simp only[f2]
 have hlen:(c.2.2.2.2.1++[h.2.2.2.1]).length=c.2.2.2.2.1.length+1:=by simp
 have room1:Room c.2.2.2.2.1.length 4:=room_of (by omega) (by omega)
 have room2:Room (c.2.2.2.2.1.length+[h.2.2.2.1].length) 4:=room_of (by rw[List.length_singleton];omega) (by omega)
 have hdrop:c.2.2.2.2.1.length+1>11→((c.2.2.2.2.1++[h.2.2.2.1]).drop (Int.toNat 1)).take (Int.toNat ((c.2.2.2.2.1++[h.2.2.2.1]).length:Int)-Int.toNat 1)=nextT c.2.2.2.2.1 h.2.2.2.1:=by
  intro hgt
  rw[List.take_of_length_le (by rw[List.length_drop];omega),nextT,if_pos (by omega)]
  show(c.2.2.2.2.1++[h.2.2.2.1]).drop 1=_
  rw[List.drop_append_of_le_length (by omega)]
 refine⟨hp.2.2,f1,fun hw=>⟨room1,room2,fun hb=>⟨⟨by omega,by omega,by omega⟩,by rw[Int.toNat_natCast,hlen];show 1+_≤_;omega, ?_⟩,fun hb=> ?_⟩,fun hw=>⟨room1,room2,fun hb=>⟨⟨by omega,by omega,by omega⟩,by rw[Int.toNat_natCast,hlen];show 1+_≤_;omega, ?_⟩,fun hb=> ?_⟩⟩
 ·rw[hdrop (by have:=of_decide_eq_true hb;omega),advFn,if_neg (by omega),if_pos (by simpa using hw)]
 ·have hb:=of_decide_eq_false hb
  rw[advFn,if_neg (by omega),if_pos (by simpa using hw),nextT,if_neg (by omega)]
 ·rw[hdrop (by have:=of_decide_eq_true hb;omega),advFn,if_neg (by omega),if_neg (by simpa using hw)]
 ·have hb:=of_decide_eq_false hb
  rw[advFn,if_neg (by omega),if_neg (by simpa using hw),nextT,if_neg (by omega)]
def ckBad (l:List Cp)(H:Int)(x:List Int):Bool:=l.any (fun k=>(k.1==H)&& !(b32 k.2.1 x))
noncomputable def checkFn (p:Par)(c:Cx)(h:Hdr)(now:Int):Int:=
 if roomFn p c≠0 then roomFn p c else if b32 h.2.1 c.2.1=false then 144 else if h.1<p.2.2.2.2.2.1 then 142
 else if(nextFn p c).2≠0 then(nextFn p c).2 else if h.2.2.2.2.1≠(nextFn p c).1 then 130 else if meetsFn (hashH h) h.2.2.2.2.1=false then 121
 else if h.2.2.2.1≤medianFn c.2.2.2.2.1 then 140 else if now+p.2.2.2.2.1<h.2.2.2.1 then 141 else if ckBad p.2.2.2.2.2.2.1 (c.1+1) (hashH h)=true then 143 else 0
def ChkPre (p:Par)(c:Cx)(h:Hdr)(now:Int):Prop:=AdvPre p c h∧U32 now
def UCheck.pre (p:Par)(c:Cx)(h:Hdr)(now:Int):Prop:=ChkPre p c h now
noncomputable def UCheck.fn (p:Par)(c:Cx)(h:Hdr)(now:Int):Int:=checkFn p c h now
def ckI (p:Par)(H:Int)(x:List Int)(i:Int):Prop:=0≤i∧i≤p.2.2.2.2.2.2.1.length∧ckBad p.2.2.2.2.2.2.1 H x=ckBad (p.2.2.2.2.2.2.1.drop i.toNat) H x
def UCheck.inv21 (p:Par)(c:Cx)(h:Hdr)(now:Int)(x:List Int)(i:Int):Prop:=x=hashH h∧ckI p (c.1+1) (hashH h) i
def UCheck.mes21 (p:Par)(c:Cx)(h:Hdr)(now:Int)(x:List Int)(i:Int):Nat:=(p.2.2.2.2.2.2.1.length-i).toNat
def UCheck.VC :Prop:=∀(x0:Par) (x1:Cx) (x2:Hdr) (x3:Int),UCheck.pre x0 x1 x2 x3→URoom.pre x0 x1∧((((URoom.fn x0 x1) !=(0:Int))=true→(Ret1 (URoom.fn x0 x1) (UCheck.fn x0 x1 x2 x3)))∧(((URoom.fn x0 x1) !=(0:Int))=false→(((!(Ty.beq (.arr 32 (.int .u8)) x2.2.1 x1.2.1))=true→(Ret1 (144:Int) (UCheck.fn x0 x1 x2 x3)))∧((!(Ty.beq (.arr 32 (.int .u8)) x2.2.1 x1.2.1))=false→(((decide (x2.1<x0.2.2.2.2.2.1))=true→(Ret1 (142:Int) (UCheck.fn x0 x1 x2 x3)))∧((decide (x2.1<x0.2.2.2.2.2.1))=false→RNext.pre x0 x1∧((((RNext.fn x0 x1).2 !=(0:Int))=true→(Ret1 ((RNext.fn x0 x1).2) (UCheck.fn x0 x1 x2 x3)))∧(((RNext.fn x0 x1).2 !=(0:Int))=false→(((x2.2.2.2.2.1 !=(RNext.fn x0 x1).1)=true→(Ret1 (130:Int) (UCheck.fn x0 x1 x2 x3)))∧((x2.2.2.2.2.1 !=(RNext.fn x0 x1).1)=false→BHash.pre x2∧TMeets.pre (BHash.fn x2) x2.2.2.2.2.1∧(((!(TMeets.fn (BHash.fn x2) x2.2.2.2.2.1))=true→(Ret1 (121:Int) (UCheck.fn x0 x1 x2 x3)))∧((!(TMeets.fn (BHash.fn x2) x2.2.2.2.2.1))=false→RMedian.pre x1.2.2.2.2.1∧(((decide (x2.2.2.2.1≤(RMedian.fn x1.2.2.2.2.1)))=true→(Ret1 (140:Int) (UCheck.fn x0 x1 x2 x3)))∧((decide (x2.2.2.2.1≤(RMedian.fn x1.2.2.2.2.1)))=false→(let v65:Int:=(IntKind.u64.wrap ((IntKind.u64.wrap x3)+(IntKind.u64.wrap x0.2.2.2.2.1)))
 (((decide ((IntKind.u64.wrap x2.2.2.2.1)>v65))=true→(Ret1 (141:Int) (UCheck.fn x0 x1 x2 x3)))∧((decide ((IntKind.u64.wrap x2.2.2.2.1)>v65))=false→(UCheck.inv21 x0 x1 x2 x3 (BHash.fn x2) (0:Int)∧∀(v12:(List Int)) (v70:Int),UCheck.inv21 x0 x1 x2 x3 v12 v70→(((decide (v70<(x0.2.2.2.2.2.2.1.length:Int)))=true→(0≤v70∧v70<(x0.2.2.2.2.2.2.1.length:Int))∧(let v73:Cp:=(x0.2.2.2.2.2.2.1.getD (Int.toNat v70) ((0:Int),((List.replicate 32 (0:Int)),())))
 ((v73.1==(IntKind.i64.wrap (x1.1+(1:Int))))=true→(v73.1==(IntKind.i64.wrap (x1.1+(1:Int))))=true)∧((v73.1==(IntKind.i64.wrap (x1.1+(1:Int))))=true→(v73.1==(IntKind.i64.wrap (x1.1+(1:Int))))=true)∧((v73.1==(IntKind.i64.wrap (x1.1+(1:Int))))=true→(v73.1==(IntKind.i64.wrap (x1.1+(1:Int))))=true)∧((v73.1==(IntKind.i64.wrap (x1.1+(1:Int))))=true→(v73.1==(IntKind.i64.wrap (x1.1+(1:Int))))=true)∧(let v85:Bool:=(bif (v73.1==(IntKind.i64.wrap (x1.1+(1:Int)))) then(!(Ty.beq (.arr 32 (.int .u8)) v73.2.1 v12)) else false)
 ((v85=true→(Ret1 (143:Int) (UCheck.fn x0 x1 x2 x3)))∧(v85=false→(UCheck.inv21 x0 x1 x2 x3 v12 (IntKind.i64.wrap (v70+(1:Int)))∧UCheck.mes21 x0 x1 x2 x3 v12 (IntKind.i64.wrap (v70+(1:Int)))<UCheck.mes21 x0 x1 x2 x3 v12 v70))))))∧((decide (v70<(x0.2.2.2.2.2.2.1.length:Int)))=false→(Ret1 (0:Int) (UCheck.fn x0 x1 x2 x3))))))))))))))))))))))
theorem ck_step {p:Par}{H:Int}{x:List Int}{i:Int}(hi:ckI p H x i)(hc:i<p.2.2.2.2.2.2.1.length)(h8:p.2.2.2.2.2.2.1.length≤8){b:Bool}
 (hb:b=(bif (p.2.2.2.2.2.2.1.getD i.toNat ((0:Int),((List.replicate 32 (0:Int)),()))).1==H then !(b32 (p.2.2.2.2.2.2.1.getD i.toNat ((0:Int),((List.replicate 32 (0:Int)),()))).2.1 x) else false)):
 (b=true→ckBad p.2.2.2.2.2.2.1 H x=true)∧(b=false→ckI p H x (IntKind.i64.wrap (i+1))):=by
 obtain⟨k1,k2,k3⟩:=hi
 rw[drop_cons k1 hc] at k3
 rw[i64w (by omega) (by omega)]
 have e:ckBad (p.2.2.2.2.2.2.1.getD i.toNat ((0:Int),((List.replicate 32 (0:Int)),()))::p.2.2.2.2.2.2.1.drop (i+1).toNat) H x=(b||ckBad (p.2.2.2.2.2.2.1.drop (i+1).toNat) H x):=by
  rw[hb,Bool.cond_false_right];rfl
 rw[e] at k3
 refine⟨fun h=>by rw[k3,h];rfl,fun h=>⟨by omega,by omega,by rw[k3,h];rfl⟩⟩
theorem ck_end {p:Par}{H:Int}{x:List Int}{i:Int}(hi:ckI p H x i)(hc:¬i<p.2.2.2.2.2.2.1.length):ckBad p.2.2.2.2.2.2.1 H x=false:=by
 obtain⟨k1,k2,k3⟩:=hi
 rw[k3,List.drop_eq_nil_of_le (by omega)];rfl
theorem check_pre {p:Par}{c:Cx}{h:Hdr}{now:Int}(hp:ChkPre p c h now):(ParOk p∧CxOk c)∧c.2.2.2.2.1.length≤1000:=⟨⟨hp.1.1.1,hp.1.2.1.1⟩,hp.1.2.1.2.2⟩
theorem late_word {p:Par}{h:Hdr}{now:Int}(h1:U32 now)(h2:U32 p.2.2.2.2.1)(h3:U32 h.2.2.2.1):
 decide (IntKind.u64.wrap h.2.2.2.1>IntKind.u64.wrap (IntKind.u64.wrap now+IntKind.u64.wrap p.2.2.2.2.1))=decide (now+p.2.2.2.2.1<h.2.2.2.1):=by
 unfold U32 at*
 rw[u64w (n:=now) (by omega) (by omega),u64w (n:=p.2.2.2.2.1) (by omega) (by omega),u64w (n:=now+p.2.2.2.2.1) (by omega) (by omega),u64w (n:=h.2.2.2.1) (by omega) (by omega)]
theorem UCheck.vc :UCheck.VC:=by
 intro p c h now hp
 obtain⟨q1,q2⟩:=check_pre hp
 have h8:p.2.2.2.2.2.2.1.length≤8:=q1.1.2.2
 simp only[imp_self,true_and,URoom.fn,UCheck.fn,ret1,RNext.fn,BHash.fn,TMeets.fn,RMedian.fn]
 refine⟨q1.1,fun a1=> ?_,fun a1=> ?_⟩
 ·rw[checkFn,if_pos (by simpa using a1)]
 have a1:roomFn p c=0:=by simpa using a1
 obtain⟨f1,f2,f3,f4,f5,f6,f7,f8⟩:=room_facts a1
 refine⟨fun a2=> ?_,fun a2=>⟨fun a3=> ?_,fun a3=>⟨q1,fun a4=> ?_,fun a4=>⟨fun a5=> ?_,fun a5=>⟨hp.1.2.2,⟨hashH_ok h,hp.1.2.2.2.2.2.2.1⟩,fun a6=> ?_,fun a6=>⟨q2,fun a7=> ?_,fun a7=>⟨fun a8=> ?_,fun a8=> ?_⟩⟩⟩⟩⟩⟩⟩
 ·have a2:b32 h.2.1 c.2.1=false:=by simpa using a2
  rw[checkFn,if_neg (by omega),if_pos a2]
 ·have a2:¬b32 h.2.1 c.2.1=false:=by simpa using a2
  rw[checkFn,if_neg (by omega),if_neg a2,if_pos (of_decide_eq_true a3)]
 ·have a2:¬b32 h.2.1 c.2.1=false:=by simpa using a2
  rw[checkFn,if_neg (by omega),if_neg a2,if_neg (of_decide_eq_false a3),if_pos (by simpa using a4)]
 ·have a2:¬b32 h.2.1 c.2.1=false:=by simpa using a2
  rw[checkFn,if_neg (by omega),if_neg a2,if_neg (of_decide_eq_false a3),if_neg (by simpa using a4),if_pos (by simpa using a5)]
 ·have a2:¬b32 h.2.1 c.2.1=false:=by simpa using a2
  rw[checkFn,if_neg (by omega),if_neg a2,if_neg (of_decide_eq_false a3),if_neg (by simpa using a4),if_neg (by simpa using a5),if_pos (by simpa using a6)]
 ·have a2:¬b32 h.2.1 c.2.1=false:=by simpa using a2
  rw[checkFn,if_neg (by omega),if_neg a2,if_neg (of_decide_eq_false a3),if_neg (by simpa using a4),if_neg (by simpa using a5),if_neg (by simpa using a6),if_pos (of_decide_eq_true a7)]
 ·have a2:¬b32 h.2.1 c.2.1=false:=by simpa using a2
  rw[late_word hp.2 hp.1.1.2.2.1 hp.1.2.2.2.2.2.1] at a8
  rw[checkFn,if_neg (by omega),if_neg a2,if_neg (of_decide_eq_false a3),if_neg (by simpa using a4),if_neg (by simpa using a5),if_neg (by simpa using a6),if_neg (of_decide_eq_false a7),if_pos (of_decide_eq_true a8)]
 ·have a2:¬b32 h.2.1 c.2.1=false:=by simpa using a2
  rw[late_word hp.2 hp.1.1.2.2.1 hp.1.2.2.2.2.2.1] at a8
  have hfin:checkFn p c h now=if ckBad p.2.2.2.2.2.2.1 (c.1+1) (hashH h)=true then 143 else 0:=by
   rw[checkFn,if_neg (by omega),if_neg a2,if_neg (of_decide_eq_false a3),if_neg (by simpa using a4),if_neg (by simpa using a5),if_neg (by simpa using a6),if_neg (of_decide_eq_false a7),if_neg (of_decide_eq_false a8)]
  refine⟨⟨rfl,by omega,by omega,by simp⟩, ?_⟩
  rintro x i ⟨rfl,hi⟩
  have hi0:=hi
  obtain⟨k1,k2,k3⟩:=hi0
  simp only[f2]
  refine⟨fun hc=> ?_,fun hc=> ?_⟩
  ·have hc:i<p.2.2.2.2.2.2.1.length:=of_decide_eq_true hc
   obtain⟨s1,s2⟩:=ck_step hi hc h8 rfl
   refine⟨⟨k1,hc⟩,fun hb=> ?_,fun hb=>⟨⟨rfl,s2 hb⟩,by simp only[UCheck.mes21];rw[i64w (by omega) (by omega)];omega⟩⟩
   rw[hfin,if_pos (s1 hb)]
  ·have hc:¬i<p.2.2.2.2.2.2.1.length:=of_decide_eq_false hc
   rw[hfin,ck_end hi hc];rfl
def VCheck.pre (p:Par)(c:Cx)(h:Hdr)(now:Int):Prop:=ChkPre p c h now
noncomputable def VCheck.fn (p:Par)(c:Cx)(h:Hdr)(now:Int):Int:=checkFn p c h now
def VCheck.inv20 (p:Par)(c:Cx)(h:Hdr)(now:Int)(x:Cx)(i:Int):Prop:=x.1=c.1+1∧x.2.1=hashH h∧ckI p (c.1+1) (hashH h) i
def VCheck.mes20 (p:Par)(c:Cx)(h:Hdr)(now:Int)(x:Cx)(i:Int):Nat:=(p.2.2.2.2.2.2.1.length-i).toNat
def VCheck.VC :Prop:=∀(x0:Par) (x1:Cx) (x2:Hdr) (x3:Int),VCheck.pre x0 x1 x2 x3→VAdvance.pre x0 x1 x2∧(let v9h:Cx:=((0:Int),((List.replicate 32 (0:Int)),((0:Int),((0:Int),([],())))))
 ((((VAdvance.fn x0 x1 x2).2 !=(0:Int))=true→(Ret1 ((VAdvance.fn x0 x1 x2).2) (VCheck.fn x0 x1 x2 x3)))∧(((VAdvance.fn x0 x1 x2).2 !=(0:Int))=false→(((!(Ty.beq (.arr 32 (.int .u8)) x2.2.1 x1.2.1))=true→(Ret1 (144:Int) (VCheck.fn x0 x1 x2 x3)))∧((!(Ty.beq (.arr 32 (.int .u8)) x2.2.1 x1.2.1))=false→(((decide (x2.1<x0.2.2.2.2.2.1))=true→(Ret1 (142:Int) (VCheck.fn x0 x1 x2 x3)))∧((decide (x2.1<x0.2.2.2.2.2.1))=false→QNext.pre x0 x1∧((((QNext.fn x0 x1).2 !=(0:Int))=true→(Ret1 ((QNext.fn x0 x1).2) (VCheck.fn x0 x1 x2 x3)))∧(((QNext.fn x0 x1).2 !=(0:Int))=false→(((x2.2.2.2.2.1 !=(QNext.fn x0 x1).1)=true→(Ret1 (130:Int) (VCheck.fn x0 x1 x2 x3)))∧((x2.2.2.2.2.1 !=(QNext.fn x0 x1).1)=false→QMeets.pre ((VAdvance.fn x0 x1 x2).1.2.1) x2.2.2.2.2.1∧(((!(QMeets.fn ((VAdvance.fn x0 x1 x2).1.2.1) x2.2.2.2.2.1))=true→(Ret1 (121:Int) (VCheck.fn x0 x1 x2 x3)))∧((!(QMeets.fn ((VAdvance.fn x0 x1 x2).1.2.1) x2.2.2.2.2.1))=false→QMedian.pre x1.2.2.2.2.1∧(((decide (x2.2.2.2.1≤(QMedian.fn x1.2.2.2.2.1)))=true→(Ret1 (140:Int) (VCheck.fn x0 x1 x2 x3)))∧((decide (x2.2.2.2.1≤(QMedian.fn x1.2.2.2.2.1)))=false→(let v71:Int:=(IntKind.u64.wrap ((IntKind.u64.wrap x3)+(IntKind.u64.wrap x0.2.2.2.2.1)))
 (((decide ((IntKind.u64.wrap x2.2.2.2.1)>v71))=true→(Ret1 (141:Int) (VCheck.fn x0 x1 x2 x3)))∧((decide ((IntKind.u64.wrap x2.2.2.2.1)>v71))=false→(VCheck.inv20 x0 x1 x2 x3 ((VAdvance.fn x0 x1 x2).1) (0:Int)∧∀(v9_1:Cx) (v76:Int),VCheck.inv20 x0 x1 x2 x3 v9_1 v76→(((decide (v76<(x0.2.2.2.2.2.2.1.length:Int)))=true→(0≤v76∧v76<(x0.2.2.2.2.2.2.1.length:Int))∧(let v79:Cp:=(x0.2.2.2.2.2.2.1.getD (Int.toNat v76) ((0:Int),((List.replicate 32 (0:Int)),())))
 ((v79.1==v9_1.1)=true→(v79.1==v9_1.1)=true)∧((v79.1==v9_1.1)=true→(v79.1==v9_1.1)=true)∧((v79.1==v9_1.1)=true→(v79.1==v9_1.1)=true)∧((v79.1==v9_1.1)=true→(v79.1==v9_1.1)=true)∧((v79.1==v9_1.1)=true→(v79.1==v9_1.1)=true)∧(let v91:Bool:=(bif (v79.1==v9_1.1) then(!(Ty.beq (.arr 32 (.int .u8)) v79.2.1 v9_1.2.1)) else false)
 ((v91=true→(Ret1 (143:Int) (VCheck.fn x0 x1 x2 x3)))∧(v91=false→(VCheck.inv20 x0 x1 x2 x3 v9_1 (IntKind.i64.wrap (v76+(1:Int)))∧VCheck.mes20 x0 x1 x2 x3 v9_1 (IntKind.i64.wrap (v76+(1:Int)))<VCheck.mes20 x0 x1 x2 x3 v9_1 v76))))))∧((decide (v76<(x0.2.2.2.2.2.2.1.length:Int)))=false→(Ret1 (0:Int) (VCheck.fn x0 x1 x2 x3)))))))))))))))))))))))
theorem adv_err (p:Par)(c:Cx)(h:Hdr):(advFn p c h).2=roomFn p c:=by
 unfold advFn;split
 ·rfl
 ·rename_i hr;simp only;omega
theorem adv_ok {p:Par}{c:Cx}{h:Hdr}(hr:roomFn p c=0):(advFn p c h).1=(c.1+1,hashH h,h.2.2.2.2.1,if Int.tmod (c.1+1) p.2.2.1=0 then h.2.2.2.1 else c.2.2.2.1,nextT c.2.2.2.2.1 h.2.2.2.1,()):=by
 rw[advFn,if_neg (by omega)]
theorem VCheck.vc :VCheck.VC:=by
 intro p c h now hp
 obtain⟨q1,q2⟩:=check_pre hp
 have h8:p.2.2.2.2.2.2.1.length≤8:=q1.1.2.2
 simp only[imp_self,true_and,VAdvance.fn,VCheck.fn,ret1,QNext.fn,QMeets.fn,QMedian.fn,adv_err]
 refine⟨hp.1,fun a1=> ?_,fun a1=> ?_⟩
 ·rw[checkFn,if_pos (by simpa using a1)]
 have a1:roomFn p c=0:=by simpa using a1
 obtain⟨f1,f2,f3,f4,f5,f6,f7,f8⟩:=room_facts a1
 have ho:=adv_ok (h:=h) a1
 have hx:(advFn p c h).1.2.1=hashH h:=by rw[ho]
 have hy:(advFn p c h).1.1=c.1+1:=by rw[ho]
 simp only[hx]
 refine⟨fun a2=> ?_,fun a2=>⟨fun a3=> ?_,fun a3=>⟨q1,fun a4=> ?_,fun a4=>⟨fun a5=> ?_,fun a5=>⟨⟨hashH_ok h,hp.1.2.2.2.2.2.2.1⟩,fun a6=> ?_,fun a6=>⟨q2,fun a7=> ?_,fun a7=>⟨fun a8=> ?_,fun a8=> ?_⟩⟩⟩⟩⟩⟩⟩
 ·have a2:b32 h.2.1 c.2.1=false:=by simpa using a2
  rw[checkFn,if_neg (by omega),if_pos a2]
 ·have a2:¬b32 h.2.1 c.2.1=false:=by simpa using a2
  rw[checkFn,if_neg (by omega),if_neg a2,if_pos (of_decide_eq_true a3)]
 ·have a2:¬b32 h.2.1 c.2.1=false:=by simpa using a2
  rw[checkFn,if_neg (by omega),if_neg a2,if_neg (of_decide_eq_false a3),if_pos (by simpa using a4)]
 ·have a2:¬b32 h.2.1 c.2.1=false:=by simpa using a2
  rw[checkFn,if_neg (by omega),if_neg a2,if_neg (of_decide_eq_false a3),if_neg (by simpa using a4),if_pos (by simpa using a5)]
 ·have a2:¬b32 h.2.1 c.2.1=false:=by simpa using a2
  rw[checkFn,if_neg (by omega),if_neg a2,if_neg (of_decide_eq_false a3),if_neg (by simpa using a4),if_neg (by simpa using a5),if_pos (by simpa using a6)]
 ·have a2:¬b32 h.2.1 c.2.1=false:=by simpa using a2
  rw[checkFn,if_neg (by omega),if_neg a2,if_neg (of_decide_eq_false a3),if_neg (by simpa using a4),if_neg (by simpa using a5),if_neg (by simpa using a6),if_pos (of_decide_eq_true a7)]
 ·have a2:¬b32 h.2.1 c.2.1=false:=by simpa using a2
  rw[late_word hp.2 hp.1.1.2.2.1 hp.1.2.2.2.2.2.1] at a8
  rw[checkFn,if_neg (by omega),if_neg a2,if_neg (of_decide_eq_false a3),if_neg (by simpa using a4),if_neg (by simpa using a5),if_neg (by simpa using a6),if_neg (of_decide_eq_false a7),if_pos (of_decide_eq_true a8)]
 ·have a2:¬b32 h.2.1 c.2.1=false:=by simpa using a2
  rw[late_word hp.2 hp.1.1.2.2.1 hp.1.2.2.2.2.2.1] at a8
  have hfin:checkFn p c h now=if ckBad p.2.2.2.2.2.2.1 (c.1+1) (hashH h)=true then 143 else 0:=by
   rw[checkFn,if_neg (by omega),if_neg a2,if_neg (of_decide_eq_false a3),if_neg (by simpa using a4),if_neg (by simpa using a5),if_neg (by simpa using a6),if_neg (of_decide_eq_false a7),if_neg (of_decide_eq_false a8)]
  refine⟨⟨hy,hx,by omega,by omega,by simp⟩, ?_⟩
  rintro x i ⟨hx1,hx2,hi⟩
  have hi0:=hi
  obtain⟨k1,k2,k3⟩:=hi0
  simp only[hx1,hx2]
  refine⟨fun hc=> ?_,fun hc=> ?_⟩
  ·have hc:i<p.2.2.2.2.2.2.1.length:=of_decide_eq_true hc
   obtain⟨s1,s2⟩:=ck_step hi hc h8 rfl
   refine⟨⟨k1,hc⟩,fun hb=> ?_,fun hb=>⟨⟨hx1,hx2,s2 hb⟩,by simp only[VCheck.mes20];rw[i64w (by omega) (by omega)];omega⟩⟩
   rw[hfin,if_pos (s1 hb)]
  ·have hc:¬i<p.2.2.2.2.2.2.1.length:=of_decide_eq_false hc
   rw[hfin,ck_end hi hc];rfl
theorem check_room {p:Par}{c:Cx}{h:Hdr}{now:Int}(hc:checkFn p c h now=0):roomFn p c=0:=by
 unfold checkFn at hc
 split at hc
 ·rename_i hr;exact hc
 ·rename_i hr;omega
abbrev hz :Hdr:=((0:Int),((List.replicate 32 (0:Int)),((List.replicate 32 (0:Int)),((0:Int),((0:Int),((0:Int),()))))))
noncomputable def runGo (p:Par)(now:Int):Cx→List Hdr→Int→Cx×Int×Int
 |c,[],i=>(c,i,0)
 |c,h::r,i=>if checkFn p c h now≠0 then(c,i,checkFn p c h now) else runGo p now (advFn p c h).1 r (i+1)
noncomputable def runFn (p:Par)(c:Cx)(l:List Hdr)(now:Int):Cx×Int×Int:=if fitsFn p c=false then(zc,0,6) else runGo p now c l 0
def RunPre (p:Par)(c:Cx)(l:List Hdr)(now:Int):Prop:=PGood p∧CGood c∧(∀h,h∈l→HdrOk h)∧l.length≤1000∧U32 now
def URun.pre (p:Par)(c:Cx)(l:List Hdr)(now:Int):Prop:=RunPre p c l now
noncomputable def URun.fn (p:Par)(c:Cx)(l:List Hdr)(now:Int):Cx×Int×Int:=runFn p c l now
def runI (p:Par)(c:Cx)(l:List Hdr)(now:Int)(c':Cx)(i:Int):Prop:=0≤i∧i≤l.length∧CGood c'∧runFn p c l now=runGo p now c' (l.drop i.toNat) i
def URun.inv5 (p:Par)(c:Cx)(l:List Hdr)(now:Int)(c':Cx)(z:Cx)(i:Int):Prop:=runI p c l now c' i
def URun.mes5 (p:Par)(c:Cx)(l:List Hdr)(now:Int)(c':Cx)(z:Cx)(i:Int):Nat:=(l.length-i).toNat
def VRun.pre (p:Par)(c:Cx)(l:List Hdr)(now:Int):Prop:=RunPre p c l now
noncomputable def VRun.fn (p:Par)(c:Cx)(l:List Hdr)(now:Int):Cx×Int×Int:=runFn p c l now
def VRun.inv4 (p:Par)(c:Cx)(l:List Hdr)(now:Int)(c':Cx)(z:Cx)(i:Int):Prop:=runI p c l now c' i
def VRun.mes4 (p:Par)(c:Cx)(l:List Hdr)(now:Int)(c':Cx)(z:Cx)(i:Int):Nat:=(l.length-i).toNat
def sameFn (a b:Cx):Bool:=decide (a.1=b.1∧a.2.1=b.2.1∧a.2.2.1=b.2.2.1∧a.2.2.2.1=b.2.2.2.1∧a.2.2.2.2.1=b.2.2.2.2.1)
def VSameContext.pre (a b:Cx):Prop:=a.2.2.2.2.1.length≤1000
def VSameContext.fn (a b:Cx):Bool:=sameFn a b
def VSameContext.inv4 (a b:Cx)(i:Int):Prop:=0≤i∧i≤a.2.2.2.2.1.length∧a.2.2.2.2.1.length=b.2.2.2.2.1.length∧∀j:Nat,j<i.toNat→a.2.2.2.2.1.getD j 0=b.2.2.2.2.1.getD j 0
def VSameContext.mes4 (a b:Cx)(i:Int):Nat:=(a.2.2.2.2.1.length-i).toNat
end Lc
set_option maxRecDepth 100000
namespace Lc
open Go
def madeParams (v:Int):Par:=
 ((1,List.replicate 32 0,List.replicate 32 0,1000+v,545259519,0,()),Wn 4 (Big/2-1),3+v%5,5,600,1,[],1000,4+v%3,v%3,())
def MParams.pre (v:Int):Prop:=0≤v∧v≤255
def MParams.fn (v:Int):Par:=madeParams v
def MParams.VC :Prop:=∀(x0:Int),MParams.pre x0→(let v2h:Par:=(((0:Int),((List.replicate 32 (0:Int)),((List.replicate 32 (0:Int)),((0:Int),((0:Int),((0:Int),())))))),((List.replicate 4 (0:Int)),((0:Int),((0:Int),((0:Int),((0:Int),([],((0:Int),((0:Int),((0:Int),()))))))))))
 (let v6:Hdr:=((1:Int),((List.replicate 32 (0:Int)),((List.replicate 32 (0:Int)),((IntKind.u32.wrap ((1000:Int)+(IntKind.u32.wrap x0))),((545259519:Int),((0:Int),()))))))
 QNot.pre (List.replicate 4 (0:Int))∧QShr.pre (QNot.fn (List.replicate 4 (0:Int))) (1:Int)∧(5:Int)≠0∧(let v13:Int:=(IntKind.i64.wrap ((3:Int)+(IntKind.i64.wrap (Int.tmod x0 (5:Int)))))
 (3:Int)≠0∧(let v17:Int:=(IntKind.i64.wrap ((4:Int)+(IntKind.i64.wrap (Int.tmod x0 (3:Int)))))
 (3:Int)≠0∧(let v21:Par:=(v6,((QShr.fn (QNot.fn (List.replicate 4 (0:Int))) (1:Int)),(v13,((5:Int),((600:Int),((1:Int),([],((1000:Int),(v17,((IntKind.i64.wrap (Int.tmod x0 (3:Int))),()))))))))))
 (Ret1 v21 (MParams.fn x0)))))))
theorem limit_made :QShr.fn (QNot.fn (List.replicate 4 (0:Int))) 1=Wn 4 (Big/2-1):=by decide+kernel
theorem MParams.vc :MParams.VC:=by
 intro v ⟨h1,h2⟩
 have e5:Int.tmod v 5=v%5:=Int.tmod_eq_emod_of_nonneg h1
 have e3:Int.tmod v 3=v%3:=Int.tmod_eq_emod_of_nonneg h1
 rw[u32w (n:=v) (by omega) (by omega),u32w (by omega) (by omega),e5,e3,i64w (n:=v%5) (by omega) (by omega),i64w (n:=v%3) (by omega) (by omega),i64w (n:=3+v%5) (by omega) (by omega),i64w (n:=4+v%3) (by omega) (by omega),limit_made]
 exact⟨ok4' 0,ok4' _,by omega,by omega,by omega,rfl⟩
def KParams.pre (p:Par):Prop:=True
def KParams.fn (p:Par):Bool:=decide (p.2.2.2.2.2.2.1.length≤8)
def KParams.VC :Prop:=∀(x0:Par),KParams.pre x0→(Ret1 (decide ((x0.2.2.2.2.2.2.1.length:Int)≤(8:Int))) (KParams.fn x0))
theorem KParams.vc :KParams.VC:=by
 intro p _
 rw[ret1,KParams.fn,decide_eq_decide];omega
def KContext.pre (c:Cx):Prop:=True
def KContext.fn (c:Cx):Bool:=decide (c.2.2.2.2.1.length≤16)
theorem made_ok {v:Int}(h:0≤v∧v≤255):PGood (madeParams v):=by
 have hl:Ok4 (Wn 4 (Big/2-1)):=ok4' _
 have u:∀n:Nat,n<4294967296→U32 ((n:Nat):Int):=fun n hn=>⟨by omega,by omega⟩
 exact⟨⟨hl,u 545259519 (by omega),by show List.length []≤8;simp⟩,⟨u 1 (by omega),HOk.zero,HOk.zero,⟨by show 0≤1000+v;omega,by show 1000+v≤4294967295;omega⟩,u 545259519 (by omega),U32.zero⟩,u 600 (by omega),u 1 (by omega)⟩
theorem made_expand :expandN (Int.toNat 545259519)≠0∧expandN (Int.toNat 545259519)≤Big/2-1:=by decide+kernel
theorem made_limit :N4 (Wn 4 (Big/2-1))=Big/2-1:=N4_W4 (by decide+kernel)
theorem made_valid {v:Int}(h:0≤v∧v≤255):validFn (madeParams v)=true:=by
 rw[valid_iff]
 obtain⟨e1,e2⟩:=made_expand
 refine⟨?_,⟨?_, ?_⟩,⟨by show(1:Int)≤5;omega,by show(5:Int)≤1048576;omega⟩,⟨by show(0:Int)≤1000;omega,by show(1000:Int)≤2100000000000000;omega⟩,⟨?_, ?_⟩,⟨?_, ?_⟩,rfl,e1, ?_⟩
 ·show N4 (Wn 4 (Big/2-1))≠0
  rw[made_limit];decide+kernel
 ·show 1≤3+v%5;omega
 ·show 3+v%5≤4096;omega
 ·show 1≤4+v%3;omega
 ·show 4+v%3≤16777216;omega
 ·show 0≤v%3;omega
 ·show v%3≤16777216;omega
 ·show expandN (Int.toNat 545259519)≤N4 (Wn 4 (Big/2-1))
  rw[made_limit];exact e2
def KSome.pre (l:List Int)(n:Int):Prop:=0≤n
def KSome.fn (l:List Int)(n:Int):List Int:=l.take n.toNat
def KSome.VC :Prop:=∀(x0:(List Int)) (x1:Int),KSome.pre x0 x1→(0≤(0:Int)∧(0:Int)≤(if x1<(x0.length:Int) then x1 else(x0.length:Int))∧(if x1<(x0.length:Int) then x1 else(x0.length:Int))≤(x0.length:Int))∧(let v10:(List Int):=((x0.drop (Int.toNat (0:Int))).take ((Int.toNat (if x1<(x0.length:Int) then x1 else(x0.length:Int)))-(Int.toNat (0:Int))))
 (Ret1 v10 (KSome.fn x0 x1)))
theorem KSome.vc :KSome.VC:=by
 intro l n hn
 have hn:0≤n:=hn
 have e:∃k:Nat,(if n<(l.length:Int) then n else(l.length:Int))=(k:Int)∧k≤l.length∧l.take k=l.take n.toNat:=by
  by_cases h:n<l.length
  ·exact⟨n.toNat,by rw[if_pos h];omega,by omega,rfl⟩
  ·exact⟨l.length,by rw[if_neg h],by omega,by rw[List.take_of_length_le (Nat.le_refl _),List.take_of_length_le (by omega)]⟩
 obtain⟨k,e1,e2,e3⟩:=e
 rw[e1]
 refine⟨⟨by omega,by omega,by omega⟩,ret1.2 ?_⟩
 show(l.drop 0).take (Int.toNat (k:Int)-0)=_
 rw[Int.toNat_natCast,List.drop_zero,Nat.sub_zero,e3];rfl
def secFn (s:Int):Int:=20+s%8*15
def MSec.pre (s:Int):Prop:=0≤s∧s≤255
def MSec.fn (s:Int):Int:=secFn s
def MSec.VC :Prop:=∀(x0:Int),MSec.pre x0→(8:Int)≠0∧(let v6:Int:=(IntKind.u32.wrap ((IntKind.u32.wrap (Int.tmod x0 (8:Int)))*(15:Int)))
 (Ret1 (IntKind.u32.wrap ((20:Int)+v6)) (MSec.fn x0)))
theorem MSec.vc :MSec.VC:=by
 intro s ⟨h1,h2⟩
 have e:Int.tmod s 8=s%8:=Int.tmod_eq_emod_of_nonneg h1
 simp only[e,u32w (n:=s%8) (by omega) (by omega),u32w (n:=s%8*15) (by omega) (by omega),u32w (n:=20+s%8*15) (by omega) (by omega)]
 exact⟨by omega,rfl⟩
theorem compact_lt {n:Nat}(hB:n<Big):compactN n<4294967296:=by
 unfold compactN
 split
 ·omega
 ·rename_i hn
  have hm:=manti_lt hn
  have hb:=bl_big hB
  have he:expo n≤33:=by unfold expo;omega
  omega
theorem next_u32 {p:Par}{c:Cx}(hp:ParOk p∧CxOk c):U32 (nextFn p c).1:=by
 unfold nextFn
 split
 ·exact U32.zero
 ·split
  ·unfold adjFn
   split
   ·exact U32.zero
   ·split
    ·exact U32.zero
    ·refine⟨by simp only;omega, ?_⟩
     have hq:(if adjQ p c.2.2.1 c.2.2.2.1 (c.2.2.2.2.1.getD (c.2.2.2.2.1.length-1) 0)=0 then 1 else adjQ p c.2.2.1 c.2.2.2.1 (c.2.2.2.2.1.getD (c.2.2.2.2.1.length-1) 0))<Big:=by
      split
      ·decide+kernel
      ·exact Nat.lt_of_le_of_lt (Nat.min_le_right _ _) hp.1.1.lt
     have:=compact_lt hq
     simp only
     omega
  ·exact hp.2.1
def incN (h:Hdr):Hdr:=(h.1,h.2.1,h.2.2.1,h.2.2.2.1,h.2.2.2.2.1,h.2.2.2.2.2.1+1,())
noncomputable def mineGo (bits:Int):Nat→Hdr→Hdr
 |0,h=>h
 |k+1,h=>if meetsFn (hashH h) bits=true then h else mineGo bits k (incN h)
theorem mineGo_succ (bits:Int)(k:Nat)(h:Hdr):mineGo bits (k+1) h=if meetsFn (hashH h) bits=true then h else mineGo bits k (incN h):=rfl
def mine0 (p:Par)(c:Cx)(root:List Int)(by':Int):Hdr:=(p.2.2.2.2.2.1,c.2.1,root,IntKind.u32.wrap (IntKind.u32.wrap (medianFn c.2.2.2.2.1+1)+by'),(nextFn p c).1,0,())
noncomputable def mineFn (p:Par)(c:Cx)(root:List Int)(by':Int):Hdr:=mineGo (nextFn p c).1 20000 (mine0 p c root by')
def MMine.pre (p:Par)(c:Cx)(root:List Int)(b:Int):Prop:=PGood p∧CGood c∧HOk root
noncomputable def MMine.fn (p:Par)(c:Cx)(root:List Int)(b:Int):Hdr:=mineFn p c root b
def MMine.inv4 (p:Par)(c:Cx)(root:List Int)(b:Int)(z h:Hdr):Prop:=HdrOk h∧h.2.2.2.2.2.1≤20000∧mineFn p c root b=mineGo (nextFn p c).1 (20000-h.2.2.2.2.2.1).toNat h
def MMine.mes4 (p:Par)(c:Cx)(root:List Int)(b:Int)(z h:Hdr):Nat:=(20000-h.2.2.2.2.2.1).toNat
def MMine.VC :Prop:=∀(x0:Par) (x1:Cx) (x2:(List Int)) (x3:Int),MMine.pre x0 x1 x2 x3→(let v8h:Hdr:=((0:Int),((List.replicate 32 (0:Int)),((List.replicate 32 (0:Int)),((0:Int),((0:Int),((0:Int),()))))))
 QNext.pre x0 x1∧QMedian.pre x1.2.2.2.2.1∧(let v28:Int:=(IntKind.u32.wrap ((IntKind.u32.wrap ((QMedian.fn x1.2.2.2.2.1)+(1:Int)))+x3))
 (let v30:Hdr:=(x0.2.2.2.2.2.1,(x1.2.1,(x2,(v28,((QNext.fn x0 x1).1,((0:Int),()))))))
 (let v11h:Hdr:=((0:Int),((List.replicate 32 (0:Int)),((List.replicate 32 (0:Int)),((0:Int),((0:Int),((0:Int),()))))))
 (let v11_1h:Hdr:=(v30.1,(v30.2.1,(v30.2.2.1,(v30.2.2.2.1,(v30.2.2.2.2.1,((0:Int),v30.2.2.2.2.2.2))))))
 (MMine.inv4 x0 x1 x2 x3 v8h v11_1h∧∀(v8_1:Hdr) (v11_2:Hdr),MMine.inv4 x0 x1 x2 x3 v8_1 v11_2→(((decide (v11_2.2.2.2.2.2.1<(20000:Int)))=true→RHdr.pre v11_2∧QMeets.pre (RHdr.fn v11_2) ((QNext.fn x0 x1).1)∧(((QMeets.fn (RHdr.fn v11_2) ((QNext.fn x0 x1).1))=true→(Ret1 v11_2 (MMine.fn x0 x1 x2 x3)))∧((QMeets.fn (RHdr.fn v11_2) ((QNext.fn x0 x1).1))=false→(let v11_3h:Hdr:=(v11_2.1,(v11_2.2.1,(v11_2.2.2.1,(v11_2.2.2.2.1,(v11_2.2.2.2.2.1,((IntKind.u32.wrap (v11_2.2.2.2.2.2.1+(1:Int))),v11_2.2.2.2.2.2.2))))))
 (MMine.inv4 x0 x1 x2 x3 v8_1 v11_3h∧MMine.mes4 x0 x1 x2 x3 v8_1 v11_3h<MMine.mes4 x0 x1 x2 x3 v8_1 v11_2)))))∧((decide (v11_2.2.2.2.2.2.1<(20000:Int)))=false→(Ret1 v11_2 (MMine.fn x0 x1 x2 x3))))))))))
theorem mine0_ok {p:Par}{c:Cx}{root:List Int}{b:Int}(h:PGood p∧CGood c∧HOk root):HdrOk (mine0 p c root b):=
 ⟨h.1.2.2.2,h.2.1.2.1,h.2.2,u32r _,next_u32 ⟨h.1.1,h.2.1.1⟩,U32.zero⟩
theorem inc_ok {h:Hdr}(hh:HdrOk h)(hn:h.2.2.2.2.2.1<20000):HdrOk (incN h):=
 ⟨hh.1,hh.2.1,hh.2.2.1,hh.2.2.2.1,hh.2.2.2.2.1,⟨by have:=hh.2.2.2.2.2.1;show 0≤h.2.2.2.2.2.1+1;omega,by show h.2.2.2.2.2.1+1≤_;omega⟩⟩
theorem mineGo_ok (bits:Int):∀(k:Nat) (h:Hdr),HdrOk h→h.2.2.2.2.2.1+k≤20000→HdrOk (mineGo bits k h)
 |0,h,hh,_=>hh
 |k+1,h,hh,hn=>by
  rw[mineGo_succ]
  split
  ·exact hh
  ·exact mineGo_ok bits k (incN h) (inc_ok hh (by omega)) (by show h.2.2.2.2.2.1+1+(k:Int)≤20000;omega)
theorem mine_ok {p:Par}{c:Cx}{root:List Int}{b:Int}(h:PGood p∧CGood c∧HOk root):HdrOk (mineFn p c root b):=
 mineGo_ok _ _ _ (mine0_ok h) (by show(0:Int)+((20000:Nat):Int)≤20000;omega)
theorem MMine.vc :MMine.VC:=by
 intro p c root b hp
 simp only[QNext.fn,QMedian.fn,RHdr.fn,QMeets.fn,MMine.fn,ret1]
 refine⟨⟨hp.1.1,hp.2.1.1⟩,hp.2.1.2.2,⟨mine0_ok hp,by show(0:Int)≤20000;omega,rfl⟩, ?_⟩
 rintro z h ⟨k1,k2,k3⟩
 have k0:=k1.2.2.2.2.2.1
 refine⟨fun hc=> ?_,fun hc=> ?_⟩
 ·have hc:h.2.2.2.2.2.1<20000:=of_decide_eq_true hc
  rw[show(20000-h.2.2.2.2.2.1).toNat=(20000-(h.2.2.2.2.2.1+1)).toNat+1 by omega,mineGo_succ] at k3
  refine⟨k1,⟨hashH_ok h,next_u32 ⟨hp.1.1,hp.2.1.1⟩⟩,fun hm=> ?_,fun hm=> ?_⟩
  ·rw[k3,if_pos hm]
  ·rw[u32w (by omega) (by omega)]
   refine⟨⟨inc_ok k1 hc,by show h.2.2.2.2.2.1+1≤20000;omega, ?_⟩,by simp only[MMine.mes4];omega⟩
   rw[k3,if_neg (by rw[hm];simp)];rfl
 ·have hc:¬h.2.2.2.2.2.1<20000:=of_decide_eq_false hc
  rw[k3,show(20000-h.2.2.2.2.2.1).toNat=0 by omega];rfl
def rootS (s:Int):List Int:=(List.replicate 32 (0:Int)).set 0 s
noncomputable def headersGo (p:Par):Cx→List Int→List Hdr
 |_,[]=>[]
 |c,s::r=>if checkFn p c (mineFn p c (rootS s) (secFn s)) 1073741824≠0 then[] else mineFn p c (rootS s) (secFn s)::headersGo p (advFn p c (mineFn p c (rootS s) (secFn s))).1 r
def MHeaders.pre (p:Par)(c:Cx)(l:List Int):Prop:=PGood p∧CGood c∧Bytes l∧l.length≤1000
noncomputable def MHeaders.fn (p:Par)(c:Cx)(l:List Int):List Hdr:=headersGo p c l
def MHeaders.inv3 (p:Par)(c:Cx)(l:List Int)(c':Cx)(o:List Hdr)(i:Int):Prop:=0≤i∧i≤l.length∧CGood c'∧(o.length:Int)=i∧headersGo p c l=o++headersGo p c' (l.drop i.toNat)
def MHeaders.mes3 (p:Par)(c:Cx)(l:List Int)(c':Cx)(o:List Hdr)(i:Int):Nat:=(l.length-i).toNat
theorem drop_int {l:List Int}{i:Int}(h0:0≤i)(h1:i<l.length):l.drop i.toNat=l.getD i.toNat 0::l.drop (i+1).toNat:=by
 rw[show(i+1).toNat=i.toNat+1 by omega,List.drop_eq_getElem_cons (show i.toNat<l.length by omega)]
 simp[List.getD_eq_getElem?_getD,show i.toNat<l.length by omega]
end Lc
namespace Lc
open Go
def PRng (p:Par):Prop:=Ok4 p.2.1∧HdrOk p.1∧U32 p.2.2.2.2.1∧U32 p.2.2.2.2.2.1
def CRng (c:Cx):Prop:=CxOk c∧HOk c.2.1
theorem PRng.good {p:Par}(h:PRng p)(hk:p.2.2.2.2.2.2.1.length≤8):PGood p:=⟨⟨h.1,h.2.1.2.2.2.2.1,hk⟩,h.2⟩
theorem CRng.good {c:Cx}(h:CRng c)(hk:c.2.2.2.2.1.length≤16):CGood c:=⟨h.1,h.2,by omega⟩
end Lc
