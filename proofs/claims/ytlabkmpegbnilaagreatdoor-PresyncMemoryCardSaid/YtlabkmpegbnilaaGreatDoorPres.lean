/- Work and total work: the functions of the program and of the reference as plain functions, and the proofs of their conditions. -/
import Derived.Test.YtlabkmpegbnilaaGreatDoorRulings
set_option linter.unusedVariables false
set_option linter.unusedSimpArgs false
set_option maxRecDepth 100000
namespace Lc
open Go
def WAdd.pre (a b:List Int):Prop:=Ok4 a∧Ok4 b
def WAdd.fn (a b:List Int):List Int×Bool:=(Wn 4 (N4 a+N4 b),decide (Big≤N4 a+N4 b))
def WAdd.inv4 (a b v4 v6:List Int)(c i:Int):Prop:=QAdd.inv4 a b v4 v6 c i
def WAdd.mes4 (a b v4 v6:List Int)(c i:Int):Nat:=(4-i).toNat
def WAdd.VC :Prop:=∀(x0:(List Int)) (x1:(List Int)),WAdd.pre x0 x1→(WAdd.inv4 x0 x1 (List.replicate 4 (0:Int)) (List.replicate 4 (0:Int)) (0:Int) (0:Int)∧∀(v4:(List Int)) (v6:(List Int)) (v7:Int) (v9:Int),WAdd.inv4 x0 x1 v4 v6 v7 v9→(((decide (v9<(4:Int)))=true→(0≤v9∧v9<4)∧(0≤v9∧v9<4)∧Add64.pre (x0.getD (Int.toNat v9) (0:Int)) (x1.getD (Int.toNat v9) (0:Int)) v7∧(let v22:Int:=(Add64.fn (x0.getD (Int.toNat v9) (0:Int)) (x1.getD (Int.toNat v9) (0:Int)) v7).1
 (let v23:Int:=(Add64.fn (x0.getD (Int.toNat v9) (0:Int)) (x1.getD (Int.toNat v9) (0:Int)) v7).2
 (0≤v9∧v9<4)∧(WAdd.inv4 x0 x1 v4 (v6.set (Int.toNat v9) v22) v23 (IntKind.i64.wrap (v9+(1:Int)))∧WAdd.mes4 x0 x1 v4 (v6.set (Int.toNat v9) v22) v23 (IntKind.i64.wrap (v9+(1:Int)))<WAdd.mes4 x0 x1 v4 v6 v7 v9))))∧((decide (v9<(4:Int)))=false→(Ret2 v6 (v7 !=(0:Int)) (WAdd.fn x0 x1)))))
theorem WAdd.vc :WAdd.VC:=by
 rintro a b ⟨⟨n,hn,rfl⟩,⟨m,hm,rfl⟩⟩
 simp only[WAdd.inv4,QAdd.inv4,WAdd.fn,N4_W4 hn,N4_W4 hm]
 refine⟨⟨by omega,by omega,by rw[Int.toNat_zero,mix_zero];rfl,by simp[carry,Nat.mod_one]⟩, ?_⟩
 rintro v4 v6 c i ⟨k1,k2,rfl,rfl⟩
 refine⟨fun hc=> ?_,fun hc=> ?_⟩
 ·have hc:i<4:=of_decide_eq_true hc
  have hi:0≤i∧i<4:=⟨k1,hc⟩
  have hcl:=carry_le n m i.toNat
  have hd:=add_dig n m i.toNat
  have hs:=carry_succ n m i.toNat
  rw[ok4_get hi,ok4_get hi,i64w (by omega) (by omega)]
  refine⟨hi,hi,⟨u64_dig _ _,u64_dig _ _,by omega,by omega⟩,hi,⟨by omega,by omega,mixZ_set hi ?_ Z4_len, ?_⟩,by simp only[WAdd.mes4];omega⟩
  ·simp only[Add64.fn];omega
  ·simp only[Add64.fn];rw[show(i+1).toNat=i.toNat+1 by omega];omega
 ·have hc:¬i<4:=of_decide_eq_false hc
  have e:i.toNat=4:=by omega
  rw[e,mix_all (by rw[Wn_len];omega) (by decide)]
  refine ret2.2 (Prod.ext rfl ?_)
  have hcv:carry n m 4=(n+m)/Big:=by
   unfold carry
   rw[show 2^(64*4)=Big from big_pow.symm,Nat.mod_eq_of_lt hn,Nat.mod_eq_of_lt hm]
  rw[hcv,Bool.eq_iff_iff]
  simp only[bne_iff_ne,ne_eq,decide_eq_true_eq]
  unfold Big at*
  omega
def WNot.pre (a:List Int):Prop:=Ok4 a
def WNot.fn (a:List Int):List Int:=Wn 4 (Big-1-N4 a)
def WNot.VC :Prop:=∀(x0:(List Int)),WNot.pre x0→(0≤(0:Int)∧(0:Int)<4)∧(0≤(1:Int)∧(1:Int)<4)∧(0≤(2:Int)∧(2:Int)<4)∧(0≤(3:Int)∧(3:Int)<4)∧(let v15:(List Int):=[(inot .u64 (x0.getD (Int.toNat (0:Int)) (0:Int))),(inot .u64 (x0.getD (Int.toNat (1:Int)) (0:Int))),(inot .u64 (x0.getD (Int.toNat (2:Int)) (0:Int))),(inot .u64 (x0.getD (Int.toNat (3:Int)) (0:Int)))]
 (Ret1 v15 (WNot.fn x0)))
theorem WNot.vc :WNot.VC:=by
 rintro a ⟨n,hn,rfl⟩
 refine⟨by omega,by omega,by omega,by omega, ?_⟩
 have hB:=hn
 unfold Big at hB
 simp only[WNot.fn,N4_W4 hn]
 have g:∀k,k<4→inot .u64 ((Wn 4 n).getD k 0)=((18446744073709551615-dig n k:Nat):Int):=fun k hk=>by rw[Wn_getD n hk,not64 (dig_lt _ _)]
 have g0:=g 0 (by omega)
 have g1:=g 1 (by omega)
 have g2:=g 2 (by omega)
 have g3:=g 3 (by omega)
 refine ret1.2 ?_
 show[inot .u64 ((Wn 4 n).getD 0 0),inot .u64 ((Wn 4 n).getD 1 0),inot .u64 ((Wn 4 n).getD 2 0),inot .u64 ((Wn 4 n).getD 3 0)]=_
 rw[g0,g1,g2,g3,W4_eq]
 simp only[dig0,dig1,dig2,dig3,Big,List.cons.injEq,and_true]
 omega
def workN (n:Nat):Nat:=if n=0 then Big-1 else if Big≤n+1 then 1 else Big/(n+1)
def totN (a b:Nat):Nat:=min (a+b) (Big-1)
theorem big_pos :0<Big:=by decide+kernel
theorem workN_lt (n:Nat):workN n<Big:=by
 unfold workN
 split
 ·have:=big_pos;omega
 ·split
  ·decide+kernel
  ·exact Nat.div_lt_self big_pos (by omega)
theorem workN_pos (n:Nat):0<workN n:=by
 unfold workN
 split
 ·decide+kernel
 ·split
  ·decide
  ·rename_i h1 h2;exact Nat.div_pos (by omega) (by omega)
theorem totN_lt (a b:Nat):totN a b<Big:=by unfold totN;have:=big_pos;omega
def workFn (a:List Int):List Int:=Wn 4 (workN (N4 a))
def totFn (a b:List Int):List Int:=Wn 4 (totN (N4 a) (N4 b))
theorem workFn_N (a:List Int):N4 (workFn a)=workN (N4 a):=N4_W4 (workN_lt _)
theorem totFn_N (a b:List Int):N4 (totFn a b)=totN (N4 a) (N4 b):=N4_W4 (totN_lt _ _)
theorem zeroW4 :List.replicate 4 (0:Int)=Wn 4 0:=by rfl
theorem zero4_ok :Ok4 (List.replicate 4 (0:Int)):=by rw[zeroW4];exact ok4' _
theorem zero4_N :N4 (List.replicate 4 (0:Int))=0:=by rw[zeroW4];exact N4_W4 (by decide)
theorem one4_N :N4 (Wn 4 (Int.toNat 1))=1:=N4_W4 (by decide)
theorem one64 :W64 (1:Int):=⟨by omega,by omega⟩
theorem totAdd (n m:Nat):(Big≤n+m→Wn 4 (Big-1-0)=Wn 4 (totN n m))∧(¬Big≤n+m→Wn 4 (n+m)=Wn 4 (totN n m)):=by
 constructor
 ·intro h;congr 1;unfold totN;omega
 ·intro h;congr 1;unfold totN;omega
theorem work_div {n:Nat}(h0:n≠0)(hB:¬Big≤n+1):(divFn (Wn 4 (Int.toNat 1)) (List.replicate 4 (0:Int)) (Wn 4 (n+1))).1=Wn 4 (workN n):=by
 rw[divFn,one4_N,zero4_N,N4_W4 (by omega),if_neg (by omega),Nat.one_mul,Nat.add_zero]
 unfold workN
 rw[if_neg h0,if_neg hB]
def TWork.pre (a:List Int):Prop:=Ok4 a
def TWork.fn (a:List Int):List Int:=workFn a
def TWork.VC :Prop:=∀(x0:(List Int)),TWork.pre x0→(let v10:Bool:=(Ty.beq (.arr 4 (.int .u64)) x0 (List.replicate 4 (0:Int)))
 ((v10=true→WNot.pre (List.replicate 4 (0:Int))∧(Ret1 (WNot.fn (List.replicate 4 (0:Int))) (TWork.fn x0)))∧(v10=false→WFrom.pre (1:Int)∧WAdd.pre x0 (WFrom.fn (1:Int))∧(((WAdd.fn x0 (WFrom.fn (1:Int))).2=true→WFrom.pre (1:Int)∧(Ret1 (WFrom.fn (1:Int)) (TWork.fn x0)))∧((WAdd.fn x0 (WFrom.fn (1:Int))).2=false→WFrom.pre (1:Int)∧WDiv.pre (WFrom.fn (1:Int)) (List.replicate 4 (0:Int)) ((WAdd.fn x0 (WFrom.fn (1:Int))).1)∧(let v26:(List Int):=(WDiv.fn (WFrom.fn (1:Int)) (List.replicate 4 (0:Int)) ((WAdd.fn x0 (WFrom.fn (1:Int))).1)).1
 (let v27:(List Int):=(WDiv.fn (WFrom.fn (1:Int)) (List.replicate 4 (0:Int)) ((WAdd.fn x0 (WFrom.fn (1:Int))).1)).2.1
 (let v28:Bool:=(WDiv.fn (WFrom.fn (1:Int)) (List.replicate 4 (0:Int)) ((WAdd.fn x0 (WFrom.fn (1:Int))).1)).2.2
 (Ret1 v26 (TWork.fn x0))))))))))
theorem TWork.vc :TWork.VC:=by
 rintro a ⟨n,hn,rfl⟩
 simp only[zeq (ok4 hn),TWork.fn,WNot.fn,WFrom.fn,WAdd.fn,WDiv.fn,workFn,N4_W4 hn,zero4_N,one4_N,ret1]
 refine⟨fun hz=>⟨zero4_ok, ?_⟩,fun hz=>⟨one64,⟨ok4 hn,ok4' _⟩,fun hc=>⟨one64, ?_⟩,fun hc=>⟨one64,⟨ok4' _,zero4_ok,ok4' _⟩, ?_⟩⟩⟩
 ·have hz:n=0:=of_decide_eq_true hz
  subst hz;rfl
 ·have hz:n≠0:=of_decide_eq_false hz
  have hc:Big≤n+1:=of_decide_eq_true hc
  unfold workN
  rw[if_neg hz,if_pos hc];rfl
 ·exact work_div (of_decide_eq_false hz) (of_decide_eq_false hc)
def TTotal.pre (a b:List Int):Prop:=Ok4 a∧Ok4 b
def TTotal.fn (a b:List Int):List Int:=totFn a b
def TTotal.VC :Prop:=∀(x0:(List Int)) (x1:(List Int)),TTotal.pre x0 x1→WAdd.pre x0 x1∧(((WAdd.fn x0 x1).2=true→WNot.pre (List.replicate 4 (0:Int))∧(Ret1 (WNot.fn (List.replicate 4 (0:Int))) (TTotal.fn x0 x1)))∧((WAdd.fn x0 x1).2=false→(Ret1 ((WAdd.fn x0 x1).1) (TTotal.fn x0 x1))))
theorem TTotal.vc :TTotal.VC:=by
 intro a b hp
 simp only[WAdd.fn,WNot.fn,TTotal.fn,totFn,zero4_N,ret1]
 exact⟨hp,fun hc=>⟨zero4_ok,(totAdd _ _).1 (of_decide_eq_true hc)⟩,fun hc=>(totAdd _ _).2 (of_decide_eq_false hc)⟩
def QWork.pre (a:List Int):Prop:=Ok4 a
def QWork.fn (a:List Int):List Int:=workFn a
def QWork.VC :Prop:=∀(x0:(List Int)),QWork.pre x0→QZero.pre x0∧(((QZero.fn x0)=true→QNot.pre (List.replicate 4 (0:Int))∧(Ret1 (QNot.fn (List.replicate 4 (0:Int))) (QWork.fn x0)))∧((QZero.fn x0)=false→QFromUint.pre (1:Int)∧QAdd.pre x0 (QFromUint.fn (1:Int))∧(((QAdd.fn x0 (QFromUint.fn (1:Int))).2=true→QFromUint.pre (1:Int)∧(Ret1 (QFromUint.fn (1:Int)) (QWork.fn x0)))∧((QAdd.fn x0 (QFromUint.fn (1:Int))).2=false→QFromUint.pre (1:Int)∧QDiv.pre (QFromUint.fn (1:Int)) (List.replicate 4 (0:Int)) ((QAdd.fn x0 (QFromUint.fn (1:Int))).1)∧(let v25:(List Int):=(QDiv.fn (QFromUint.fn (1:Int)) (List.replicate 4 (0:Int)) ((QAdd.fn x0 (QFromUint.fn (1:Int))).1)).1
 (let v26:(List Int):=(QDiv.fn (QFromUint.fn (1:Int)) (List.replicate 4 (0:Int)) ((QAdd.fn x0 (QFromUint.fn (1:Int))).1)).2.1
 (let v27:Bool:=(QDiv.fn (QFromUint.fn (1:Int)) (List.replicate 4 (0:Int)) ((QAdd.fn x0 (QFromUint.fn (1:Int))).1)).2.2
 (Ret1 v25 (QWork.fn x0)))))))))
theorem QWork.vc :QWork.VC:=by
 rintro a ⟨n,hn,rfl⟩
 simp only[QZero.fn,QWork.fn,QNot.fn,QFromUint.fn,QAdd.fn,QDiv.fn,workFn,N4_W4 hn,zero4_N,one4_N,ret1]
 refine⟨ok4 hn,fun hz=>⟨zero4_ok, ?_⟩,fun hz=>⟨one64,⟨ok4 hn,ok4' _⟩,fun hc=>⟨one64, ?_⟩,fun hc=>⟨one64,⟨ok4' _,zero4_ok,ok4' _⟩, ?_⟩⟩⟩
 ·have hz:n=0:=of_decide_eq_true hz
  subst hz;rfl
 ·have hz:n≠0:=of_decide_eq_false hz
  have hc:Big≤n+1:=of_decide_eq_true hc
  unfold workN
  rw[if_neg hz,if_pos hc];rfl
 ·exact work_div (of_decide_eq_false hz) (of_decide_eq_false hc)
def QTotal.pre (a b:List Int):Prop:=Ok4 a∧Ok4 b
def QTotal.fn (a b:List Int):List Int:=totFn a b
def QTotal.VC :Prop:=∀(x0:(List Int)) (x1:(List Int)),QTotal.pre x0 x1→QAdd.pre x0 x1∧(((QAdd.fn x0 x1).2=true→QNot.pre (List.replicate 4 (0:Int))∧(Ret1 (QNot.fn (List.replicate 4 (0:Int))) (QTotal.fn x0 x1)))∧((QAdd.fn x0 x1).2=false→(Ret1 ((QAdd.fn x0 x1).1) (QTotal.fn x0 x1))))
theorem QTotal.vc :QTotal.VC:=by
 intro a b hp
 simp only[QAdd.fn,QNot.fn,QTotal.fn,totFn,zero4_N,ret1]
 exact⟨hp,fun hc=>⟨zero4_ok,(totAdd _ _).1 (of_decide_eq_true hc)⟩,fun hc=>(totAdd _ _).2 (of_decide_eq_false hc)⟩
end Lc
set_option maxRecDepth 100000
namespace Lc
open Go
abbrev Pst :=Int×List Int×List Int×Cx×List Int×Cx×List Int×Int×List Bool×List Hdr×Unit
abbrev Mc :=Pst×Par×Int×List Hdr×Unit
def zps :Pst:=(0,List.replicate 32 0,List.replicate 4 0,zc,List.replicate 4 0,zc,List.replicate 4 0,0,[],[],())
def SConcat.pre (l:List (List Int)):Prop:=l.flatten.length≤1000000∧l.length≤1000000
def SConcat.fn (l:List (List Int)):List Int:=l.flatten
def SConcat.inv3 (l:List (List Int))(s i:Int):Prop:=0≤i∧i≤l.length∧s=((l.take i.toNat).flatten.length:Int)
def SConcat.mes3 (l:List (List Int))(s i:Int):Nat:=(l.length-i).toNat
def SConcat.inv11 (l:List (List Int))(o:List Int)(i:Int):Prop:=0≤i∧i≤l.length∧o=(l.take i.toNat).flatten
def SConcat.mes11 (l:List (List Int))(o:List Int)(i:Int):Nat:=(l.length-i).toNat
def SConcat.VC :Prop:=∀(x0:(List (List Int))),SConcat.pre x0→(SConcat.inv3 x0 (0:Int) (0:Int)∧∀(v3:Int) (v11:Int),SConcat.inv3 x0 v3 v11→(((decide (v11<(x0.length:Int)))=true→(0≤v11∧v11<(x0.length:Int))∧(let v18:Int:=(IntKind.i64.wrap (v3+((x0.getD (Int.toNat v11) []).length:Int)))
 (((decide (v18<(0:Int)))=true→False∧False∧(SConcat.inv3 x0 v18 (IntKind.i64.wrap (v11+(1:Int)))∧SConcat.mes3 x0 v18 (IntKind.i64.wrap (v11+(1:Int)))<SConcat.mes3 x0 v3 v11))∧((decide (v18<(0:Int)))=false→(SConcat.inv3 x0 v18 (IntKind.i64.wrap (v11+(1:Int)))∧SConcat.mes3 x0 v18 (IntKind.i64.wrap (v11+(1:Int)))<SConcat.mes3 x0 v3 v11)))))∧((decide (v11<(x0.length:Int)))=false→(0≤v3∧v3≤1000000)∧(SConcat.inv11 x0 ([]:List Int) (0:Int)∧∀(v6:(List Int)) (v27:Int),SConcat.inv11 x0 v6 v27→(((decide (v27<(x0.length:Int)))=true→(0≤v27∧v27<(x0.length:Int))∧Room (v6.length+(x0.getD (Int.toNat v27) []).length) 1∧(SConcat.inv11 x0 (v6++(x0.getD (Int.toNat v27) [])) (IntKind.i64.wrap (v27+(1:Int)))∧SConcat.mes11 x0 (v6++(x0.getD (Int.toNat v27) [])) (IntKind.i64.wrap (v27+(1:Int)))<SConcat.mes11 x0 v6 v27))∧((decide (v27<(x0.length:Int)))=false→(Ret1 v6 (SConcat.fn x0))))))))
theorem flat_take {l:List (List Int)}{i:Int}(h0:0≤i)(h1:i<l.length):(l.take (i+1).toNat).flatten=(l.take i.toNat).flatten++l.getD i.toNat []:=by
 rw[show(i+1).toNat=i.toNat+1 by omega,List.take_add_one,List.flatten_append]
 simp[List.getD_eq_getElem?_getD,show i.toNat<l.length by omega]
theorem flat_le (l:List (List Int))(k:Nat):(l.take k).flatten.length≤l.flatten.length:=by
 conv=>rhs;rw[←List.take_append_drop k l,List.flatten_append,List.length_append]
 omega
theorem SConcat.vc :SConcat.VC:=by
 intro l ⟨hl,hn⟩
 refine⟨⟨by omega,by omega,rfl⟩, ?_⟩
 rintro s i ⟨k1,k2,rfl⟩
 refine⟨fun hc=> ?_,fun hc=> ?_⟩
 ·have hc:i<l.length:=of_decide_eq_true hc
  have e:=flat_take k1 hc
  have hle:=flat_le l (i+1).toNat
  have el:=congrArg List.length e
  rw[List.length_append] at el
  have e2:IntKind.i64.wrap (((l.take i.toNat).flatten.length:Int)+((l.getD i.toNat []).length:Int))=((l.take (i+1).toNat).flatten.length:Int):=by rw[i64w (by omega) (by omega)];omega
  rw[e2,i64w (n:=i+1) (by omega) (by omega)]
  have hstep:SConcat.inv3 l ((l.take (i+1).toNat).flatten.length:Int) (i+1)∧SConcat.mes3 l ((l.take (i+1).toNat).flatten.length:Int) (i+1)<SConcat.mes3 l ((l.take i.toNat).flatten.length:Int) i:=⟨⟨by omega,by omega,rfl⟩,by simp only[SConcat.mes3];omega⟩
  exact⟨⟨k1,hc⟩,fun h=>absurd (of_decide_eq_true h) (by omega),fun _=>hstep⟩
 ·have hc:¬i<l.length:=of_decide_eq_false hc
  have hle:=flat_le l i.toNat
  refine⟨⟨by omega,by omega⟩,⟨by omega,by omega,rfl⟩, ?_⟩
  rintro o j ⟨m1,m2,rfl⟩
  refine⟨fun hd=> ?_,fun hd=> ?_⟩
  ·have hd:j<l.length:=of_decide_eq_true hd
   have e:=flat_take m1 hd
   have hle:=flat_le l (j+1).toNat
   have el:=congrArg List.length e
   rw[List.length_append] at el
   rw[←e,i64w (by omega) (by omega)]
   exact⟨⟨m1,hd⟩,room_of (by omega) (by omega),⟨by omega,by omega,rfl⟩,by simp only[SConcat.mes11];omega⟩
  ·have hd:¬j<l.length:=of_decide_eq_false hd
   rw[ret1,List.take_of_length_le (by omega)];rfl
def RJoin.pre (l:List (List Int)):Prop:=l.flatten.length≤1000000∧l.length≤1000000
def RJoin.fn (l:List (List Int)):List Int:=l.flatten
def RJoin.inv3 (l:List (List Int))(o:List Int)(i:Int):Prop:=0≤i∧i≤l.length∧o=(l.take i.toNat).flatten
def RJoin.mes3 (l:List (List Int))(o:List Int)(i:Int):Nat:=(l.length-i).toNat
def RJoin.VC :Prop:=∀(x0:(List (List Int))),RJoin.pre x0→(RJoin.inv3 x0 [] (0:Int)∧∀(v3:(List Int)) (v8:Int),RJoin.inv3 x0 v3 v8→(((decide (v8<(x0.length:Int)))=true→(0≤v8∧v8<(x0.length:Int))∧Joined.pre v3 (x0.getD (Int.toNat v8) [])∧(RJoin.inv3 x0 (Joined.fn v3 (x0.getD (Int.toNat v8) [])) (IntKind.i64.wrap (v8+(1:Int)))∧RJoin.mes3 x0 (Joined.fn v3 (x0.getD (Int.toNat v8) [])) (IntKind.i64.wrap (v8+(1:Int)))<RJoin.mes3 x0 v3 v8))∧((decide (v8<(x0.length:Int)))=false→(Ret1 v3 (RJoin.fn x0)))))
theorem RJoin.vc :RJoin.VC:=by
 intro l ⟨hl,hn⟩
 refine⟨⟨by omega,by omega,rfl⟩, ?_⟩
 rintro o i ⟨k1,k2,rfl⟩
 refine⟨fun hc=> ?_,fun hc=> ?_⟩
 ·have hc:i<l.length:=of_decide_eq_true hc
  have e:=flat_take k1 hc
  have hle:=flat_le l (i+1).toNat
  have el:=congrArg List.length e
  rw[List.length_append] at el
  simp only[Joined.fn,Joined.pre]
  rw[←e,i64w (n:=i+1) (by omega) (by omega)]
  exact⟨⟨k1,hc⟩,by omega,⟨by omega,by omega,rfl⟩,by simp only[RJoin.mes3];omega⟩
 ·have hc:¬i<l.length:=of_decide_eq_false hc
  rw[ret1,List.take_of_length_le (by omega)];rfl
def CloneB.pre (l:List Bool):Prop:=l.length≤2000
def CloneB.fn (l:List Bool):List Bool:=l
def CloneH.pre (l:List Hdr):Prop:=l.length≤2000
def CloneH.fn (l:List Hdr):List Hdr:=l
theorem run_nil (p:Par)(c:Cx)(now:Int):runFn p c [] now=if fitsFn p c=false then(zc,0,6) else(c,0,0):=rfl
def heldFn (p:Par)(c:Cx):Cx×Bool:=(if fitsFn p c=false then zc else c,fitsFn p c)
def PHeld.pre (p:Par)(c:Cx):Prop:=PGood p∧CGood c
def PHeld.fn (p:Par)(c:Cx):Cx×Bool:=heldFn p c
def PHeld.VC :Prop:=∀(x0:Par) (x1:Cx),PHeld.pre x0 x1→(let v4h:Cx:=((0:Int),((List.replicate 32 (0:Int)),((0:Int),((0:Int),([],())))))
 URun.pre x0 x1 [] (0:Int)∧(let v6h:Cx:=((0:Int),((List.replicate 32 (0:Int)),((0:Int),((0:Int),([],())))))
 (Ret2 ((URun.fn x0 x1 [] (0:Int)).1) ((URun.fn x0 x1 [] (0:Int)).2.2==(0:Int)) (PHeld.fn x0 x1))))
theorem PHeld.vc :PHeld.VC:=by
 intro p c ⟨h1,h2⟩
 simp only[URun.fn,run_nil,ret2,PHeld.fn,heldFn]
 refine⟨⟨h1,h2,fun h hh=>(by cases hh),by simp,U32.zero⟩, ?_⟩
 cases fitsFn p c<;>rfl
def comFn (salt:List Int)(H:Int):Bool:=decide (0≤H)&&decide (H%16=salt.getD 0 0%16)
noncomputable def bitFn (salt h:List Int):Bool:=iand .u8 ((sum (salt++h)).getD 31 0) 1==1
def PCommits.pre (s:Pst)(H:Int):Prop:=HOk s.2.1
def PCommits.fn (s:Pst)(H:Int):Bool:=comFn s.2.1 H
def PCommits.VC :Prop:=∀(x0:Pst) (x1:Int),PCommits.pre x0 x1→((decide (x1≥(0:Int)))=true→(decide (x1≥(0:Int)))=true)∧((decide (x1≥(0:Int)))=true→(16:Int)≠0)∧((decide (x1≥(0:Int)))=true→(decide (x1≥(0:Int)))=true)∧((decide (x1≥(0:Int)))=true→(0≤(0:Int)∧(0:Int)<32))∧((decide (x1≥(0:Int)))=true→(decide (x1≥(0:Int)))=true)∧((decide (x1≥(0:Int)))=true→(decide (x1≥(0:Int)))=true)∧((decide (x1≥(0:Int)))=true→(16:Int)≠0)∧((decide (x1≥(0:Int)))=true→(decide (x1≥(0:Int)))=true)∧((decide (x1≥(0:Int)))=true→(decide (x1≥(0:Int)))=true)∧((decide (x1≥(0:Int)))=true→(decide (x1≥(0:Int)))=true)∧((decide (x1≥(0:Int)))=true→(decide (x1≥(0:Int)))=true)∧(let v16:Bool:=(bif (decide (x1≥(0:Int))) then((Int.tmod x1 (16:Int))==(IntKind.i64.wrap (Int.tmod (x0.2.1.getD (Int.toNat (0:Int)) (0:Int)) (16:Int)))) else false)
 (Ret1 v16 (PCommits.fn x0 x1)))
theorem com_word {salt:List Int}(h:HOk salt)(H:Int):(bif (decide (H≥(0:Int))) then((Int.tmod H (16:Int))==(IntKind.i64.wrap (Int.tmod (salt.getD (Int.toNat (0:Int)) (0:Int)) (16:Int)))) else false)=comFn salt H:=by
 have hb:=h.2.getD (Int.toNat 0)
 have e0:Int.tmod (salt.getD (Int.toNat 0) 0) 16=salt.getD 0 0%16:=Int.tmod_eq_emod_of_nonneg hb.1
 rw[e0,i64w (by omega) (by omega),comFn]
 by_cases h0:0≤H
 ·have e1:Int.tmod H 16=H%16:=Int.tmod_eq_emod_of_nonneg h0
  rw[e1,decide_eq_true h0]
  simp only[cond_true,Bool.true_and]
  rw[Bool.eq_iff_iff];simp
 ·rw[decide_eq_false h0];rfl
theorem PCommits.vc :PCommits.VC:=by
 intro s H h
 simp only[imp_self,true_and]
 exact⟨fun _=>by omega,fun _=>by omega,fun _=>by omega,ret1.2 (com_word h H)⟩
def VCommits17.pre (s:Pst)(H:Int):Prop:=HOk s.2.1
def VCommits17.fn (s:Pst)(H:Int):Bool:=comFn s.2.1 H
def VCommits17.VC :Prop:=∀(x0:Pst) (x1:Int),VCommits17.pre x0 x1→((decide (x1≥(0:Int)))=true→(decide (x1≥(0:Int)))=true)∧((decide (x1≥(0:Int)))=true→(16:Int)≠0)∧((decide (x1≥(0:Int)))=true→(decide (x1≥(0:Int)))=true)∧((decide (x1≥(0:Int)))=true→(0≤(0:Int)∧(0:Int)<32))∧((decide (x1≥(0:Int)))=true→(decide (x1≥(0:Int)))=true)∧((decide (x1≥(0:Int)))=true→(decide (x1≥(0:Int)))=true)∧((decide (x1≥(0:Int)))=true→(16:Int)≠0)∧((decide (x1≥(0:Int)))=true→(decide (x1≥(0:Int)))=true)∧((decide (x1≥(0:Int)))=true→(decide (x1≥(0:Int)))=true)∧((decide (x1≥(0:Int)))=true→(decide (x1≥(0:Int)))=true)∧((decide (x1≥(0:Int)))=true→(decide (x1≥(0:Int)))=true)∧(let v16:Bool:=(bif (decide (x1≥(0:Int))) then((Int.tmod x1 (16:Int))==(IntKind.i64.wrap (Int.tmod (x0.2.1.getD (Int.toNat (0:Int)) (0:Int)) (16:Int)))) else false)
 (Ret1 v16 (VCommits17.fn x0 x1)))
theorem VCommits17.vc :VCommits17.VC:=by
 intro s H h
 simp only[imp_self,true_and]
 exact⟨fun _=>by omega,fun _=>by omega,fun _=>by omega,ret1.2 (com_word h H)⟩
def PCommitment.pre (s:Pst)(h:List Int):Prop:=HOk s.2.1∧HOk h
noncomputable def PCommitment.fn (s:Pst)(h:List Int):Bool:=bitFn s.2.1 h
def PCommitment.VC :Prop:=∀(x0:Pst) (x1:(List Int)),PCommitment.pre x0 x1→SConcat.pre [x0.2.1,x1]∧ShaSum.pre (SConcat.fn [x0.2.1,x1])∧(0≤(31:Int)∧(31:Int)<32)∧(let v13:Int:=((ShaSum.fn (SConcat.fn [x0.2.1,x1])).getD (Int.toNat (31:Int)) (0:Int))
 (Ret1 ((iand .u8 v13 (1:Int))==(1:Int)) (PCommitment.fn x0 x1)))
theorem flat2 (a b:List Int):[a,b].flatten=a++b:=by simp
theorem salt_ok {a b:List Int}(ha:HOk a)(hb:HOk b):SumOk (a++b):=⟨by rw[List.length_append,ha.1,hb.1];omega,ha.2.append hb.2⟩
theorem PCommitment.vc :PCommitment.VC:=by
 intro s h ⟨h1,h2⟩
 simp only[SConcat.fn,flat2,ShaSum.fn,ret1]
 exact⟨⟨by rw[flat2,List.length_append,h1.1,h2.1];omega,by simp⟩,salt_ok h1 h2,by omega,rfl⟩
def VCommitment17.pre (s:Pst)(h:List Int):Prop:=HOk s.2.1∧HOk h
noncomputable def VCommitment17.fn (s:Pst)(h:List Int):Bool:=bitFn s.2.1 h
def VCommitment17.VC :Prop:=∀(x0:Pst) (x1:(List Int)),VCommitment17.pre x0 x1→RJoin.pre [x0.2.1,x1]∧RefSum.pre (RJoin.fn [x0.2.1,x1])∧(0≤(31:Int)∧(31:Int)<32)∧(let v13:Int:=((RefSum.fn (RJoin.fn [x0.2.1,x1])).getD (Int.toNat (31:Int)) (0:Int))
 (Ret1 ((iand .u8 v13 (1:Int))==(1:Int)) (VCommitment17.fn x0 x1)))
theorem VCommitment17.vc :VCommitment17.VC:=by
 intro s h ⟨h1,h2⟩
 simp only[RJoin.fn,flat2,RefSum.fn,ret1]
 exact⟨⟨by rw[flat2,List.length_append,h1.1,h2.1];omega,by simp⟩,salt_ok h1 h2,by omega,rfl⟩
def beginFn (p:Par)(c:Cx)(base goal salt:List Int):Pst×Int:=
 if fitsFn p c=false then(zps,6) else if N4 goal≤N4 base then(zps,121) else((1,salt,goal,c,base,c,base,0,[],[],()),0)
def PBegin.pre (p:Par)(c:Cx)(base goal salt:List Int):Prop:=PGood p∧CGood c∧Ok4 base∧Ok4 goal
def PBegin.fn (p:Par)(c:Cx)(base goal salt:List Int):Pst×Int:=beginFn p c base goal salt
def PBegin.VC :Prop:=∀(x0:Par) (x1:Cx) (x2:(List Int)) (x3:(List Int)) (x4:(List Int)),PBegin.pre x0 x1 x2 x3 x4→(let v10h:Pst:=((0:Int),((List.replicate 32 (0:Int)),((List.replicate 4 (0:Int)),(((0:Int),((List.replicate 32 (0:Int)),((0:Int),((0:Int),([],()))))),((List.replicate 4 (0:Int)),(((0:Int),((List.replicate 32 (0:Int)),((0:Int),((0:Int),([],()))))),((List.replicate 4 (0:Int)),((0:Int),([],([],()))))))))))
 PHeld.pre x0 x1∧(let v12h:Cx:=((0:Int),((List.replicate 32 (0:Int)),((0:Int),((0:Int),([],())))))
 (((!(PHeld.fn x0 x1).2)=true→(let v23:Pst:=((0:Int),((List.replicate 32 (0:Int)),((List.replicate 4 (0:Int)),(((0:Int),((List.replicate 32 (0:Int)),((0:Int),((0:Int),([],()))))),((List.replicate 4 (0:Int)),(((0:Int),((List.replicate 32 (0:Int)),((0:Int),((0:Int),([],()))))),((List.replicate 4 (0:Int)),((0:Int),([],([],()))))))))))
 (Ret2 v23 (6:Int) (PBegin.fn x0 x1 x2 x3 x4))))∧((!(PHeld.fn x0 x1).2)=false→WCmp.pre x3 x2∧(((decide ((WCmp.fn x3 x2)≤(0:Int)))=true→(let v28:Pst:=((0:Int),((List.replicate 32 (0:Int)),((List.replicate 4 (0:Int)),(((0:Int),((List.replicate 32 (0:Int)),((0:Int),((0:Int),([],()))))),((List.replicate 4 (0:Int)),(((0:Int),((List.replicate 32 (0:Int)),((0:Int),((0:Int),([],()))))),((List.replicate 4 (0:Int)),((0:Int),([],([],()))))))))))
 (Ret2 v28 (121:Int) (PBegin.fn x0 x1 x2 x3 x4))))∧((decide ((WCmp.fn x3 x2)≤(0:Int)))=false→(let v35:Pst:=((1:Int),(x4,(x3,((PHeld.fn x0 x1).1,(x2,((PHeld.fn x0 x1).1,(x2,((0:Int),([],([],()))))))))))
 (let v14h:Pst:=((0:Int),((List.replicate 32 (0:Int)),((List.replicate 4 (0:Int)),(((0:Int),((List.replicate 32 (0:Int)),((0:Int),((0:Int),([],()))))),((List.replicate 4 (0:Int)),(((0:Int),((List.replicate 32 (0:Int)),((0:Int),((0:Int),([],()))))),((List.replicate 4 (0:Int)),((0:Int),([],([],()))))))))))
 Clone.pre ((PHeld.fn x0 x1).1.2.2.2.2.1)∧(let v14_1h:Pst:=(v35.1,(v35.2.1,(v35.2.2.1,(v35.2.2.2.1,(v35.2.2.2.2.1,((v35.2.2.2.2.2.1.1,(v35.2.2.2.2.2.1.2.1,(v35.2.2.2.2.2.1.2.2.1,(v35.2.2.2.2.2.1.2.2.2.1,((Clone.fn ((PHeld.fn x0 x1).1.2.2.2.2.1)),v35.2.2.2.2.2.1.2.2.2.2.2))))),v35.2.2.2.2.2.2))))))
 (Ret2 v14_1h (0:Int) (PBegin.fn x0 x1 x2 x3 x4)))))))))))
theorem PBegin.vc :PBegin.VC:=by
 intro p c base goal salt ⟨h1,h2,h3,h4⟩
 simp only[PHeld.fn,heldFn,WCmp.fn,cmpLe,ret2,PBegin.fn,beginFn,Clone.fn,Clone.pre]
 refine⟨⟨h1,h2⟩,fun hf=> ?_,fun hf=>⟨⟨h4,h3⟩,fun hc=> ?_,fun hc=>⟨?_, ?_⟩⟩⟩
 ·rw[if_pos (by simpa using hf)];rfl
 ·rw[if_neg (by simpa using hf),if_pos (of_decide_eq_true hc)];rfl
 ·rw[if_neg (by simpa using hf)];exact h2.2.2
 ·rw[if_neg (by simpa using hf),if_neg (by simpa using hf),if_neg (of_decide_eq_false hc)]
def VBegin17.pre (p:Par)(c:Cx)(base goal salt:List Int):Prop:=PGood p∧CGood c∧Ok4 base∧Ok4 goal
def VBegin17.fn (p:Par)(c:Cx)(base goal salt:List Int):Pst×Int:=beginFn p c base goal salt
def VBegin17.VC :Prop:=∀(x0:Par) (x1:Cx) (x2:(List Int)) (x3:(List Int)) (x4:(List Int)),VBegin17.pre x0 x1 x2 x3 x4→(let v10h:Pst:=((0:Int),((List.replicate 32 (0:Int)),((List.replicate 4 (0:Int)),(((0:Int),((List.replicate 32 (0:Int)),((0:Int),((0:Int),([],()))))),((List.replicate 4 (0:Int)),(((0:Int),((List.replicate 32 (0:Int)),((0:Int),((0:Int),([],()))))),((List.replicate 4 (0:Int)),((0:Int),([],([],()))))))))))
 VFits.pre x0 x1∧(((!(VFits.fn x0 x1))=true→(let v16:Pst:=((0:Int),((List.replicate 32 (0:Int)),((List.replicate 4 (0:Int)),(((0:Int),((List.replicate 32 (0:Int)),((0:Int),((0:Int),([],()))))),((List.replicate 4 (0:Int)),(((0:Int),((List.replicate 32 (0:Int)),((0:Int),((0:Int),([],()))))),((List.replicate 4 (0:Int)),((0:Int),([],([],()))))))))))
 (Ret2 v16 (6:Int) (VBegin17.fn x0 x1 x2 x3 x4))))∧((!(VFits.fn x0 x1))=false→QCmp.pre x3 x2∧(((decide ((QCmp.fn x3 x2)≤(0:Int)))=true→(let v21:Pst:=((0:Int),((List.replicate 32 (0:Int)),((List.replicate 4 (0:Int)),(((0:Int),((List.replicate 32 (0:Int)),((0:Int),((0:Int),([],()))))),((List.replicate 4 (0:Int)),(((0:Int),((List.replicate 32 (0:Int)),((0:Int),((0:Int),([],()))))),((List.replicate 4 (0:Int)),((0:Int),([],([],()))))))))))
 (Ret2 v21 (121:Int) (VBegin17.fn x0 x1 x2 x3 x4))))∧((decide ((QCmp.fn x3 x2)≤(0:Int)))=false→(let v28:Pst:=((1:Int),(x4,(x3,(x1,(x2,(x1,(x2,((0:Int),([],([],()))))))))))
 (Ret2 v28 (0:Int) (VBegin17.fn x0 x1 x2 x3 x4))))))))
theorem VBegin17.vc :VBegin17.VC:=by
 intro p c base goal salt ⟨h1,h2,h3,h4⟩
 simp only[VFits.fn,QCmp.fn,cmpLe,ret2,VBegin17.fn,beginFn]
 refine⟨h1.1,fun hf=> ?_,fun hf=>⟨⟨h4,h3⟩,fun hc=> ?_,fun hc=> ?_⟩⟩
 ·rw[if_pos (by simpa using hf)];rfl
 ·rw[if_neg (by simpa using hf),if_pos (of_decide_eq_true hc)];rfl
 ·rw[if_neg (by simpa using hf),if_neg (of_decide_eq_false hc)]
def soundFn (p:Par)(s:Pst):Bool:=
 fitsFn p s.2.2.2.1&&fitsFn p s.2.2.2.2.2.1&&decide (1≤s.1∧s.1≤4)&&decide (s.2.2.2.2.2.2.2.2.1.length≤1024∧s.2.2.2.2.2.2.2.2.2.1.length≤64)&&
  decide (N4 s.2.2.2.2.1<N4 s.2.2.1)&&decide (s.2.2.2.2.2.2.2.1=s.2.2.2.2.2.1.1-s.2.2.2.1.1)
theorem sound_iff (p:Par)(s:Pst):soundFn p s=true↔fitsFn p s.2.2.2.1=true∧fitsFn p s.2.2.2.2.2.1=true∧(1≤s.1∧s.1≤4)∧(s.2.2.2.2.2.2.2.2.1.length≤1024∧s.2.2.2.2.2.2.2.2.2.1.length≤64)∧
 N4 s.2.2.2.2.1<N4 s.2.2.1∧s.2.2.2.2.2.2.2.1=s.2.2.2.2.2.1.1-s.2.2.2.1.1:=by
 simp only[soundFn,Bool.and_eq_true,decide_eq_true_eq,and_assoc]
def SGood (s:Pst):Prop:=HOk s.2.1∧Ok4 s.2.2.1∧CGood s.2.2.2.1∧Ok4 s.2.2.2.2.1∧CGood s.2.2.2.2.2.1∧Ok4 s.2.2.2.2.2.2.1∧∀h,h∈s.2.2.2.2.2.2.2.2.2.1→HdrOk h
def PSound.pre (p:Par)(s:Pst):Prop:=PGood p∧SGood s
def PSound.fn (p:Par)(s:Pst):Pst×Bool:=(if soundFn p s=false then zps else s,soundFn p s)
def PSound.VC :Prop:=∀(x0:Par) (x1:Pst),PSound.pre x0 x1→(let v4h:Pst:=((0:Int),((List.replicate 32 (0:Int)),((List.replicate 4 (0:Int)),(((0:Int),((List.replicate 32 (0:Int)),((0:Int),((0:Int),([],()))))),((List.replicate 4 (0:Int)),(((0:Int),((List.replicate 32 (0:Int)),((0:Int),((0:Int),([],()))))),((List.replicate 4 (0:Int)),((0:Int),([],([],()))))))))))
 PHeld.pre x0 x1.2.2.2.1∧(let v6h:Cx:=((0:Int),((List.replicate 32 (0:Int)),((0:Int),((0:Int),([],())))))
 PHeld.pre x0 x1.2.2.2.2.2.1∧(let v8h:Cx:=((0:Int),((List.replicate 32 (0:Int)),((0:Int),((0:Int),([],())))))
 ((!(PHeld.fn x0 x1.2.2.2.1).2)=false→(!(PHeld.fn x0 x1.2.2.2.1).2)=false)∧((!(PHeld.fn x0 x1.2.2.2.1).2)=false→(!(PHeld.fn x0 x1.2.2.2.1).2)=false)∧(let v29:Bool:=(bif (!(PHeld.fn x0 x1.2.2.2.1).2) then true else(!(PHeld.fn x0 x1.2.2.2.2.2.1).2))
 (v29=false→v29=false)∧(v29=false→v29=false)∧(v29=false→v29=false)∧((bif v29 then true else(decide (x1.1<(1:Int))))=false→(bif v29 then true else(decide (x1.1<(1:Int))))=false)∧((bif v29 then true else(decide (x1.1<(1:Int))))=false→(bif v29 then true else(decide (x1.1<(1:Int))))=false)∧((bif v29 then true else(decide (x1.1<(1:Int))))=false→(bif v29 then true else(decide (x1.1<(1:Int))))=false)∧(let v39:Bool:=(bif (bif v29 then true else(decide (x1.1<(1:Int)))) then true else(decide (x1.1>(4:Int))))
 ((v39=true→(let v40:Pst:=((0:Int),((List.replicate 32 (0:Int)),((List.replicate 4 (0:Int)),(((0:Int),((List.replicate 32 (0:Int)),((0:Int),((0:Int),([],()))))),((List.replicate 4 (0:Int)),(((0:Int),((List.replicate 32 (0:Int)),((0:Int),((0:Int),([],()))))),((List.replicate 4 (0:Int)),((0:Int),([],([],()))))))))))
 (Ret2 v40 false (PSound.fn x0 x1))))∧(v39=false→(let v44:Bool:=(decide ((x1.2.2.2.2.2.2.2.2.1.length:Int)>(1024:Int)))
 (v44=false→v44=false)∧(v44=false→v44=false)∧(v44=false→v44=false)∧(v44=false→v44=false)∧(let v50:Bool:=(bif v44 then true else(decide ((x1.2.2.2.2.2.2.2.2.2.1.length:Int)>(64:Int))))
 ((v50=true→(let v51:Pst:=((0:Int),((List.replicate 32 (0:Int)),((List.replicate 4 (0:Int)),(((0:Int),((List.replicate 32 (0:Int)),((0:Int),((0:Int),([],()))))),((List.replicate 4 (0:Int)),(((0:Int),((List.replicate 32 (0:Int)),((0:Int),((0:Int),([],()))))),((List.replicate 4 (0:Int)),((0:Int),([],([],()))))))))))
 (Ret2 v51 false (PSound.fn x0 x1))))∧(v50=false→WCmp.pre x1.2.2.1 x1.2.2.2.2.1∧((decide ((WCmp.fn x1.2.2.1 x1.2.2.2.2.1)≤(0:Int)))=false→(decide ((WCmp.fn x1.2.2.1 x1.2.2.2.2.1)≤(0:Int)))=false)∧((decide ((WCmp.fn x1.2.2.1 x1.2.2.2.2.1)≤(0:Int)))=false→(decide ((WCmp.fn x1.2.2.1 x1.2.2.2.2.1)≤(0:Int)))=false)∧((decide ((WCmp.fn x1.2.2.1 x1.2.2.2.2.1)≤(0:Int)))=false→(decide ((WCmp.fn x1.2.2.1 x1.2.2.2.2.1)≤(0:Int)))=false)∧((decide ((WCmp.fn x1.2.2.1 x1.2.2.2.2.1)≤(0:Int)))=false→(decide ((WCmp.fn x1.2.2.1 x1.2.2.2.2.1)≤(0:Int)))=false)∧((decide ((WCmp.fn x1.2.2.1 x1.2.2.2.2.1)≤(0:Int)))=false→(decide ((WCmp.fn x1.2.2.1 x1.2.2.2.2.1)≤(0:Int)))=false)∧((decide ((WCmp.fn x1.2.2.1 x1.2.2.2.2.1)≤(0:Int)))=false→(decide ((WCmp.fn x1.2.2.1 x1.2.2.2.2.1)≤(0:Int)))=false)∧((decide ((WCmp.fn x1.2.2.1 x1.2.2.2.2.1)≤(0:Int)))=false→(decide ((WCmp.fn x1.2.2.1 x1.2.2.2.2.1)≤(0:Int)))=false)∧((decide ((WCmp.fn x1.2.2.1 x1.2.2.2.2.1)≤(0:Int)))=false→(decide ((WCmp.fn x1.2.2.1 x1.2.2.2.2.1)≤(0:Int)))=false)∧((decide ((WCmp.fn x1.2.2.1 x1.2.2.2.2.1)≤(0:Int)))=false→(decide ((WCmp.fn x1.2.2.1 x1.2.2.2.2.1)≤(0:Int)))=false)∧((decide ((WCmp.fn x1.2.2.1 x1.2.2.2.2.1)≤(0:Int)))=false→(decide ((WCmp.fn x1.2.2.1 x1.2.2.2.2.1)≤(0:Int)))=false)∧(let v69:Bool:=(bif (decide ((WCmp.fn x1.2.2.1 x1.2.2.2.2.1)≤(0:Int))) then true else(x1.2.2.2.2.2.2.2.1 !=(IntKind.i64.wrap (x1.2.2.2.2.2.1.1-x1.2.2.2.1.1))))
 ((v69=true→(let v70:Pst:=((0:Int),((List.replicate 32 (0:Int)),((List.replicate 4 (0:Int)),(((0:Int),((List.replicate 32 (0:Int)),((0:Int),((0:Int),([],()))))),((List.replicate 4 (0:Int)),(((0:Int),((List.replicate 32 (0:Int)),((0:Int),((0:Int),([],()))))),((List.replicate 4 (0:Int)),((0:Int),([],([],()))))))))))
 (Ret2 v70 false (PSound.fn x0 x1))))∧(v69=false→(let v3h:Pst:=(x1.1,(x1.2.1,(x1.2.2.1,((PHeld.fn x0 x1.2.2.2.1).1,x1.2.2.2.2))))
 (let v3_1h:Pst:=(v3h.1,(v3h.2.1,(v3h.2.2.1,(v3h.2.2.2.1,(v3h.2.2.2.2.1,((PHeld.fn x0 x1.2.2.2.2.2.1).1,v3h.2.2.2.2.2.2))))))
 CloneB.pre v3_1h.2.2.2.2.2.2.2.2.1∧CloneH.pre v3_1h.2.2.2.2.2.2.2.2.2.1∧(let v3_2h:Pst:=(v3_1h.1,(v3_1h.2.1,(v3_1h.2.2.1,(v3_1h.2.2.2.1,(v3_1h.2.2.2.2.1,(v3_1h.2.2.2.2.2.1,(v3_1h.2.2.2.2.2.2.1,(v3_1h.2.2.2.2.2.2.2.1,((CloneB.fn v3_1h.2.2.2.2.2.2.2.2.1),v3_1h.2.2.2.2.2.2.2.2.2)))))))))
 (let v3_3h:Pst:=(v3_2h.1,(v3_2h.2.1,(v3_2h.2.2.1,(v3_2h.2.2.2.1,(v3_2h.2.2.2.2.1,(v3_2h.2.2.2.2.2.1,(v3_2h.2.2.2.2.2.2.1,(v3_2h.2.2.2.2.2.2.2.1,(v3_2h.2.2.2.2.2.2.2.2.1,((CloneH.fn v3_1h.2.2.2.2.2.2.2.2.2.1),v3_2h.2.2.2.2.2.2.2.2.2.2))))))))))
 (Ret2 v3_3h true (PSound.fn x0 x1))))))))))))))))))))
theorem not_sound {p:Par}{s:Pst}(h:¬(fitsFn p s.2.2.2.1=true∧fitsFn p s.2.2.2.2.2.1=true∧(1≤s.1∧s.1≤4)∧(s.2.2.2.2.2.2.2.2.1.length≤1024∧s.2.2.2.2.2.2.2.2.2.1.length≤64)∧
 N4 s.2.2.2.2.1<N4 s.2.2.1∧s.2.2.2.2.2.2.2.1=s.2.2.2.2.2.1.1-s.2.2.2.1.1)):PSound.fn p s=(zps,false):=by
 have:soundFn p s=false:=by
  cases hq:soundFn p s with
  |false=>rfl
  |true=>exact absurd ((sound_iff p s).1 hq) h
 rw[PSound.fn,this];rfl
theorem fits_height {p:Par}{c:Cx}(h:fitsFn p c=true):0≤c.1∧c.1≤16777216:=by
 obtain⟨_,h2,h3,_⟩:=(fits_iff p c).1 h
 exact⟨h2,h3⟩
theorem PSound.vc :PSound.VC:=by
 intro p s ⟨h1,h2⟩
 obtain⟨ph,salt,goal,st,base,at',work,count,bits,buf,u⟩:=s
 have g2:HOk salt∧Ok4 goal∧CGood st∧Ok4 base∧CGood at'∧Ok4 work∧∀h,h∈buf→HdrOk h:=h2
 simp only[imp_self,true_and,PHeld.fn,heldFn,WCmp.fn,cmpLe,ret2,CloneB.fn,CloneH.fn,CloneB.pre,CloneH.pre]
 refine⟨⟨h1,g2.2.2.1⟩,⟨h1,g2.2.2.2.2.1⟩,fun hb=> ?_,fun hb=>⟨fun hl=> ?_,fun hl=>⟨⟨g2.2.1,g2.2.2.2.1⟩,fun hc=> ?_,fun hc=> ?_⟩⟩⟩
 ·symm
  apply not_sound
  rintro⟨a1,a2,⟨a3,a4⟩,_⟩
  simp only at a1 a2 a3 a4
  rw[a1,a2] at hb
  simp only[Bool.not_true,cond_eq_ite] at hb
  rw[decide_eq_false (by omega:¬ph<1),decide_eq_false (by omega:¬ph>4)] at hb
  simp at hb
 ·symm
  apply not_sound
  rintro⟨_,_,_,⟨a3,a4⟩,_⟩
  simp only at a3 a4
  rw[decide_eq_false (by omega),decide_eq_false (by omega)] at hl
  simp at hl
 ·symm
  apply not_sound
  rintro⟨a1,a2,_,_,a5,a6⟩
  simp only at a1 a2 a5 a6
  have f1:=fits_height a1
  have f2:=fits_height a2
  rw[i64w (by omega) (by omega),decide_eq_false (by omega),a6] at hc
  simp at hc
 ·have k1:fitsFn p st=true:=by
   cases hq:fitsFn p st with
   |true=>rfl
   |false=>rw[hq] at hb;simp at hb
  have k2:fitsFn p at'=true:=by
   cases hq:fitsFn p at' with
   |true=>rfl
   |false=>rw[hq] at hb;simp at hb
  rw[k1,k2] at hb
  have k3:1≤ph∧ph≤4:=by
   simp only[Bool.not_true,cond_eq_ite] at hb
   by_cases q1:ph<1
   ·rw[decide_eq_true q1] at hb;simp at hb
   ·rw[decide_eq_false q1] at hb
    simp only[Bool.false_eq_true,if_false,decide_eq_false_iff_not] at hb
    omega
  have k4:bits.length≤1024∧buf.length≤64:=by
   simp only[cond_eq_ite] at hl
   by_cases q1:(bits.length:Int)>1024
   ·rw[decide_eq_true q1] at hl;simp at hl
   ·rw[decide_eq_false q1] at hl
    simp only[Bool.false_eq_true,if_false,decide_eq_false_iff_not] at hl
    omega
  have f1:=fits_height k1
  have f2:=fits_height k2
  rw[i64w (by omega) (by omega)] at hc
  have k5:N4 base<N4 goal∧count=at'.1-st.1:=by
   simp only[cond_eq_ite] at hc
   by_cases q1:N4 goal≤N4 base
   ·rw[decide_eq_true q1] at hc;simp at hc
   ·rw[decide_eq_false q1] at hc
    simp only[Bool.false_eq_true,if_false,bne_eq_false_iff_eq] at hc
    omega
  have hs:soundFn p (ph,salt,goal,st,base,at',work,count,bits,buf,u)=true:=(sound_iff _ _).2 ⟨k1,k2,k3,k4,k5⟩
  refine⟨by show bits.length≤2000;omega,by show buf.length≤2000;omega, ?_⟩
  rw[PSound.fn,hs,k1,k2];rfl
def upFn (salt:List Int)(H:Int):Int:=if H<salt.getD 0 0%16 then 0 else(H-salt.getD 0 0%16)/16+1
def PUpTo.pre (m:Mc)(H:Int):Prop:=HOk m.1.2.1∧-1000000000≤H∧H≤1000000000
def PUpTo.fn (m:Mc)(H:Int):Int:=upFn m.1.2.1 H
def PUpTo.VC :Prop:=∀(x0:Mc) (x1:Int),PUpTo.pre x0 x1→(0≤(0:Int)∧(0:Int)<32)∧(16:Int)≠0∧(let v12:Int:=(Int.tmod (x0.1.2.1.getD (Int.toNat (0:Int)) (0:Int)) (16:Int))
 (((decide (x1<(IntKind.i64.wrap v12)))=true→(Ret1 (0:Int) (PUpTo.fn x0 x1)))∧((decide (x1<(IntKind.i64.wrap v12)))=false→(16:Int)≠0∧(let v20:Int:=(IntKind.i64.wrap (Int.tdiv (IntKind.i64.wrap (x1-(IntKind.i64.wrap v12))) (16:Int)))
 (Ret1 (IntKind.i64.wrap (v20+(1:Int))) (PUpTo.fn x0 x1))))))
theorem PUpTo.vc :PUpTo.VC:=by
 intro m H ⟨h1,h2,h3⟩
 have hb:=h1.2.getD (Int.toNat 0)
 have e0:Int.tmod (m.1.2.1.getD (Int.toNat 0) 0) 16=m.1.2.1.getD 0 0%16:=Int.tmod_eq_emod_of_nonneg hb.1
 simp only[e0,ret1,PUpTo.fn,upFn]
 rw[i64w (n:=m.1.2.1.getD 0 0%16) (by omega) (by omega)]
 refine⟨by omega,by omega,fun hc=> ?_,fun hc=>⟨by omega, ?_⟩⟩
 ·rw[if_pos (of_decide_eq_true hc)]
 ·have hc:=of_decide_eq_false hc
  rw[if_neg hc,i64w (n:=H-m.1.2.1.getD 0 0%16) (by omega) (by omega)]
  have e1:Int.tdiv (H-m.1.2.1.getD 0 0%16) 16=(H-m.1.2.1.getD 0 0%16)/16:=Int.tdiv_eq_ediv_of_nonneg (by omega)
  rw[e1,i64w (n:=(H-m.1.2.1.getD 0 0%16)/16) (by omega) (by omega),i64w (by omega) (by omega)]
def befFn (salt:List Int)(st H:Int):Int:=if H≤st then 0 else upFn salt (H-1)-upFn salt st
def PBefore.pre (m:Mc)(H:Int):Prop:=HOk m.1.2.1∧(0≤H∧H≤900000000)∧0≤m.1.2.2.2.1.1∧m.1.2.2.2.1.1≤900000000
def PBefore.fn (m:Mc)(H:Int):Int:=befFn m.1.2.1 m.1.2.2.2.1.1 H
def PBefore.VC :Prop:=∀(x0:Mc) (x1:Int),PBefore.pre x0 x1→(((decide (x1≤x0.1.2.2.2.1.1))=true→(Ret1 (0:Int) (PBefore.fn x0 x1)))∧((decide (x1≤x0.1.2.2.2.1.1))=false→PUpTo.pre x0 (IntKind.i64.wrap (x1-(1:Int)))∧PUpTo.pre x0 x0.1.2.2.2.1.1∧(let v25:Int:=(IntKind.i64.wrap ((PUpTo.fn x0 (IntKind.i64.wrap (x1-(1:Int))))-(PUpTo.fn x0 x0.1.2.2.2.1.1)))
 (Ret1 v25 (PBefore.fn x0 x1)))))
theorem up_range {salt:List Int}(h:HOk salt){H:Int}(h0: -1≤H)(h1:H≤900000000):0≤upFn salt H∧upFn salt H≤900000000:=by
 have hb:=h.2.getD 0
 unfold upFn
 split<;>omega
theorem up_mono {salt:List Int}{a b:Int}(h:a≤b):upFn salt a≤upFn salt b:=by
 unfold upFn
 split<;>split<;>omega
theorem PBefore.vc :PBefore.VC:=by
 intro m H ⟨h1,h2,h3⟩
 simp only[PUpTo.fn,ret1,PBefore.fn,befFn]
 refine⟨fun hc=> ?_,fun hc=> ?_⟩
 ·rw[if_pos (of_decide_eq_true hc)]
 ·have hc:=of_decide_eq_false hc
  rw[if_neg hc,i64w (n:=H-1) (by omega) (by omega)]
  have r1:=up_range h1 (H:=H-1) (by omega) (by omega)
  have r2:=up_range h1 (H:=m.1.2.2.2.1.1) (by omega) (by omega)
  exact⟨⟨h1,by omega,by omega⟩,⟨h1,by omega,by omega⟩,i64w (by omega) (by omega)⟩
theorem bef_range {salt:List Int}(h:HOk salt){st H:Int}(h0:0≤st)(h1:H≤900000000)(h2:st≤900000000):0≤befFn salt st H∧befFn salt st H≤900000000:=by
 unfold befFn
 split
 ·omega
 ·have:=up_mono (salt:=salt) (show st≤H-1 by omega)
  have r1:=up_range h (H:=H-1) (by omega) (by omega)
  have r2:=up_range h (H:=st) (by omega) (by omega)
  omega
def setAt (s:Pst)(at':Cx)(work:List Int)(bits:List Bool)(buf:List Hdr):Pst:=(s.1,s.2.1,s.2.2.1,s.2.2.2.1,s.2.2.2.2.1,at',work,s.2.2.2.2.2.2.2.1+1,bits,buf,())
def turnS (s:Pst)(bits:List Bool):Pst:=(2,s.2.1,s.2.2.1,s.2.2.2.1,s.2.2.2.2.1,s.2.2.2.1,s.2.2.2.2.1,0,bits,s.2.2.2.2.2.2.2.2.2.1,())
noncomputable def bitsOf (s:Pst)(at':Cx):List Bool:=if comFn s.2.1 at'.1=true then s.2.2.2.2.2.2.2.2.1++[bitFn s.2.1 at'.2.1] else s.2.2.2.2.2.2.2.2.1
noncomputable def commitFn (m:Mc)(at':Cx)(work:List Int):Mc×Int:=
 if comFn m.1.2.1 at'.1=true∧1024≤m.1.2.2.2.2.2.2.2.2.1.length then(m,4)
 else if N4 m.1.2.2.1≤N4 work then((turnS m.1 (bitsOf m.1 at'),m.2),0) else((setAt m.1 at' work (bitsOf m.1 at') m.1.2.2.2.2.2.2.2.2.2.1,m.2),0)
structure MInv (m:Mc):Prop where
 par:PGood m.2.1
 good:SGood m.1
 fitS:fitsFn m.2.1 m.1.2.2.2.1=true
 fitA:fitsFn m.2.1 m.1.2.2.2.2.2.1=true
 phase:1≤m.1.1∧m.1.1≤4
 bits:m.1.2.2.2.2.2.2.2.2.1.length≤1024
 buf:m.1.2.2.2.2.2.2.2.2.2.1.length≤64
 goal:N4 m.1.2.2.2.2.1<N4 m.1.2.2.1
 count:m.1.2.2.2.2.2.2.2.1=m.1.2.2.2.2.2.1.1-m.1.2.2.2.1.1
 now:U32 m.2.2.1
 out:m.2.2.2.1.length≤10000000
theorem MInv.sound {m:Mc}(h:MInv m):soundFn m.2.1 m.1=true:=(sound_iff _ _).2 ⟨h.fitS,h.fitA,h.phase,⟨h.bits,h.buf⟩,h.goal,h.count⟩
def PCommit.pre (m:Mc)(at':Cx)(work:List Int):Prop:=MInv m∧Ok4 work∧HOk at'.2.1
noncomputable def PCommit.fn (m:Mc)(at':Cx)(work:List Int):Mc×Int:=commitFn m at' work
def PCommit.VC :Prop:=∀(x0:Mc) (x1:Cx) (x2:(List Int)),PCommit.pre x0 x1 x2→PCommits.pre x0.1 x1.1∧(((PCommits.fn x0.1 x1.1)=true→(let v20:Bool:=(decide ((x0.1.2.2.2.2.2.2.2.2.1.length:Int)≥(1024:Int)))
 ((v20=true→(Ret2 x0 (4:Int) (PCommit.fn x0 x1 x2)))∧(v20=false→PCommitment.pre x0.1 x1.2.1∧Room (x0.1.2.2.2.2.2.2.2.2.1.length+[(PCommitment.fn x0.1 x1.2.1)].length) 1∧(let v0h:Mc:=((x0.1.1,(x0.1.2.1,(x0.1.2.2.1,(x0.1.2.2.2.1,(x0.1.2.2.2.2.1,(x0.1.2.2.2.2.2.1,(x0.1.2.2.2.2.2.2.1,(x0.1.2.2.2.2.2.2.2.1,((x0.1.2.2.2.2.2.2.2.2.1++[(PCommitment.fn x0.1 x1.2.1)]),x0.1.2.2.2.2.2.2.2.2.2))))))))),x0.2)
 (let v0_1h:Mc:=((v0h.1.1,(v0h.1.2.1,(v0h.1.2.2.1,(v0h.1.2.2.2.1,(v0h.1.2.2.2.2.1,(x1,v0h.1.2.2.2.2.2.2)))))),v0h.2)
 (let v0_2h:Mc:=((v0_1h.1.1,(v0_1h.1.2.1,(v0_1h.1.2.2.1,(v0_1h.1.2.2.2.1,(v0_1h.1.2.2.2.2.1,(v0_1h.1.2.2.2.2.2.1,(x2,v0_1h.1.2.2.2.2.2.2.2))))))),v0_1h.2)
 (let v0_3h:Mc:=((v0_2h.1.1,(v0_2h.1.2.1,(v0_2h.1.2.2.1,(v0_2h.1.2.2.2.1,(v0_2h.1.2.2.2.2.1,(v0_2h.1.2.2.2.2.2.1,(v0_2h.1.2.2.2.2.2.2.1,((IntKind.i64.wrap (v0h.1.2.2.2.2.2.2.2.1+(1:Int))),v0_2h.1.2.2.2.2.2.2.2.2)))))))),v0_2h.2)
 WCmp.pre v0_3h.1.2.2.2.2.2.2.1 v0_3h.1.2.2.1∧(let v70:Bool:=(decide ((WCmp.fn v0_3h.1.2.2.2.2.2.2.1 v0_3h.1.2.2.1)≥(0:Int)))
 ((v70=true→(let v0_4h:Mc:=(((2:Int),(v0_3h.1.2.1,(v0_3h.1.2.2.1,(v0_3h.1.2.2.2.1,(v0_3h.1.2.2.2.2.1,(v0_3h.1.2.2.2.1,v0_3h.1.2.2.2.2.2.2)))))),v0_3h.2)
 (let v0_5h:Mc:=((v0_4h.1.1,(v0_4h.1.2.1,(v0_4h.1.2.2.1,(v0_4h.1.2.2.2.1,(v0_4h.1.2.2.2.2.1,(v0_4h.1.2.2.2.2.2.1,(v0_3h.1.2.2.2.2.1,v0_4h.1.2.2.2.2.2.2.2))))))),v0_4h.2)
 (let v0_6h:Mc:=((v0_5h.1.1,(v0_5h.1.2.1,(v0_5h.1.2.2.1,(v0_5h.1.2.2.2.1,(v0_5h.1.2.2.2.2.1,(v0_5h.1.2.2.2.2.2.1,(v0_5h.1.2.2.2.2.2.2.1,((0:Int),v0_5h.1.2.2.2.2.2.2.2.2)))))))),v0_5h.2)
 Clone.pre v0_6h.1.2.2.2.1.2.2.2.2.1∧(let v0_7h:Mc:=((v0_6h.1.1,(v0_6h.1.2.1,(v0_6h.1.2.2.1,(v0_6h.1.2.2.2.1,(v0_6h.1.2.2.2.2.1,((v0_6h.1.2.2.2.2.2.1.1,(v0_6h.1.2.2.2.2.2.1.2.1,(v0_6h.1.2.2.2.2.2.1.2.2.1,(v0_6h.1.2.2.2.2.2.1.2.2.2.1,((Clone.fn v0_6h.1.2.2.2.1.2.2.2.2.1),v0_6h.1.2.2.2.2.2.1.2.2.2.2.2))))),v0_6h.1.2.2.2.2.2.2)))))),v0_6h.2)
 (Ret2 v0_7h (0:Int) (PCommit.fn x0 x1 x2)))))))∧(v70=false→(Ret2 v0_3h (0:Int) (PCommit.fn x0 x1 x2)))))))))))))∧((PCommits.fn x0.1 x1.1)=false→(let v0_8h:Mc:=((x0.1.1,(x0.1.2.1,(x0.1.2.2.1,(x0.1.2.2.2.1,(x0.1.2.2.2.2.1,(x1,x0.1.2.2.2.2.2.2)))))),x0.2)
 (let v0_9h:Mc:=((v0_8h.1.1,(v0_8h.1.2.1,(v0_8h.1.2.2.1,(v0_8h.1.2.2.2.1,(v0_8h.1.2.2.2.2.1,(v0_8h.1.2.2.2.2.2.1,(x2,v0_8h.1.2.2.2.2.2.2.2))))))),v0_8h.2)
 (let v0_10h:Mc:=((v0_9h.1.1,(v0_9h.1.2.1,(v0_9h.1.2.2.1,(v0_9h.1.2.2.2.1,(v0_9h.1.2.2.2.2.1,(v0_9h.1.2.2.2.2.2.1,(v0_9h.1.2.2.2.2.2.2.1,((IntKind.i64.wrap (x0.1.2.2.2.2.2.2.2.1+(1:Int))),v0_9h.1.2.2.2.2.2.2.2.2)))))))),v0_9h.2)
 WCmp.pre v0_10h.1.2.2.2.2.2.2.1 v0_10h.1.2.2.1∧(let v70_1:Bool:=(decide ((WCmp.fn v0_10h.1.2.2.2.2.2.2.1 v0_10h.1.2.2.1)≥(0:Int)))
 ((v70_1=true→(let v0_11h:Mc:=(((2:Int),(v0_10h.1.2.1,(v0_10h.1.2.2.1,(v0_10h.1.2.2.2.1,(v0_10h.1.2.2.2.2.1,(v0_10h.1.2.2.2.1,v0_10h.1.2.2.2.2.2.2)))))),v0_10h.2)
 (let v0_12h:Mc:=((v0_11h.1.1,(v0_11h.1.2.1,(v0_11h.1.2.2.1,(v0_11h.1.2.2.2.1,(v0_11h.1.2.2.2.2.1,(v0_11h.1.2.2.2.2.2.1,(v0_10h.1.2.2.2.2.1,v0_11h.1.2.2.2.2.2.2.2))))))),v0_11h.2)
 (let v0_13h:Mc:=((v0_12h.1.1,(v0_12h.1.2.1,(v0_12h.1.2.2.1,(v0_12h.1.2.2.2.1,(v0_12h.1.2.2.2.2.1,(v0_12h.1.2.2.2.2.2.1,(v0_12h.1.2.2.2.2.2.2.1,((0:Int),v0_12h.1.2.2.2.2.2.2.2.2)))))))),v0_12h.2)
 Clone.pre v0_13h.1.2.2.2.1.2.2.2.2.1∧(let v0_14h:Mc:=((v0_13h.1.1,(v0_13h.1.2.1,(v0_13h.1.2.2.1,(v0_13h.1.2.2.2.1,(v0_13h.1.2.2.2.2.1,((v0_13h.1.2.2.2.2.2.1.1,(v0_13h.1.2.2.2.2.2.1.2.1,(v0_13h.1.2.2.2.2.2.1.2.2.1,(v0_13h.1.2.2.2.2.2.1.2.2.2.1,((Clone.fn v0_13h.1.2.2.2.1.2.2.2.2.1),v0_13h.1.2.2.2.2.2.1.2.2.2.2.2))))),v0_13h.1.2.2.2.2.2.2)))))),v0_13h.2)
 (Ret2 v0_14h (0:Int) (PCommit.fn x0 x1 x2)))))))∧(v70_1=false→(Ret2 v0_10h (0:Int) (PCommit.fn x0 x1 x2))))))))))
theorem cmpGe {n m:Nat}:cmpN n m≥0↔m≤n:=by
 unfold cmpN
 split
 ·constructor<;>intro h<;>omega
 ·split<;>constructor<;>intro h<;>omega
theorem PCommit.vc :PCommit.VC:=by
 intro m at' work ⟨hm,hw,hh⟩
 have hg:=hm.good
 have f1:=fits_height hm.fitS
 have f2:=fits_height hm.fitA
 have hcnt:=hm.count
 have hwrap:IntKind.i64.wrap (m.1.2.2.2.2.2.2.2.1+1)=m.1.2.2.2.2.2.2.2.1+1:=i64w (by omega) (by omega)
 simp only[PCommits.fn,PCommitment.fn,WCmp.fn,cmpGe,ret2,PCommit.fn,commitFn,Clone.fn,Clone.pre,hwrap]
 refine⟨hg.1,fun hc=>⟨fun hl=> ?_,fun hl=>⟨⟨hg.1,hh⟩,room_of (by rw[List.length_singleton];have:=hm.bits;omega) (by omega),⟨hw,hg.2.1⟩,fun hr=>⟨hg.2.2.1.2.2, ?_⟩,fun hr=> ?_⟩⟩,fun hc=>⟨⟨hw,hg.2.1⟩,fun hr=>⟨hg.2.2.1.2.2, ?_⟩,fun hr=> ?_⟩⟩
 ·have hl:=of_decide_eq_true hl
  rw[if_pos ⟨hc,by omega⟩]
 ·have hl:=of_decide_eq_false hl
  rw[if_neg (fun h=>by omega),if_pos (of_decide_eq_true hr)]
  simp only[bitsOf,if_pos hc,turnS]
 ·have hl:=of_decide_eq_false hl
  rw[if_neg (fun h=>by omega),if_neg (of_decide_eq_false hr)]
  simp only[bitsOf,if_pos hc,setAt]
 ·rw[if_neg (fun h=>by rw[hc] at h;exact Bool.noConfusion h.1),if_pos (of_decide_eq_true hr)]
  simp only[bitsOf,hc,turnS]
  rw[if_neg (by simp)]
 ·rw[if_neg (fun h=>by rw[hc] at h;exact Bool.noConfusion h.1),if_neg (of_decide_eq_false hr)]
  simp only[bitsOf,hc,setAt]
  rw[if_neg (by simp)]
noncomputable def badFn (s:Pst)(at':Cx):Bool:=
 comFn s.2.1 at'.1&&(decide (befFn s.2.1 s.2.2.2.1.1 at'.1<s.2.2.2.2.2.2.2.2.1.length)&& !(s.2.2.2.2.2.2.2.2.1.getD (befFn s.2.1 s.2.2.2.1.1 at'.1).toNat false==bitFn s.2.1 at'.2.1))
noncomputable def checkS (m:Mc)(h:Hdr)(at':Cx)(work:List Int):Mc×Int:=
 if badFn m.1 at'=true then(m,170)
 else if N4 m.1.2.2.1≤N4 work then(((3,(setAt m.1 at' work m.1.2.2.2.2.2.2.2.2.1 []).2),m.2.1,m.2.2.1,m.2.2.2.1++(m.1.2.2.2.2.2.2.2.2.2.1++[h]),()),0)
 else if 64<(m.1.2.2.2.2.2.2.2.2.2.1++[h]).length then((setAt m.1 at' work m.1.2.2.2.2.2.2.2.2.1 ((m.1.2.2.2.2.2.2.2.2.2.1++[h]).drop 1),m.2.1,m.2.2.1,m.2.2.2.1++(m.1.2.2.2.2.2.2.2.2.2.1++[h]).take 1,()),0)
 else((setAt m.1 at' work m.1.2.2.2.2.2.2.2.2.1 (m.1.2.2.2.2.2.2.2.2.2.1++[h]),m.2),0)
def PCheck.pre (m:Mc)(h:Hdr)(at':Cx)(work:List Int):Prop:=MInv m∧Ok4 work∧HOk at'.2.1∧0≤at'.1∧at'.1≤16777217
noncomputable def PCheck.fn (m:Mc)(h:Hdr)(at':Cx)(work:List Int):Mc×Int:=checkS m h at' work
def PCheck.VC :Prop:=∀(x0:Mc) (x1:Hdr) (x2:Cx) (x3:(List Int)),PCheck.pre x0 x1 x2 x3→PCommits.pre x0.1 x2.1∧(((PCommits.fn x0.1 x2.1)=true→PBefore.pre x0 x2.1∧(let v28:Bool:=(decide ((PBefore.fn x0 x2.1)<(x0.1.2.2.2.2.2.2.2.2.1.length:Int)))
 (v28=true→v28=true)∧(v28=true→v28=true)∧(v28=true→v28=true)∧(v28=true→v28=true)∧(v28=true→v28=true)∧(v28=true→v28=true)∧(v28=true→(0≤(PBefore.fn x0 x2.1)∧(PBefore.fn x0 x2.1)<(x0.1.2.2.2.2.2.2.2.2.1.length:Int)))∧(v28=true→v28=true)∧(v28=true→v28=true)∧(v28=true→v28=true)∧(v28=true→v28=true)∧(v28=true→v28=true)∧(v28=true→v28=true)∧(v28=true→v28=true)∧(v28=true→PCommitment.pre x0.1 x2.2.1)∧(v28=true→v28=true)∧(v28=true→v28=true)∧(v28=true→v28=true)∧(let v46:Bool:=(bif v28 then(!(Ty.beq (.bool) (x0.1.2.2.2.2.2.2.2.2.1.getD (Int.toNat (PBefore.fn x0 x2.1)) false) (PCommitment.fn x0.1 x2.2.1))) else false)
 ((v46=true→(Ret2 x0 (170:Int) (PCheck.fn x0 x1 x2 x3)))∧(v46=false→(let v0h:Mc:=((x0.1.1,(x0.1.2.1,(x0.1.2.2.1,(x0.1.2.2.2.1,(x0.1.2.2.2.2.1,(x2,x0.1.2.2.2.2.2.2)))))),x0.2)
 (let v0_1h:Mc:=((v0h.1.1,(v0h.1.2.1,(v0h.1.2.2.1,(v0h.1.2.2.2.1,(v0h.1.2.2.2.2.1,(v0h.1.2.2.2.2.2.1,(x3,v0h.1.2.2.2.2.2.2.2))))))),v0h.2)
 (let v0_2h:Mc:=((v0_1h.1.1,(v0_1h.1.2.1,(v0_1h.1.2.2.1,(v0_1h.1.2.2.2.1,(v0_1h.1.2.2.2.2.1,(v0_1h.1.2.2.2.2.2.1,(v0_1h.1.2.2.2.2.2.2.1,((IntKind.i64.wrap (x0.1.2.2.2.2.2.2.2.1+(1:Int))),v0_1h.1.2.2.2.2.2.2.2.2)))))))),v0_1h.2)
 Room (x0.1.2.2.2.2.2.2.2.2.2.1.length+[x1].length) 80∧(let v0_3h:Mc:=((v0_2h.1.1,(v0_2h.1.2.1,(v0_2h.1.2.2.1,(v0_2h.1.2.2.2.1,(v0_2h.1.2.2.2.2.1,(v0_2h.1.2.2.2.2.2.1,(v0_2h.1.2.2.2.2.2.2.1,(v0_2h.1.2.2.2.2.2.2.2.1,(v0_2h.1.2.2.2.2.2.2.2.2.1,((x0.1.2.2.2.2.2.2.2.2.2.1++[x1]),v0_2h.1.2.2.2.2.2.2.2.2.2.2)))))))))),v0_2h.2)
 WCmp.pre v0_3h.1.2.2.2.2.2.2.1 v0_3h.1.2.2.1∧(let v90:Bool:=(decide ((WCmp.fn v0_3h.1.2.2.2.2.2.2.1 v0_3h.1.2.2.1)≥(0:Int)))
 ((v90=true→Room (x0.2.2.2.1.length+(x0.1.2.2.2.2.2.2.2.2.2.1++[x1]).length) 80∧(let v0_4h:Mc:=(((3:Int),v0_3h.1.2),(v0_3h.2.1,(v0_3h.2.2.1,((x0.2.2.2.1++(x0.1.2.2.2.2.2.2.2.2.2.1++[x1])),v0_3h.2.2.2.2))))
 (let v0_5h:Mc:=((v0_4h.1.1,(v0_4h.1.2.1,(v0_4h.1.2.2.1,(v0_4h.1.2.2.2.1,(v0_4h.1.2.2.2.2.1,(v0_4h.1.2.2.2.2.2.1,(v0_4h.1.2.2.2.2.2.2.1,(v0_4h.1.2.2.2.2.2.2.2.1,(v0_4h.1.2.2.2.2.2.2.2.2.1,(([]:List Hdr),v0_4h.1.2.2.2.2.2.2.2.2.2.2)))))))))),v0_4h.2)
 (Ret2 v0_5h (0:Int) (PCheck.fn x0 x1 x2 x3)))))∧(v90=false→(let v118:Bool:=(decide (((x0.1.2.2.2.2.2.2.2.2.2.1++[x1]).length:Int)>(64:Int)))
 ((v118=true→(0≤(0:Int)∧(0:Int)<((x0.1.2.2.2.2.2.2.2.2.2.1++[x1]).length:Int))∧(let v130:Hdr:=((x0.1.2.2.2.2.2.2.2.2.2.1++[x1]).getD (Int.toNat (0:Int)) ((0:Int),((List.replicate 32 (0:Int)),((List.replicate 32 (0:Int)),((0:Int),((0:Int),((0:Int),())))))))
 Room (x0.2.2.2.1.length+[v130].length) 80∧(let v0_6h:Mc:=(v0_3h.1,(v0_3h.2.1,(v0_3h.2.2.1,((x0.2.2.2.1++[v130]),v0_3h.2.2.2.2))))
 (0≤(1:Int)∧(1:Int)<((x0.1.2.2.2.2.2.2.2.2.2.1++[x1]).length:Int))∧(let v141h:(List Hdr):=((x0.1.2.2.2.2.2.2.2.2.2.1++[x1]).drop (Int.toNat (1:Int)))
 (let v0_7h:Mc:=((v0_6h.1.1,(v0_6h.1.2.1,(v0_6h.1.2.2.1,(v0_6h.1.2.2.2.1,(v0_6h.1.2.2.2.2.1,(v0_6h.1.2.2.2.2.2.1,(v0_6h.1.2.2.2.2.2.2.1,(v0_6h.1.2.2.2.2.2.2.2.1,(v0_6h.1.2.2.2.2.2.2.2.2.1,(v141h,v0_6h.1.2.2.2.2.2.2.2.2.2.2)))))))))),v0_6h.2)
 (Ret2 v0_7h (0:Int) (PCheck.fn x0 x1 x2 x3)))))))∧(v118=false→(Ret2 v0_3h (0:Int) (PCheck.fn x0 x1 x2 x3)))))))))))))))))∧((PCommits.fn x0.1 x2.1)=false→(let v0_8h:Mc:=((x0.1.1,(x0.1.2.1,(x0.1.2.2.1,(x0.1.2.2.2.1,(x0.1.2.2.2.2.1,(x2,x0.1.2.2.2.2.2.2)))))),x0.2)
 (let v0_9h:Mc:=((v0_8h.1.1,(v0_8h.1.2.1,(v0_8h.1.2.2.1,(v0_8h.1.2.2.2.1,(v0_8h.1.2.2.2.2.1,(v0_8h.1.2.2.2.2.2.1,(x3,v0_8h.1.2.2.2.2.2.2.2))))))),v0_8h.2)
 (let v0_10h:Mc:=((v0_9h.1.1,(v0_9h.1.2.1,(v0_9h.1.2.2.1,(v0_9h.1.2.2.2.1,(v0_9h.1.2.2.2.2.1,(v0_9h.1.2.2.2.2.2.1,(v0_9h.1.2.2.2.2.2.2.1,((IntKind.i64.wrap (x0.1.2.2.2.2.2.2.2.1+(1:Int))),v0_9h.1.2.2.2.2.2.2.2.2)))))))),v0_9h.2)
 Room (x0.1.2.2.2.2.2.2.2.2.2.1.length+[x1].length) 80∧(let v0_11h:Mc:=((v0_10h.1.1,(v0_10h.1.2.1,(v0_10h.1.2.2.1,(v0_10h.1.2.2.2.1,(v0_10h.1.2.2.2.2.1,(v0_10h.1.2.2.2.2.2.1,(v0_10h.1.2.2.2.2.2.2.1,(v0_10h.1.2.2.2.2.2.2.2.1,(v0_10h.1.2.2.2.2.2.2.2.2.1,((x0.1.2.2.2.2.2.2.2.2.2.1++[x1]),v0_10h.1.2.2.2.2.2.2.2.2.2.2)))))))))),v0_10h.2)
 WCmp.pre v0_11h.1.2.2.2.2.2.2.1 v0_11h.1.2.2.1∧(let v90_1:Bool:=(decide ((WCmp.fn v0_11h.1.2.2.2.2.2.2.1 v0_11h.1.2.2.1)≥(0:Int)))
 ((v90_1=true→Room (x0.2.2.2.1.length+(x0.1.2.2.2.2.2.2.2.2.2.1++[x1]).length) 80∧(let v0_12h:Mc:=(((3:Int),v0_11h.1.2),(v0_11h.2.1,(v0_11h.2.2.1,((x0.2.2.2.1++(x0.1.2.2.2.2.2.2.2.2.2.1++[x1])),v0_11h.2.2.2.2))))
 (let v0_13h:Mc:=((v0_12h.1.1,(v0_12h.1.2.1,(v0_12h.1.2.2.1,(v0_12h.1.2.2.2.1,(v0_12h.1.2.2.2.2.1,(v0_12h.1.2.2.2.2.2.1,(v0_12h.1.2.2.2.2.2.2.1,(v0_12h.1.2.2.2.2.2.2.2.1,(v0_12h.1.2.2.2.2.2.2.2.2.1,(([]:List Hdr),v0_12h.1.2.2.2.2.2.2.2.2.2.2)))))))))),v0_12h.2)
 (Ret2 v0_13h (0:Int) (PCheck.fn x0 x1 x2 x3)))))∧(v90_1=false→(let v118_1:Bool:=(decide (((x0.1.2.2.2.2.2.2.2.2.2.1++[x1]).length:Int)>(64:Int)))
 ((v118_1=true→(0≤(0:Int)∧(0:Int)<((x0.1.2.2.2.2.2.2.2.2.2.1++[x1]).length:Int))∧(let v130_1:Hdr:=((x0.1.2.2.2.2.2.2.2.2.2.1++[x1]).getD (Int.toNat (0:Int)) ((0:Int),((List.replicate 32 (0:Int)),((List.replicate 32 (0:Int)),((0:Int),((0:Int),((0:Int),())))))))
 Room (x0.2.2.2.1.length+[v130_1].length) 80∧(let v0_14h:Mc:=(v0_11h.1,(v0_11h.2.1,(v0_11h.2.2.1,((x0.2.2.2.1++[v130_1]),v0_11h.2.2.2.2))))
 (0≤(1:Int)∧(1:Int)<((x0.1.2.2.2.2.2.2.2.2.2.1++[x1]).length:Int))∧(let v141_1h:(List Hdr):=((x0.1.2.2.2.2.2.2.2.2.2.1++[x1]).drop (Int.toNat (1:Int)))
 (let v0_15h:Mc:=((v0_14h.1.1,(v0_14h.1.2.1,(v0_14h.1.2.2.1,(v0_14h.1.2.2.2.1,(v0_14h.1.2.2.2.2.1,(v0_14h.1.2.2.2.2.2.1,(v0_14h.1.2.2.2.2.2.2.1,(v0_14h.1.2.2.2.2.2.2.2.1,(v0_14h.1.2.2.2.2.2.2.2.2.1,(v141_1h,v0_14h.1.2.2.2.2.2.2.2.2.2.2)))))))))),v0_14h.2)
 (Ret2 v0_15h (0:Int) (PCheck.fn x0 x1 x2 x3)))))))∧(v118_1=false→(Ret2 v0_11h (0:Int) (PCheck.fn x0 x1 x2 x3))))))))))))))
theorem take1 {l:List Hdr}(h:0<l.length):[l.getD (Int.toNat 0) hz]=l.take 1:=by
 cases l with
 |nil=>simp at h
 |cons a r=>rfl
theorem PCheck.vc :PCheck.VC:=by
 intro m h at' work ⟨hm,hw,hh,ha0,ha1⟩
 have hg:=hm.good
 have f1:=fits_height hm.fitS
 have f2:=fits_height hm.fitA
 have hcnt:=hm.count
 have hbuf:=hm.buf
 have hout:=hm.out
 have hwrap:IntKind.i64.wrap (m.1.2.2.2.2.2.2.2.1+1)=m.1.2.2.2.2.2.2.2.1+1:=i64w (by omega) (by omega)
 have hbl:(m.1.2.2.2.2.2.2.2.2.2.1++[h]).length=m.1.2.2.2.2.2.2.2.2.2.1.length+1:=by simp
 have rest:∀b:Bool,(badFn m.1 at'=false)→
  Room (m.1.2.2.2.2.2.2.2.2.2.1.length+[h].length) 80∧(Ok4 work∧Ok4 m.1.2.2.1)∧
  ((decide (N4 m.1.2.2.1≤N4 work))=true→Room (m.2.2.2.1.length+(m.1.2.2.2.2.2.2.2.2.2.1++[h]).length) 80∧(((3,(setAt m.1 at' work m.1.2.2.2.2.2.2.2.2.1 []).2),m.2.1,m.2.2.1,m.2.2.2.1++(m.1.2.2.2.2.2.2.2.2.2.1++[h]),()),0)=checkS m h at' work)∧
  ((decide (N4 m.1.2.2.1≤N4 work))=false→((decide (((m.1.2.2.2.2.2.2.2.2.2.1++[h]).length:Int)>64))=true→Room (m.2.2.2.1.length+[(m.1.2.2.2.2.2.2.2.2.2.1++[h]).getD (Int.toNat 0) hz].length) 80∧
    ((setAt m.1 at' work m.1.2.2.2.2.2.2.2.2.1 ((m.1.2.2.2.2.2.2.2.2.2.1++[h]).drop 1),m.2.1,m.2.2.1,m.2.2.2.1++[(m.1.2.2.2.2.2.2.2.2.2.1++[h]).getD (Int.toNat 0) hz],()),0)=checkS m h at' work)∧
    ((decide (((m.1.2.2.2.2.2.2.2.2.2.1++[h]).length:Int)>64))=false→((setAt m.1 at' work m.1.2.2.2.2.2.2.2.2.1 (m.1.2.2.2.2.2.2.2.2.2.1++[h]),m.2),0)=checkS m h at' work)):=by
  intro b hbad
  refine⟨room_of (by rw[List.length_singleton];omega) (by omega),⟨hw,hg.2.1⟩,fun hr=>⟨room_of (by omega) (by omega), ?_⟩,fun hr=>⟨fun hk=>⟨room_of (by rw[List.length_singleton];omega) (by omega), ?_⟩,fun hk=> ?_⟩⟩
  ·rw[checkS,hbad,if_neg (by simp),if_pos (of_decide_eq_true hr)]
  ·have hk:=of_decide_eq_true hk
   rw[checkS,hbad,if_neg (by simp),if_neg (of_decide_eq_false hr),if_pos (by omega),take1 (by omega)]
  ·have hk:=of_decide_eq_false hk
   rw[checkS,hbad,if_neg (by simp),if_neg (of_decide_eq_false hr),if_neg (by omega)]
 have hbr:=bef_range hg.1 (st:=m.1.2.2.2.1.1) (H:=at'.1) (by omega) (by omega) (by omega)
 simp only[imp_self,true_and,PCommits.fn,PBefore.fn,PCommitment.fn,WCmp.fn,cmpGe,ret2,PCheck.fn,hwrap]
 refine⟨hg.1,fun hc=>⟨⟨hg.1,by omega,by omega⟩,fun hl=>⟨hbr.1,of_decide_eq_true hl⟩,fun _=>⟨hg.1,hh⟩,fun hv=> ?_,fun hv=> ?_⟩,fun hc=> ?_⟩
 ·have hb:badFn m.1 at'=true:=by
   unfold badFn
   rw[hc,Bool.true_and]
   rw[Bool.cond_false_right] at hv
   exact hv
  rw[checkS,if_pos hb]
 ·have hb:badFn m.1 at'=false:=by
   unfold badFn
   rw[hc,Bool.true_and]
   rw[Bool.cond_false_right] at hv
   exact hv
  obtain⟨r1,r2,r3,r4⟩:=rest true hb
  exact⟨r1,r2,fun hr=>r3 hr,fun hr=>⟨fun hk=>⟨by omega,(r4 hr).1 hk|>.1,by have:=of_decide_eq_true hk;omega,(r4 hr).1 hk|>.2⟩,fun hk=>(r4 hr).2 hk⟩⟩
 ·have hb:badFn m.1 at'=false:=by
   unfold badFn
   rw[hc];rfl
  obtain⟨r1,r2,r3,r4⟩:=rest true hb
  exact⟨r1,r2,fun hr=>r3 hr,fun hr=>⟨fun hk=>⟨by omega,(r4 hr).1 hk|>.1,by have:=of_decide_eq_true hk;omega,(r4 hr).1 hk|>.2⟩,fun hk=>(r4 hr).2 hk⟩⟩
theorem meets_expand {h:List Int}{b:Int}(hm:meetsFn h b=true):expandN b.toNat≠0:=by
 intro h0
 unfold meetsFn at hm
 simp[h0] at hm
theorem check_meets {p:Par}{c:Cx}{h:Hdr}{now:Int}(hc:checkFn p c h now=0):meetsFn (hashH h) h.2.2.2.2.1=true:=by
 have hr:=check_room hc
 unfold checkFn at hc
 rw[if_neg (by omega)] at hc
 split at hc
 ·omega
 ·split at hc
  ·omega
  ·split at hc
   ·rename_i h1 h2 h3;omega
   ·split at hc
    ·omega
    ·split at hc
     ·omega
     ·rename_i hm;simpa using hm
theorem expand_ok {x:Int}(h:expandN x.toNat≠0):(expandFn x).2=0:=by unfold expandFn;rw[if_neg h]
noncomputable def workH (h:Hdr):List Int:=workFn (expandFn h.2.2.2.2.1).1
noncomputable def nextW (m:Mc)(h:Hdr):List Int:=totFn m.1.2.2.2.2.2.2.1 (workH h)
noncomputable def nextA (m:Mc)(h:Hdr):Cx:=(advFn m.2.1 m.1.2.2.2.2.2.1 h).1
noncomputable def takeFn (m:Mc)(h:Hdr):Mc×Int:=
 if m.1.1≠1∧m.1.1≠2 then(m,171)
 else if checkFn m.2.1 m.1.2.2.2.2.2.1 h m.2.2.1≠0 then(m,checkFn m.2.1 m.1.2.2.2.2.2.1 h m.2.2.1)
 else if m.1.1=1 then commitFn m (nextA m h) (nextW m h) else checkS m h (nextA m h) (nextW m h)
def oLen (m:Mc):Nat:=m.2.2.2.1.length+m.1.2.2.2.2.2.2.2.2.2.1.length
def PTake.pre (m:Mc)(h:Hdr):Prop:=MInv m∧HdrOk h∧oLen m≤9000000
noncomputable def PTake.fn (m:Mc)(h:Hdr):Mc×Int:=takeFn m h
def PTake.VC :Prop:=∀(x0:Mc) (x1:Hdr),PTake.pre x0 x1→((x0.1.1 !=(1:Int))=true→(x0.1.1 !=(1:Int))=true)∧((x0.1.1 !=(1:Int))=true→(x0.1.1 !=(1:Int))=true)∧((x0.1.1 !=(1:Int))=true→(x0.1.1 !=(1:Int))=true)∧((x0.1.1 !=(1:Int))=true→(x0.1.1 !=(1:Int))=true)∧((x0.1.1 !=(1:Int))=true→(x0.1.1 !=(1:Int))=true)∧((x0.1.1 !=(1:Int))=true→(x0.1.1 !=(1:Int))=true)∧(let v23:Bool:=(bif (x0.1.1 !=(1:Int)) then(x0.1.1 !=(2:Int)) else false)
 ((v23=true→(Ret2 x0 (171:Int) (PTake.fn x0 x1)))∧(v23=false→UCheck.pre x0.2.1 x0.1.2.2.2.2.2.1 x1 x0.2.2.1∧(let v40:Bool:=((UCheck.fn x0.2.1 x0.1.2.2.2.2.2.1 x1 x0.2.2.1) !=(0:Int))
 ((v40=true→(Ret2 x0 (UCheck.fn x0.2.1 x0.1.2.2.2.2.2.1 x1 x0.2.2.1) (PTake.fn x0 x1)))∧(v40=false→UAdvance.pre x0.2.1 x0.1.2.2.2.2.2.1 x1∧(let v6h:Cx:=((0:Int),((List.replicate 32 (0:Int)),((0:Int),((0:Int),([],())))))
 ((((UAdvance.fn x0.2.1 x0.1.2.2.2.2.2.1 x1).2 !=(0:Int))=true→(Ret2 x0 ((UAdvance.fn x0.2.1 x0.1.2.2.2.2.2.1 x1).2) (PTake.fn x0 x1)))∧(((UAdvance.fn x0.2.1 x0.1.2.2.2.2.2.1 x1).2 !=(0:Int))=false→TExpand.pre x1.2.2.2.2.1∧((((TExpand.fn x1.2.2.2.2.1).2 !=(0:Int))=true→(Ret2 x0 ((TExpand.fn x1.2.2.2.2.1).2) (PTake.fn x0 x1)))∧(((TExpand.fn x1.2.2.2.2.1).2 !=(0:Int))=false→TWork.pre ((TExpand.fn x1.2.2.2.2.1).1)∧TTotal.pre x0.1.2.2.2.2.2.2.1 (TWork.fn ((TExpand.fn x1.2.2.2.2.1).1))∧(let v75:(List Int):=(TTotal.fn x0.1.2.2.2.2.2.2.1 (TWork.fn ((TExpand.fn x1.2.2.2.2.1).1)))
 (((x0.1.1==(1:Int))=true→PCommit.pre x0 ((UAdvance.fn x0.2.1 x0.1.2.2.2.2.2.1 x1).1) v75∧(let v85:Int:=(PCommit.fn x0 ((UAdvance.fn x0.2.1 x0.1.2.2.2.2.2.1 x1).1) v75).2
 (let v0h:Mc:=(PCommit.fn x0 ((UAdvance.fn x0.2.1 x0.1.2.2.2.2.2.1 x1).1) v75).1
 (let v1015085h:(List Bool):=(PCommit.fn x0 ((UAdvance.fn x0.2.1 x0.1.2.2.2.2.2.1 x1).1) v75).1.1.2.2.2.2.2.2.2.2.1
 (let v2015085h:(List Hdr):=(PCommit.fn x0 ((UAdvance.fn x0.2.1 x0.1.2.2.2.2.2.1 x1).1) v75).1.1.2.2.2.2.2.2.2.2.2.1
 (let v3015085h:(List Hdr):=(PCommit.fn x0 ((UAdvance.fn x0.2.1 x0.1.2.2.2.2.2.1 x1).1) v75).1.2.2.2.1
 (Ret2 v0h v85 (PTake.fn x0 x1))))))))∧((x0.1.1==(1:Int))=false→PCheck.pre x0 x1 ((UAdvance.fn x0.2.1 x0.1.2.2.2.2.2.1 x1).1) v75∧(let v90:Int:=(PCheck.fn x0 x1 ((UAdvance.fn x0.2.1 x0.1.2.2.2.2.2.1 x1).1) v75).2
 (let v0_1h:Mc:=(PCheck.fn x0 x1 ((UAdvance.fn x0.2.1 x0.1.2.2.2.2.2.1 x1).1) v75).1
 (let v1015090h:(List Bool):=(PCheck.fn x0 x1 ((UAdvance.fn x0.2.1 x0.1.2.2.2.2.2.1 x1).1) v75).1.1.2.2.2.2.2.2.2.2.1
 (let v2015090h:(List Hdr):=(PCheck.fn x0 x1 ((UAdvance.fn x0.2.1 x0.1.2.2.2.2.2.1 x1).1) v75).1.1.2.2.2.2.2.2.2.2.2.1
 (let v3015090h:(List Hdr):=(PCheck.fn x0 x1 ((UAdvance.fn x0.2.1 x0.1.2.2.2.2.2.1 x1).1) v75).1.2.2.2.1
 (Ret2 v0_1h v90 (PTake.fn x0 x1)))))))))))))))))))))
theorem adv_ready {m:Mc}{h:Hdr}(hm:MInv m)(hh:HdrOk h):AdvPre m.2.1 m.1.2.2.2.2.2.1 h:=⟨hm.par,hm.good.2.2.2.2.1,hh⟩
theorem adv_height {p:Par}{c:Cx}{h:Hdr}(hr:roomFn p c=0):(advFn p c h).1.1=c.1+1:=by rw[adv_ok hr]
theorem next_facts {m:Mc}{h:Hdr}(hm:MInv m)(hh:HdrOk h)(hc:checkFn m.2.1 m.1.2.2.2.2.2.1 h m.2.2.1=0):
 CGood (nextA m h)∧fitsFn m.2.1 (nextA m h)=true∧(nextA m h).1=m.1.2.2.2.2.2.1.1+1∧0≤(nextA m h).1∧(nextA m h).1≤16777217∧Ok4 (nextW m h)∧(nextA m h).2.1=hashH h:=by
 have hr:=check_room hc
 have f:=fits_height hm.fitA
 have e:(nextA m h).1=m.1.2.2.2.2.2.1.1+1:=adv_height hr
 exact⟨adv_good (adv_ready hm hh),adv_fits hr,e,by omega,by omega,ok4' _,by unfold nextA;rw[adv_ok hr]⟩
theorem PTake.vc :PTake.VC:=by
 intro m h ⟨hm,hh,ho⟩
 have hg:=hm.good
 have ha:=adv_ready hm hh
 simp only[imp_self,true_and,UCheck.fn,UAdvance.fn,adv_err,TExpand.fn,TWork.fn,TTotal.fn,PCommit.fn,PCheck.fn,ret2,PTake.fn,TWork.pre,TTotal.pre]
 refine⟨fun hp=> ?_,fun hp=>⟨⟨ha,hm.now⟩,fun hc=> ?_,fun hc=>⟨ha,fun hr=> ?_,fun hr=>⟨hh.2.2.2.2.1,fun he=> ?_,fun he=>⟨(expand1 hh.2.2.2.2.1).1,⟨hg.2.2.2.2.2.1,ok4' _⟩,fun h1=> ?_,fun h1=> ?_⟩⟩⟩⟩⟩
 ·rw[Bool.cond_false_right] at hp
  simp only[Bool.and_eq_true,bne_iff_ne,ne_eq] at hp
  rw[takeFn,if_pos hp]
 all_goals
  rw[Bool.cond_false_right] at hp
  have hp:¬(m.1.1≠1∧m.1.1≠2):=by
   intro hq
   have h1:(m.1.1 !=1)=true:=bne_iff_ne.2 hq.1
   have h2:(m.1.1 !=2)=true:=bne_iff_ne.2 hq.2
   rw[h1,h2] at hp;cases hp
 ·rw[takeFn,if_neg hp,if_pos (by simpa using hc)]
 all_goals have hc:checkFn m.2.1 m.1.2.2.2.2.2.1 h m.2.2.1=0:=by simpa using hc
 ·rw[check_room hc] at hr;cases hr
 ·rw[expand_ok (meets_expand (check_meets hc))] at he;cases he
 ·obtain⟨n1,n2,n3,n4,n5,n6,n7⟩:=next_facts hm hh hc
  have h1:m.1.1=1:=by simpa using h1
  refine⟨⟨hm,n6,n1.2.1⟩, ?_⟩
  rw[takeFn,if_neg hp,if_neg (by omega),if_pos h1]
  rfl
 ·obtain⟨n1,n2,n3,n4,n5,n6,n7⟩:=next_facts hm hh hc
  have h1:m.1.1≠1:=by simpa using h1
  refine⟨⟨hm,n6,n1.2.1,n4,n5⟩, ?_⟩
  rw[takeFn,if_neg hp,if_neg (by omega),if_neg h1]
  rfl
theorem bits_len {m:Mc}{a:Cx}(hm:MInv m)(hn:¬(comFn m.1.2.1 a.1=true∧1024≤m.1.2.2.2.2.2.2.2.2.1.length)):(bitsOf m.1 a).length≤1024:=by
 have:=hm.bits
 unfold bitsOf
 split
 ·rename_i hc
  have:¬1024≤m.1.2.2.2.2.2.2.2.2.1.length:=fun h=>hn ⟨hc,h⟩
  rw[List.length_append,List.length_singleton];omega
 ·exact this
theorem take_inv {m:Mc}{h:Hdr}(hm:MInv m)(hh:HdrOk h)(ho:oLen m≤9000000):MInv (takeFn m h).1∧(takeFn m h).1.2.1=m.2.1∧(takeFn m h).1.2.2.1=m.2.2.1∧oLen (takeFn m h).1≤oLen m+1:=by
 have hg:=hm.good
 unfold takeFn
 split
 ·exact⟨hm,rfl,rfl,Nat.le_succ (oLen m)⟩
 split
 ·exact⟨hm,rfl,rfl,Nat.le_succ (oLen m)⟩
 rename_i hp hc
 have hc:checkFn m.2.1 m.1.2.2.2.2.2.1 h m.2.2.1=0:=by omega
 obtain⟨n1,n2,n3,n4,n5,n6,n7⟩:=next_facts hm hh hc
 have hcount:=hm.count
 split
 ·unfold commitFn
  split
  ·exact⟨hm,rfl,rfl,Nat.le_succ (oLen m)⟩
  ·rename_i hl
   have hb:=bits_len hm hl
   split
   ·refine⟨⟨hm.par,⟨hg.1,hg.2.1,hg.2.2.1,hg.2.2.2.1,hg.2.2.1,hg.2.2.2.1,hg.2.2.2.2.2.2⟩,hm.fitS,hm.fitS,⟨by show(1:Int)≤2;omega,by show(2:Int)≤4;omega⟩,hb,hm.buf,hm.goal,by show(0:Int)=m.1.2.2.2.1.1-m.1.2.2.2.1.1;omega,hm.now,hm.out⟩,rfl,rfl, ?_⟩
    show oLen (turnS m.1 _,m.2)≤_
    unfold oLen turnS
    simp only;omega
   ·refine⟨⟨hm.par,⟨hg.1,hg.2.1,hg.2.2.1,hg.2.2.2.1,n1,n6,hg.2.2.2.2.2.2⟩,hm.fitS,n2,hm.phase,hb,hm.buf,hm.goal, ?_,hm.now,hm.out⟩,rfl,rfl, ?_⟩
    ·show m.1.2.2.2.2.2.2.2.1+1=(nextA m h).1-m.1.2.2.2.1.1;omega
    ·show oLen (setAt m.1 _ _ _ _,m.2)≤_
     unfold oLen setAt
     simp only;omega
 ·have hbuf:=hm.buf
  unfold oLen at ho
  have hok:∀x,x∈m.1.2.2.2.2.2.2.2.2.2.1++[h]→HdrOk x:=fun x hx=>by
   rcases List.mem_append.1 hx with hx|hx
   ·exact hg.2.2.2.2.2.2 x hx
   ·rw[List.mem_singleton.1 hx];exact hh
  have hcnt:m.1.2.2.2.2.2.2.2.1+1=(nextA m h).1-m.1.2.2.2.1.1:=by omega
  unfold checkS
  split
  ·exact⟨hm,rfl,rfl,Nat.le_succ (oLen m)⟩
  split
  ·refine⟨⟨hm.par,⟨hg.1,hg.2.1,hg.2.2.1,hg.2.2.2.1,n1,n6,fun x hx=>(by cases hx)⟩,hm.fitS,n2,⟨by show(1:Int)≤3;omega,by show(3:Int)≤4;omega⟩,hm.bits,by show 0≤64;omega,hm.goal,hcnt,hm.now, ?_⟩,rfl,rfl, ?_⟩
   ·show(m.2.2.2.1++_).length≤_
    rw[List.length_append,List.length_append,List.length_singleton];omega
   ·show(m.2.2.2.1++(m.1.2.2.2.2.2.2.2.2.2.1++[h])).length+0≤oLen m+1
    unfold oLen
    rw[List.length_append,List.length_append,List.length_singleton];omega
  split
  ·rename_i hl
   refine⟨⟨hm.par,⟨hg.1,hg.2.1,hg.2.2.1,hg.2.2.2.1,n1,n6,fun x hx=>hok x (List.mem_of_mem_drop hx)⟩,hm.fitS,n2,hm.phase,hm.bits, ?_,hm.goal,hcnt,hm.now, ?_⟩,rfl,rfl, ?_⟩
   ·show((m.1.2.2.2.2.2.2.2.2.2.1++[h]).drop 1).length≤64
    rw[List.length_drop,List.length_append,List.length_singleton];omega
   ·show(m.2.2.2.1++_).length≤_
    rw[List.length_append,List.length_take];omega
   ·show(m.2.2.2.1++(m.1.2.2.2.2.2.2.2.2.2.1++[h]).take 1).length+((m.1.2.2.2.2.2.2.2.2.2.1++[h]).drop 1).length≤oLen m+1
    unfold oLen
    rw[List.length_append,List.length_take,List.length_drop,List.length_append,List.length_singleton];omega
  ·rename_i hl
   refine⟨⟨hm.par,⟨hg.1,hg.2.1,hg.2.2.1,hg.2.2.2.1,n1,n6,hok⟩,hm.fitS,n2,hm.phase,hm.bits, ?_,hm.goal,hcnt,hm.now,hm.out⟩,rfl,rfl, ?_⟩
   ·show(m.1.2.2.2.2.2.2.2.2.2.1++[h]).length≤64
    omega
   ·show m.2.2.2.1.length+(m.1.2.2.2.2.2.2.2.2.2.1++[h]).length≤oLen m+1
    unfold oLen
    rw[List.length_append,List.length_singleton];omega
def failS (s:Pst):Pst:=(4,s.2.1,s.2.2.1,s.2.2.2.1,s.2.2.2.2.1,s.2.2.2.2.2.1,s.2.2.2.2.2.2.1,s.2.2.2.2.2.2.2.1,[],[],())
noncomputable def feedGo :Mc→List Hdr→Pst×List Hdr×Int
 |m,[]=>(m.1,m.2.2.2.1,0)
 |m,h::r=>if(takeFn m h).2≠0 then(failS (takeFn m h).1.1,(takeFn m h).1.2.2.2.1,(takeFn m h).2) else feedGo (takeFn m h).1 r
noncomputable def feedFn (p:Par)(s:Pst)(l:List Hdr)(now:Int):Pst×List Hdr×Int:=if soundFn p s=false then(zps,[],6) else feedGo (s,p,now,[],()) l
def FeedPre (p:Par)(s:Pst)(l:List Hdr)(now:Int):Prop:=PGood p∧SGood s∧(∀h,h∈l→HdrOk h)∧l.length≤100000∧U32 now
def PFeed.pre (p:Par)(s:Pst)(l:List Hdr)(now:Int):Prop:=FeedPre p s l now
noncomputable def PFeed.fn (p:Par)(s:Pst)(l:List Hdr)(now:Int):Pst×List Hdr×Int:=feedFn p s l now
def PFeed.inv6 (p:Par)(s:Pst)(l:List Hdr)(now:Int)(z:Pst)(m:Mc)(i:Int):Prop:=0≤i∧i≤l.length∧MInv m∧oLen m≤64+i.toNat∧feedFn p s l now=feedGo m (l.drop i.toNat)
def PFeed.mes6 (p:Par)(s:Pst)(l:List Hdr)(now:Int)(z:Pst)(m:Mc)(i:Int):Nat:=(l.length-i).toNat
def PFeed.VC :Prop:=∀(x0:Par) (x1:Pst) (x2:(List Hdr)) (x3:Int),PFeed.pre x0 x1 x2 x3→(let v8h:Pst:=((0:Int),((List.replicate 32 (0:Int)),((List.replicate 4 (0:Int)),(((0:Int),((List.replicate 32 (0:Int)),((0:Int),((0:Int),([],()))))),((List.replicate 4 (0:Int)),(((0:Int),((List.replicate 32 (0:Int)),((0:Int),((0:Int),([],()))))),((List.replicate 4 (0:Int)),((0:Int),([],([],()))))))))))
 PSound.pre x0 x1∧(let v11h:Pst:=((0:Int),((List.replicate 32 (0:Int)),((List.replicate 4 (0:Int)),(((0:Int),((List.replicate 32 (0:Int)),((0:Int),((0:Int),([],()))))),((List.replicate 4 (0:Int)),(((0:Int),((List.replicate 32 (0:Int)),((0:Int),((0:Int),([],()))))),((List.replicate 4 (0:Int)),((0:Int),([],([],()))))))))))
 (((!(PSound.fn x0 x1).2)=true→(let v25:Pst:=((0:Int),((List.replicate 32 (0:Int)),((List.replicate 4 (0:Int)),(((0:Int),((List.replicate 32 (0:Int)),((0:Int),((0:Int),([],()))))),((List.replicate 4 (0:Int)),(((0:Int),((List.replicate 32 (0:Int)),((0:Int),((0:Int),([],()))))),((List.replicate 4 (0:Int)),((0:Int),([],([],()))))))))))
 (Ret3 v25 [] (6:Int) (PFeed.fn x0 x1 x2 x3))))∧((!(PSound.fn x0 x1).2)=false→(let v13h:Mc:=(((0:Int),((List.replicate 32 (0:Int)),((List.replicate 4 (0:Int)),(((0:Int),((List.replicate 32 (0:Int)),((0:Int),((0:Int),([],()))))),((List.replicate 4 (0:Int)),(((0:Int),((List.replicate 32 (0:Int)),((0:Int),((0:Int),([],()))))),((List.replicate 4 (0:Int)),((0:Int),([],([],())))))))))),((((0:Int),((List.replicate 32 (0:Int)),((List.replicate 32 (0:Int)),((0:Int),((0:Int),((0:Int),())))))),((List.replicate 4 (0:Int)),((0:Int),((0:Int),((0:Int),((0:Int),([],((0:Int),((0:Int),((0:Int),())))))))))),((0:Int),([],()))))
 (PFeed.inv6 x0 x1 x2 x3 v8h ((PSound.fn x0 x1).1,(x0,(x3,([],())))) (0:Int)∧∀(v8_1:Pst) (v13_1:Mc) (v32:Int),PFeed.inv6 x0 x1 x2 x3 v8_1 v13_1 v32→(((decide (v32<(x2.length:Int)))=true→(0≤v32∧v32<(x2.length:Int))∧(let v35:Hdr:=(x2.getD (Int.toNat v32) ((0:Int),((List.replicate 32 (0:Int)),((List.replicate 32 (0:Int)),((0:Int),((0:Int),((0:Int),())))))))
 (let v15h:Hdr:=((0:Int),((List.replicate 32 (0:Int)),((List.replicate 32 (0:Int)),((0:Int),((0:Int),((0:Int),()))))))
 PTake.pre v13_1 v35∧((((PTake.fn v13_1 v35).2 !=(0:Int))=true→(let v13_2h:Mc:=(((4:Int),(PTake.fn v13_1 v35).1.1.2),(PTake.fn v13_1 v35).1.2)
 (let v13_3h:Mc:=((v13_2h.1.1,(v13_2h.1.2.1,(v13_2h.1.2.2.1,(v13_2h.1.2.2.2.1,(v13_2h.1.2.2.2.2.1,(v13_2h.1.2.2.2.2.2.1,(v13_2h.1.2.2.2.2.2.2.1,(v13_2h.1.2.2.2.2.2.2.2.1,([],v13_2h.1.2.2.2.2.2.2.2.2.2))))))))),v13_2h.2)
 (let v13_4h:Mc:=((v13_3h.1.1,(v13_3h.1.2.1,(v13_3h.1.2.2.1,(v13_3h.1.2.2.2.1,(v13_3h.1.2.2.2.2.1,(v13_3h.1.2.2.2.2.2.1,(v13_3h.1.2.2.2.2.2.2.1,(v13_3h.1.2.2.2.2.2.2.2.1,(v13_3h.1.2.2.2.2.2.2.2.2.1,([],v13_3h.1.2.2.2.2.2.2.2.2.2.2)))))))))),v13_3h.2)
 (Ret3 v13_4h.1 ((PTake.fn v13_1 v35).1.2.2.2.1) ((PTake.fn v13_1 v35).2) (PFeed.fn x0 x1 x2 x3))))))∧(((PTake.fn v13_1 v35).2 !=(0:Int))=false→(PFeed.inv6 x0 x1 x2 x3 v8_1 ((PTake.fn v13_1 v35).1) (IntKind.i64.wrap (v32+(1:Int)))∧PFeed.mes6 x0 x1 x2 x3 v8_1 ((PTake.fn v13_1 v35).1) (IntKind.i64.wrap (v32+(1:Int)))<PFeed.mes6 x0 x1 x2 x3 v8_1 v13_1 v32))))))∧((decide (v32<(x2.length:Int)))=false→(Ret3 v13_1.1 v13_1.2.2.2.1 (0:Int) (PFeed.fn x0 x1 x2 x3))))))))))
theorem minv0 {p:Par}{s:Pst}{now:Int}(hp:PGood p)(hs:SGood s)(hn:U32 now)(h:soundFn p s=true):MInv (s,p,now,[],()):=by
 obtain⟨k1,k2,k3,k4,k5,k6⟩:=(sound_iff p s).1 h
 exact⟨hp,hs,k1,k2,k3,k4.1,k4.2,k5,k6,hn,by show 0≤_;omega⟩
theorem PFeed.vc :PFeed.VC:=by
 intro p s l now ⟨h1,h2,h3,h4,h5⟩
 simp only[PSound.fn,PTake.fn,ret3,PFeed.fn]
 refine⟨⟨h1,h2⟩,fun hf=> ?_,fun hf=> ?_⟩
 ·rw[feedFn,if_pos (by simpa using hf)];rfl
 have hf:soundFn p s=true:=by simpa using hf
 have hm0:=minv0 h1 h2 h5 hf
 rw[hf]
 refine⟨⟨by omega,by omega,hm0, ?_, ?_⟩, ?_⟩
 ·show 0+s.2.2.2.2.2.2.2.2.2.1.length≤_
  have:=hm0.buf
  have:s.2.2.2.2.2.2.2.2.2.1.length≤64:=this
  omega
 ·rw[feedFn,hf,if_neg (by simp)];rfl
 rintro z m i ⟨k1,k2,k3,k4,k5⟩
 refine⟨fun hc=> ?_,fun hc=> ?_⟩
 ·have hc:i<l.length:=of_decide_eq_true hc
  rw[drop_hdr k1 hc] at k5
  have hh:=get_hdr h3 k1 hc
  generalize l.getD i.toNat _=h at*
  obtain⟨t1,t2,t3,t4⟩:=take_inv k3 hh (by omega)
  rw[feedGo] at k5
  refine⟨⟨k1,hc⟩,⟨k3,hh,by omega⟩,fun he=> ?_,fun he=> ?_⟩
  ·rw[k5,if_pos (by simpa using he)];rfl
  ·rw[if_neg (by simpa using he)] at k5
   rw[i64w (by omega) (by omega)]
   exact⟨⟨by omega,by omega,t1,by omega,k5⟩,by simp only[PFeed.mes6];omega⟩
 ·have hc:¬i<l.length:=of_decide_eq_false hc
  rw[k5,List.drop_eq_nil_of_le (by omega)];rfl
def memFn (s:Pst):Int:=(s.2.2.2.2.2.2.2.2.1.length:Int)+(s.2.2.2.2.2.2.2.2.2.1.length:Int)
def PMemory.pre (s:Pst):Prop:=s.2.2.2.2.2.2.2.2.1.length≤100000∧s.2.2.2.2.2.2.2.2.2.1.length≤100000
def PMemory.fn (s:Pst):Int:=memFn s
def PMemory.VC :Prop:=∀(x0:Pst),PMemory.pre x0→(let v9:Int:=(IntKind.i64.wrap ((x0.2.2.2.2.2.2.2.2.1.length:Int)+(x0.2.2.2.2.2.2.2.2.2.1.length:Int)))
 (Ret1 v9 (PMemory.fn x0)))
theorem PMemory.vc :PMemory.VC:=by
 intro s ⟨h1,h2⟩
 exact ret1.2 (i64w (by omega) (by omega))
end Lc
set_option maxRecDepth 100000
namespace Lc
open Go
theorem expand_compact {n:Nat}(hn:n≠0)(hB:n<Big):∃u,expandN (compactN n)=u∧u≤n∧2^(bl n-1)≤u∧compactN n<4294967296:=by
 have hm:=manti_lt hn
 have hb:=bl_big hB
 have hp:=bl_pos hn
 have he0:expo n=(bl n+8)/8:=rfl
 have hc:compactN n=expo n*16777216+manti n:=by unfold compactN;rw[if_neg hn]
 have hmod:compactN n%16777216=manti n:=by rw[hc];omega
 have hdiv:compactN n/16777216=expo n:=by rw[hc];omega
 refine⟨_,rfl, ?_, ?_,by rw[hc];omega⟩
 ·unfold expandN
  rw[hmod,hdiv,if_neg (by omega)]
  split
  ·rename_i h3
   have:manti n=n*2^(8*(3-expo n)):=by unfold manti;rw[if_pos (by omega)]
   rw[this,Nat.mul_div_cancel _ (Nat.two_pow_pos _)]
   exact Nat.le_refl _
  ·split
   ·exact Nat.zero_le _
   ·rename_i h3 h4
    by_cases h5:expo n=3
    ·have:manti n=n:=by unfold manti;rw[if_pos (by omega),h5];simp
     rw[this,h5];simp
    ·have:manti n=n/2^(8*(expo n-3)):=by unfold manti;rw[if_neg (by omega)]
     rw[this]
     exact Nat.div_mul_le_self _ _
 ·unfold expandN
  rw[hmod,hdiv,if_neg (by omega)]
  split
  ·rename_i h3
   have:manti n=n*2^(8*(3-expo n)):=by unfold manti;rw[if_pos (by omega)]
   rw[this,Nat.mul_div_cancel _ (Nat.two_pow_pos _)]
   exact bl_le hn
  ·rename_i h3
   by_cases h5:expo n=3
   ·have:manti n=n:=by unfold manti;rw[if_pos (by omega),h5];simp
    rw[this,h5,if_neg (by omega)];simp;exact bl_le hn
   ·have hmn:manti n=n/2^(8*(expo n-3)):=by unfold manti;rw[if_neg (by omega)]
    have hbm:bl (manti n)=bl n-8*(expo n-3):=by rw[hmn,bl_div]
    rw[if_neg (by omega),hmn]
    have hq:2^(bl n-1-8*(expo n-3))≤n/2^(8*(expo n-3)):=by
     rw[Nat.le_div_iff_mul_le (Nat.two_pow_pos _),←Nat.pow_add,show bl n-1-8*(expo n-3)+8*(expo n-3)=bl n-1 by omega]
     exact bl_le hn
    have:=Nat.mul_le_mul_right (2^(8*(expo n-3))) hq
    rw[←Nat.pow_add,show bl n-1-8*(expo n-3)+8*(expo n-3)=bl n-1 by omega] at this
    exact this
def Acc (p:Par)(now:Int):Cx→List Hdr→Prop
 |_,[]=>True
 |c,h::r=>checkFn p c h now=0∧Acc p now (advFn p c h).1 r
noncomputable def ctxOf (p:Par):Cx→List Hdr→Cx
 |c,[]=>c
 |c,h::r=>ctxOf p (advFn p c h).1 r
theorem acc_append {p:Par}{now:Int}:∀(l m:List Hdr) (c:Cx),Acc p now c (l++m)↔Acc p now c l∧Acc p now (ctxOf p c l) m
 |[],m,c=>by simp[Acc,ctxOf]
 |h::r,m,c=>by simp only[List.cons_append,Acc,ctxOf,acc_append r m,and_assoc]
theorem ctx_append {p:Par}:∀(l m:List Hdr) (c:Cx),ctxOf p c (l++m)=ctxOf p (ctxOf p c l) m
 |[],m,c=>rfl
 |h::r,m,c=>by simp only[List.cons_append,ctxOf,ctx_append r m]
theorem acc_take {p:Par}{now:Int}{c:Cx}{l:List Hdr}(h:Acc p now c l)(k:Nat):Acc p now c (l.take k):=by
 rw[←List.take_append_drop k l,acc_append] at h;exact h.1
theorem headers_acc (p:Par):∀(s:List Int) (c:Cx),Acc p 1073741824 c (headersGo p c s)
 |[],c=>trivial
 |s::r,c=>by
  rw[headersGo]
  split
  ·trivial
  ·rename_i h;exact⟨by omega,headers_acc p r _⟩
theorem acc_height {p:Par}{now:Int}:∀(l:List Hdr) (c:Cx),Acc p now c l→(ctxOf p c l).1=c.1+l.length
 |[],c,_=>by simp[ctxOf]
 |h::r,c,⟨h1,h2⟩=>by
  rw[ctxOf,acc_height r _ h2,adv_height (check_room h1),List.length_cons];omega
theorem check_bits {p:Par}{c:Cx}{h:Hdr}{now:Int}(hc:checkFn p c h now=0):h.2.2.2.2.1=(nextFn p c).1∧(nextFn p c).2=0:=by
 have hr:=check_room hc
 unfold checkFn at hc
 rw[if_neg (by omega)] at hc
 split at hc
 ·omega
 ·split at hc
  ·omega
  ·split at hc
   ·rename_i h1 h2 h3;omega
   ·rename_i h3
    split at hc
    ·omega
    ·rename_i h4;exact⟨by simpa using h4,by omega⟩
theorem span_low {due:Nat}(h:15≤due)(a b:Int):due≤5*spanN due a b:=by unfold spanN;omega
theorem adj_low {p:Par}{b f l:Int}(hv:validFn p=true)(hd:15≤dueN p)(hlim:2^254≤N4 p.2.1)(hB:N4 p.2.1<Big)(h118:2^118≤expandN b.toNat)(hx:expandN b.toNat<Big):
 expandN b.toNat≤16*expandN (adjFn p b f l).1.toNat:=by
 have hne:expandN b.toNat≠0:=fun h=>by rw[h] at h118;exact absurd h118 (by decide)
 unfold adjFn
 rw[hv,if_neg (by simp),if_neg hne]
 simp only[Int.toNat_natCast]
 have hs:=span_low hd f l
 have hdpos:0<dueN p:=by omega
 generalize hT:expandN b.toNat=t at*
 have hq5:t/5≤t*spanN (dueN p) f l/dueN p:=by
  rw[Nat.le_div_iff_mul_le hdpos]
  have h1:t/5*dueN p≤t/5*(5*spanN (dueN p) f l):=Nat.mul_le_mul_left _ hs
  have h2:t/5*(5*spanN (dueN p) f l)=t/5*5*spanN (dueN p) f l:=by rw[Nat.mul_assoc]
  have h3:t/5*5*spanN (dueN p) f l≤t*spanN (dueN p) f l:=Nat.mul_le_mul_right _ (Nat.div_mul_le_self _ _)
  omega
 have hq:adjQ p b f l=min (t*spanN (dueN p) f l/dueN p) (N4 p.2.1):=by unfold adjQ;rw[hT]
 have hqlow:t/5≤adjQ p b f l∨2^254≤adjQ p b f l:=by rw[hq];omega
 have hqB:adjQ p b f l<Big:=by rw[hq];omega
 have hq0:adjQ p b f l≠0:=by
  rcases hqlow with h|h
  ·have:(2:Nat)^118=332306998946228968225951765070086144:=by decide
   omega
  ·intro h0;rw[h0] at h;exact absurd h (by decide)
 rw[if_neg hq0]
 obtain⟨u,u1,u2,u3,_⟩:=expand_compact hq0 hqB
 rw[u1]
 have hb:adjQ p b f l<2^bl (adjQ p b f l):=bl_le_iff.1 (Nat.le_refl _)
 have hbp:1≤bl (adjQ p b f l):=bl_pos hq0
 have he:(2:Nat)^bl (adjQ p b f l)=2*2^(bl (adjQ p b f l)-1):=by
  rw[←Nat.pow_succ'];congr 1;omega
 have h2u:adjQ p b f l≤2*u:=by omega
 rcases hqlow with h|h
 ·have:(2:Nat)^118=332306998946228968225951765070086144:=by decide
  omega
 ·have h254:(2:Nat)^254=28948022309329048855892746252171976963317496166410141009864396001978282409984:=by decide
  unfold Big at hx
  omega
def LowC (p:Par)(c:Cx):Prop:=2^250≤expandN c.2.2.1.toNat*16^(c.1/p.2.2.1).toNat
theorem low_118 {t a:Nat}(h:2^250≤t*16^a)(ha:a≤33):2^118≤t:=by
 refine Nat.le_of_not_lt (fun hlt=> ?_)
 have h1:t*16^a<2^118*16^a:=Nat.mul_lt_mul_of_pos_right hlt (Nat.pow_pos (by omega))
 have h2:(16:Nat)^a≤16^33:=Nat.pow_le_pow_right (by omega) ha
 have h3:2^118*16^a≤2^118*16^33:=Nat.mul_le_mul_left _ h2
 have h4:(2:Nat)^118*16^33=2^250:=by decide
 omega
theorem low_advance {p:Par}{c:Cx}{h:Hdr}{now:Int}(hp:PGood p)(hcg:CGood c)(hf:fitsFn p c=true)(hw:3≤p.2.2.1)(hd:15≤dueN p)(hlim:2^254≤N4 p.2.1)(hc:checkFn p c h now=0)(hH:c.1+1≤100)(hl:LowC p c):
 LowC p (advFn p c h).1∧2^118≤expandN h.2.2.2.2.1.toNat:=by
 obtain⟨hb,hn0⟩:=check_bits hc
 have hr:=check_room hc
 obtain⟨f1,f2,f3,f4,f5,f6,f7,f8⟩:=room_facts hr
 have hbad:nextBad p c=false:=by
  cases hq:nextBad p c with
  |false=>rfl
  |true=>unfold nextFn at hn0;rw[hq,if_pos rfl] at hn0;cases hn0
 have hdm:=Int.mul_ediv_add_emod c.1 p.2.2.1
 have hr0:=Int.emod_nonneg c.1 (show p.2.2.1≠0 by omega)
 have hr1:=Int.emod_lt_of_pos c.1 (show 0<p.2.2.1 by omega)
 have hq0:0≤c.1/p.2.2.1:=Int.ediv_nonneg f5 (by omega)
 have hq33:(c.1/p.2.2.1).toNat≤33:=by
  have:=Int.mul_le_mul_of_nonneg_right hw hq0
  omega
 unfold LowC at hl
 have h118:=low_118 hl hq33
 have hbits:(advFn p c h).1.2.2.1=h.2.2.2.2.1:=by rw[adv_ok hr]
 have hhgt:(advFn p c h).1.1=c.1+1:=adv_height hr
 have htm:Int.tmod (c.1+1) p.2.2.1=(c.1+1)%p.2.2.1:=Int.tmod_eq_emod_of_nonneg (by omega)
 have key:2^250≤expandN h.2.2.2.2.1.toNat*16^((c.1+1)/p.2.2.1).toNat:=by
  rw[hb]
  unfold nextFn
  rw[hbad,if_neg (by simp),htm]
  split
  ·rename_i hm
   have hdiv:(c.1+1)/p.2.2.1=c.1/p.2.2.1+1:=by
    have hdm2:=Int.mul_ediv_add_emod (c.1+1) p.2.2.1
    rw[hm] at hdm2
    generalize (c.1+1)/p.2.2.1=q' at*
    generalize c.1/p.2.2.1=q at*
    generalize p.2.2.1=w at*
    generalize c.1%w=r at*
    have h1:w*(q'-q)=r+1:=by rw[Int.mul_sub];omega
    have h2:0<q'-q:=by
     refine Int.lt_of_not_ge (fun hle=> ?_)
     have:=Int.mul_nonpos_of_nonneg_of_nonpos (show 0≤w by omega) (show q'-q≤0 by omega)
     omega
    have h3:q'-q<2:=by
     refine Int.lt_of_not_ge (fun hge=> ?_)
     have:=Int.mul_le_mul_of_nonneg_left (show 2≤q'-q by omega) (show 0≤w by omega)
     omega
    omega
   rw[hdiv,show(c.1/p.2.2.1+1).toNat=(c.1/p.2.2.1).toNat+1 by omega,show(16:Nat)^((c.1/p.2.2.1).toNat+1)=16*16^(c.1/p.2.2.1).toNat from Nat.pow_succ',←Nat.mul_assoc]
   have hlow:=adj_low (f:=c.2.2.2.1) (l:=c.2.2.2.2.1.getD (c.2.2.2.2.1.length-1) 0) f7 hd hlim hp.1.1.lt h118 (expandN_lt (by have:=hcg.1.1;unfold U32 at this;omega))
   have:expandN c.2.2.1.toNat*16^(c.1/p.2.2.1).toNat≤expandN (adjFn p c.2.2.1 c.2.2.2.1 (c.2.2.2.2.1.getD (c.2.2.2.2.1.length-1) 0)).1.toNat*16*16^(c.1/p.2.2.1).toNat:=Nat.mul_le_mul_right _ (by omega)
   omega
  ·have hge:(c.1/p.2.2.1).toNat≤((c.1+1)/p.2.2.1).toNat:=by
    have:=Int.ediv_le_ediv (show 0<p.2.2.1 by omega) (show c.1≤c.1+1 by omega)
    omega
   exact Nat.le_trans hl (Nat.mul_le_mul_left _ (Nat.pow_le_pow_right (by omega) hge))
 refine⟨?_,low_118 key ?_⟩
 ·unfold LowC
  rw[hbits,hhgt];exact key
 ·have hdm2:=Int.mul_ediv_add_emod (c.1+1) p.2.2.1
  have h0:=Int.emod_nonneg (c.1+1) (show p.2.2.1≠0 by omega)
  have h1:0≤(c.1+1)/p.2.2.1:=Int.ediv_nonneg (by omega) (by omega)
  have:=Int.mul_le_mul_of_nonneg_right hw h1
  omega
theorem acc_low {p:Par}{now:Int}(hp:PGood p)(hw:3≤p.2.2.1)(hd:15≤dueN p)(hlim:2^254≤N4 p.2.1):∀(l:List Hdr) (c:Cx),CGood c→fitsFn p c=true→LowC p c→(∀h,h∈l→HdrOk h)→Acc p now c l→c.1+l.length≤100→
 ∀h,h∈l→2^118≤expandN h.2.2.2.2.1.toNat
 |[],c,_,_,_,_,_,_,h,hh=>by cases hh
 |x::r,c,hc,hf,hl,ho,⟨h1,h2⟩,hn,h,hh=>by
  rw[List.length_cons] at hn
  obtain⟨s1,s2⟩:=low_advance hp hc hf hw hd hlim h1 (by omega) hl
  have hx:=ho x (by simp)
  rcases List.mem_cons.1 hh with rfl|hh
  ·exact s2
  ·exact acc_low hp hw hd hlim r _ (adv_good ⟨hp,hc,hx⟩) (adv_fits (check_room h1)) s1 (fun y hy=>ho y (List.mem_cons_of_mem _ hy)) h2 (by rw[adv_height (check_room h1)];omega) h hh
noncomputable def workFrom (w:List Int)(l:List Hdr):List Int:=l.foldl (fun s h=>totFn s (workH h)) w
theorem workFrom_cons (w:List Int)(h:Hdr)(r:List Hdr):workFrom w (h::r)=workFrom (totFn w (workH h)) r:=rfl
theorem workFrom_append (w:List Int)(l m:List Hdr):workFrom w (l++m)=workFrom (workFrom w l) m:=by simp[workFrom,List.foldl_append]
theorem workFrom_ok {w:List Int}(hw:Ok4 w):∀l,Ok4 (workFrom w l):=by
 intro l
 induction l generalizing w with
 |nil=>exact hw
 |cons h r ih=>exact ih (ok4' _)
theorem workH_N {h:Hdr}(hh:HdrOk h):N4 (workH h)=workN (expandN h.2.2.2.2.1.toNat):=by
 unfold workH
 rw[workFn_N,(expand1 hh.2.2.2.2.1).2]
theorem work_small {t:Nat}(h:2^118≤t):workN t≤2^138:=by
 unfold workN
 have h0:t≠0:=fun e=>by rw[e] at h;exact absurd h (by decide)
 rw[if_neg h0]
 split
 ·decide
 ·have h1:Big/(t+1)≤Big/2^118:=Nat.div_le_div_left (by omega) (by decide)
  have h2:Big/2^118=2^138:=by decide+kernel
  omega
theorem work_sum :∀(l:List Hdr) (w:List Int),(∀h,h∈l→HdrOk h∧2^118≤expandN h.2.2.2.2.1.toNat)→N4 w+l.length*2^138<Big→∃k,N4 (workFrom w l)=N4 w+k∧l.length≤k∧k≤l.length*2^138
 |[],w,_,_=>⟨0,rfl,Nat.le_refl _,by simp⟩
 |h::r,w,hl,hn=>by
  obtain⟨h1,h2⟩:=hl h (by simp)
  have e1:=workH_N h1
  have e2:=work_small h2
  have e3:=workN_pos (expandN h.2.2.2.2.1.toNat)
  rw[←e1] at e2 e3
  rw[List.length_cons,Nat.succ_mul] at hn
  have ht:N4 (totFn w (workH h))=N4 w+N4 (workH h):=by rw[totFn_N,totN];omega
  obtain⟨k,k1,k2,k3⟩:=work_sum r (totFn w (workH h)) (fun x hx=>hl x (List.mem_cons_of_mem _ hx)) (by rw[ht];omega)
  refine⟨N4 (workH h)+k, ?_, ?_, ?_⟩
  ·rw[workFrom_cons,k1,ht];omega
  ·rw[List.length_cons];omega
  ·rw[List.length_cons,Nat.succ_mul];omega
theorem made_due {v:Int}(h:0≤v∧v≤255):3≤(madeParams v).2.2.1∧15≤dueN (madeParams v)∧2^254≤N4 (madeParams v).2.1:=by
 refine⟨by show 3≤3+v%5;omega, ?_, ?_⟩
 ·show 15≤(3+v%5).toNat*5
  omega
 ·show 2^254≤N4 (Wn 4 (Big/2-1))
  rw[made_limit];decide+kernel
theorem made_low {v:Int}(h:0≤v∧v≤255):LowC (madeParams v) (startFn (madeParams v)).1:=by
 rw[startFn,if_neg (by rw[made_valid h];simp)]
 show 2^250≤expandN (Int.toNat 545259519)*16^(Int.toNat (0/_))
 rw[Int.zero_ediv]
 decide+kernel
end Lc
