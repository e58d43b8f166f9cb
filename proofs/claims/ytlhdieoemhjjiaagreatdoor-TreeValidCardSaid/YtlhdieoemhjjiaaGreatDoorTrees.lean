/- Work and total work: the functions of the program and of the reference as plain functions, and the proofs of their conditions. -/
import Derived.Test.YtlhdieoemhjjiaaGreatDoorRulings
set_option linter.unusedVariables false
set_option linter.unusedSimpArgs false
set_option maxRecDepth 100000
namespace Lc
open Go
def WAdd.pre (a b:List Int):Prop:=Ok4 a∧Ok4 b
def WAdd.fn (a b:List Int):List Int×Bool:=(Wn 4 (N4 a+N4 b),decide (Big≤N4 a+N4 b))
def WAdd.inv4 (a b v4 v6:List Int)(c i:Int):Prop:=QAdd.inv4 a b v4 v6 c i
def WAdd.mes4 (a b v4 v6:List Int)(c i:Int):Nat:=(4-i).toNat
def WAdd.VC :Prop:=∀(x0:(List Int)) (x1:(List Int)),WAdd.pre x0 x1→(WAdd.inv4 x0 x1 (List.replicate 4 (0:Int)) (List.replicate 4 (0:Int)) (0:Int) (0:Int)∧∀(v4:(List Int)) (v6:(List Int)) (v7:Int) (v9:Int),WAdd.inv4 x0 x1 v4 v6 v7 v9→(((decide (v9<(4:Int)))=true→(0≤v9∧v9<4)∧(0≤v9∧v9<4)∧Add64.pre (x0.getD (Int.toNat v9) (0:Int)) (x1.getD (Int.toNat v9) (0:Int)) v7∧(let v22:Int:=(Add64.fn (x0.getD (Int.toNat v9) (0:Int)) (x1.getD (Int.toNat v9) (0:Int)) v7).1
 (let v23:Int:=(Add64.fn (x0.getD (Int.toNat v9) (0:Int)) (x1.getD (Int.toNat v9) (0:Int)) v7).2
 (0≤v9∧v9<4)∧(WAdd.inv4 x0 x1 v4 (v6.set (Int.toNat v9) v22) v23 (IntKind.i64.wrap (v9+(1:Int)))∧WAdd.mes4 x0 x1 v4 (v6.set (Int.toNat v9) v22) v23 (IntKind.i64.wrap (v9+(1:Int)))<WAdd.mes4 x0 x1 v4 v6 v7 v9))))∧((decide (v9<(4:Int)))=false→(Ret2 v6 (v7 !=(0:Int)) (WAdd.fn x0 x1)))))
theorem WAdd.vc :WAdd.VC:=by
 rintro a b ⟨⟨n,hn,rfl⟩,⟨m,hm,rfl⟩⟩
 simp only[WAdd.inv4,QAdd.inv4,WAdd.fn,N4_W4 hn,N4_W4 hm]
 refine⟨⟨by omega,by omega,by rw[Int.toNat_zero,mix_zero];rfl,by simp[carry,Nat.mod_one]⟩, ?_⟩
 rintro v4 v6 c i ⟨k1,k2,rfl,rfl⟩
 refine⟨fun hc=> ?_,fun hc=> ?_⟩
 ·have hc:i<4:=of_decide_eq_true hc
  have hi:0≤i∧i<4:=⟨k1,hc⟩
  have hcl:=carry_le n m i.toNat
  have hd:=add_dig n m i.toNat
  have hs:=carry_succ n m i.toNat
  rw[ok4_get hi,ok4_get hi,i64w (by omega) (by omega)]
  refine⟨hi,hi,⟨u64_dig _ _,u64_dig _ _,by omega,by omega⟩,hi,⟨by omega,by omega,mixZ_set hi ?_ Z4_len, ?_⟩,by simp only[WAdd.mes4];omega⟩
  ·simp only[Add64.fn];omega
  ·simp only[Add64.fn];rw[show(i+1).toNat=i.toNat+1 by omega];omega
 ·have hc:¬i<4:=of_decide_eq_false hc
  have e:i.toNat=4:=by omega
  rw[e,mix_all (by rw[Wn_len];omega) (by decide)]
  refine ret2.2 (Prod.ext rfl ?_)
  have hcv:carry n m 4=(n+m)/Big:=by
   unfold carry
   rw[show 2^(64*4)=Big from big_pow.symm,Nat.mod_eq_of_lt hn,Nat.mod_eq_of_lt hm]
  rw[hcv,Bool.eq_iff_iff]
  simp only[bne_iff_ne,ne_eq,decide_eq_true_eq]
  unfold Big at*
  omega
def WNot.pre (a:List Int):Prop:=Ok4 a
def WNot.fn (a:List Int):List Int:=Wn 4 (Big-1-N4 a)
def WNot.VC :Prop:=∀(x0:(List Int)),WNot.pre x0→(0≤(0:Int)∧(0:Int)<4)∧(0≤(1:Int)∧(1:Int)<4)∧(0≤(2:Int)∧(2:Int)<4)∧(0≤(3:Int)∧(3:Int)<4)∧(let v15:(List Int):=[(inot .u64 (x0.getD (Int.toNat (0:Int)) (0:Int))),(inot .u64 (x0.getD (Int.toNat (1:Int)) (0:Int))),(inot .u64 (x0.getD (Int.toNat (2:Int)) (0:Int))),(inot .u64 (x0.getD (Int.toNat (3:Int)) (0:Int)))]
 (Ret1 v15 (WNot.fn x0)))
theorem WNot.vc :WNot.VC:=by
 rintro a ⟨n,hn,rfl⟩
 refine⟨by omega,by omega,by omega,by omega, ?_⟩
 have hB:=hn
 unfold Big at hB
 simp only[WNot.fn,N4_W4 hn]
 have g:∀k,k<4→inot .u64 ((Wn 4 n).getD k 0)=((18446744073709551615-dig n k:Nat):Int):=fun k hk=>by rw[Wn_getD n hk,not64 (dig_lt _ _)]
 have g0:=g 0 (by omega)
 have g1:=g 1 (by omega)
 have g2:=g 2 (by omega)
 have g3:=g 3 (by omega)
 refine ret1.2 ?_
 show[inot .u64 ((Wn 4 n).getD 0 0),inot .u64 ((Wn 4 n).getD 1 0),inot .u64 ((Wn 4 n).getD 2 0),inot .u64 ((Wn 4 n).getD 3 0)]=_
 rw[g0,g1,g2,g3,W4_eq]
 simp only[dig0,dig1,dig2,dig3,Big,List.cons.injEq,and_true]
 omega
def workN (n:Nat):Nat:=if n=0 then Big-1 else if Big≤n+1 then 1 else Big/(n+1)
def totN (a b:Nat):Nat:=min (a+b) (Big-1)
def workFn (a:List Int):List Int:=Wn 4 (workN (N4 a))
def totFn (a b:List Int):List Int:=Wn 4 (totN (N4 a) (N4 b))
theorem zeroW4 :List.replicate 4 (0:Int)=Wn 4 0:=by rfl
theorem zero4_ok :Ok4 (List.replicate 4 (0:Int)):=by rw[zeroW4];exact ok4' _
theorem zero4_N :N4 (List.replicate 4 (0:Int))=0:=by rw[zeroW4];exact N4_W4 (by decide)
theorem one4_N :N4 (Wn 4 (Int.toNat 1))=1:=N4_W4 (by decide)
theorem one64 :W64 (1:Int):=⟨by omega,by omega⟩
theorem totAdd (n m:Nat):(Big≤n+m→Wn 4 (Big-1-0)=Wn 4 (totN n m))∧(¬Big≤n+m→Wn 4 (n+m)=Wn 4 (totN n m)):=by
 constructor
 ·intro h;congr 1;unfold totN;omega
 ·intro h;congr 1;unfold totN;omega
theorem work_div {n:Nat}(h0:n≠0)(hB:¬Big≤n+1):(divFn (Wn 4 (Int.toNat 1)) (List.replicate 4 (0:Int)) (Wn 4 (n+1))).1=Wn 4 (workN n):=by
 rw[divFn,one4_N,zero4_N,N4_W4 (by omega),if_neg (by omega),Nat.one_mul,Nat.add_zero]
 unfold workN
 rw[if_neg h0,if_neg hB]
def TWork.pre (a:List Int):Prop:=Ok4 a
def TWork.fn (a:List Int):List Int:=workFn a
def TWork.VC :Prop:=∀(x0:(List Int)),TWork.pre x0→(let v10:Bool:=(Ty.beq (.arr 4 (.int .u64)) x0 (List.replicate 4 (0:Int)))
 ((v10=true→WNot.pre (List.replicate 4 (0:Int))∧(Ret1 (WNot.fn (List.replicate 4 (0:Int))) (TWork.fn x0)))∧(v10=false→WFrom.pre (1:Int)∧WAdd.pre x0 (WFrom.fn (1:Int))∧(((WAdd.fn x0 (WFrom.fn (1:Int))).2=true→WFrom.pre (1:Int)∧(Ret1 (WFrom.fn (1:Int)) (TWork.fn x0)))∧((WAdd.fn x0 (WFrom.fn (1:Int))).2=false→WFrom.pre (1:Int)∧WDiv.pre (WFrom.fn (1:Int)) (List.replicate 4 (0:Int)) ((WAdd.fn x0 (WFrom.fn (1:Int))).1)∧(let v26:(List Int):=(WDiv.fn (WFrom.fn (1:Int)) (List.replicate 4 (0:Int)) ((WAdd.fn x0 (WFrom.fn (1:Int))).1)).1
 (let v27:(List Int):=(WDiv.fn (WFrom.fn (1:Int)) (List.replicate 4 (0:Int)) ((WAdd.fn x0 (WFrom.fn (1:Int))).1)).2.1
 (let v28:Bool:=(WDiv.fn (WFrom.fn (1:Int)) (List.replicate 4 (0:Int)) ((WAdd.fn x0 (WFrom.fn (1:Int))).1)).2.2
 (Ret1 v26 (TWork.fn x0))))))))))
theorem TWork.vc :TWork.VC:=by
 rintro a ⟨n,hn,rfl⟩
 simp only[zeq (ok4 hn),TWork.fn,WNot.fn,WFrom.fn,WAdd.fn,WDiv.fn,workFn,N4_W4 hn,zero4_N,one4_N,ret1]
 refine⟨fun hz=>⟨zero4_ok, ?_⟩,fun hz=>⟨one64,⟨ok4 hn,ok4' _⟩,fun hc=>⟨one64, ?_⟩,fun hc=>⟨one64,⟨ok4' _,zero4_ok,ok4' _⟩, ?_⟩⟩⟩
 ·have hz:n=0:=of_decide_eq_true hz
  subst hz;rfl
 ·have hz:n≠0:=of_decide_eq_false hz
  have hc:Big≤n+1:=of_decide_eq_true hc
  unfold workN
  rw[if_neg hz,if_pos hc];rfl
 ·exact work_div (of_decide_eq_false hz) (of_decide_eq_false hc)
def TTotal.pre (a b:List Int):Prop:=Ok4 a∧Ok4 b
def TTotal.fn (a b:List Int):List Int:=totFn a b
def TTotal.VC :Prop:=∀(x0:(List Int)) (x1:(List Int)),TTotal.pre x0 x1→WAdd.pre x0 x1∧(((WAdd.fn x0 x1).2=true→WNot.pre (List.replicate 4 (0:Int))∧(Ret1 (WNot.fn (List.replicate 4 (0:Int))) (TTotal.fn x0 x1)))∧((WAdd.fn x0 x1).2=false→(Ret1 ((WAdd.fn x0 x1).1) (TTotal.fn x0 x1))))
theorem TTotal.vc :TTotal.VC:=by
 intro a b hp
 simp only[WAdd.fn,WNot.fn,TTotal.fn,totFn,zero4_N,ret1]
 exact⟨hp,fun hc=>⟨zero4_ok,(totAdd _ _).1 (of_decide_eq_true hc)⟩,fun hc=>(totAdd _ _).2 (of_decide_eq_false hc)⟩
def QWork.pre (a:List Int):Prop:=Ok4 a
def QWork.fn (a:List Int):List Int:=workFn a
def QWork.VC :Prop:=∀(x0:(List Int)),QWork.pre x0→QZero.pre x0∧(((QZero.fn x0)=true→QNot.pre (List.replicate 4 (0:Int))∧(Ret1 (QNot.fn (List.replicate 4 (0:Int))) (QWork.fn x0)))∧((QZero.fn x0)=false→QFromUint.pre (1:Int)∧QAdd.pre x0 (QFromUint.fn (1:Int))∧(((QAdd.fn x0 (QFromUint.fn (1:Int))).2=true→QFromUint.pre (1:Int)∧(Ret1 (QFromUint.fn (1:Int)) (QWork.fn x0)))∧((QAdd.fn x0 (QFromUint.fn (1:Int))).2=false→QFromUint.pre (1:Int)∧QDiv.pre (QFromUint.fn (1:Int)) (List.replicate 4 (0:Int)) ((QAdd.fn x0 (QFromUint.fn (1:Int))).1)∧(let v25:(List Int):=(QDiv.fn (QFromUint.fn (1:Int)) (List.replicate 4 (0:Int)) ((QAdd.fn x0 (QFromUint.fn (1:Int))).1)).1
 (let v26:(List Int):=(QDiv.fn (QFromUint.fn (1:Int)) (List.replicate 4 (0:Int)) ((QAdd.fn x0 (QFromUint.fn (1:Int))).1)).2.1
 (let v27:Bool:=(QDiv.fn (QFromUint.fn (1:Int)) (List.replicate 4 (0:Int)) ((QAdd.fn x0 (QFromUint.fn (1:Int))).1)).2.2
 (Ret1 v25 (QWork.fn x0)))))))))
theorem QWork.vc :QWork.VC:=by
 rintro a ⟨n,hn,rfl⟩
 simp only[QZero.fn,QWork.fn,QNot.fn,QFromUint.fn,QAdd.fn,QDiv.fn,workFn,N4_W4 hn,zero4_N,one4_N,ret1]
 refine⟨ok4 hn,fun hz=>⟨zero4_ok, ?_⟩,fun hz=>⟨one64,⟨ok4 hn,ok4' _⟩,fun hc=>⟨one64, ?_⟩,fun hc=>⟨one64,⟨ok4' _,zero4_ok,ok4' _⟩, ?_⟩⟩⟩
 ·have hz:n=0:=of_decide_eq_true hz
  subst hz;rfl
 ·have hz:n≠0:=of_decide_eq_false hz
  have hc:Big≤n+1:=of_decide_eq_true hc
  unfold workN
  rw[if_neg hz,if_pos hc];rfl
 ·exact work_div (of_decide_eq_false hz) (of_decide_eq_false hc)
def QTotal.pre (a b:List Int):Prop:=Ok4 a∧Ok4 b
def QTotal.fn (a b:List Int):List Int:=totFn a b
def QTotal.VC :Prop:=∀(x0:(List Int)) (x1:(List Int)),QTotal.pre x0 x1→QAdd.pre x0 x1∧(((QAdd.fn x0 x1).2=true→QNot.pre (List.replicate 4 (0:Int))∧(Ret1 (QNot.fn (List.replicate 4 (0:Int))) (QTotal.fn x0 x1)))∧((QAdd.fn x0 x1).2=false→(Ret1 ((QAdd.fn x0 x1).1) (QTotal.fn x0 x1))))
theorem QTotal.vc :QTotal.VC:=by
 intro a b hp
 simp only[QAdd.fn,QNot.fn,QTotal.fn,totFn,zero4_N,ret1]
 exact⟨hp,fun hc=>⟨zero4_ok,(totAdd _ _).1 (of_decide_eq_true hc)⟩,fun hc=>(totAdd _ _).2 (of_decide_eq_false hc)⟩
end Lc
set_option maxRecDepth 100000
namespace Lc
open Go
abbrev Nd :Type:=Hdr×List Int×Int×Int×List Int×Unit
abbrev Tre :Type:=List Nd×Int×Unit
abbrev zn :Nd:=(hz,List.replicate 32 0,0,0,List.replicate 4 0,())
abbrev zcx :Cx:=(0,List.replicate 32 0,0,0,[],())
abbrev zt :Tre:=([],0,())
abbrev w4beq :List Int→List Int→Bool:=Ty.beq (.arr 4 (.int .u64))
theorem w4beq_iff (a b:List Int):w4beq a b=true↔a=b:=beq_iff (.arr 4 (.int .u64)) a b
theorem b32_eq (a b:List Int):b32 a b=true↔a=b:=beq_iff (.arr 32 (.int .u8)) a b
abbrev nbeq :Nd→Nd→Bool:=Ty.beq (.pair (.pair (.int .u32) (.pair (.arr 32 (.int .u8)) (.pair (.arr 32 (.int .u8)) (.pair (.int .u32) (.pair (.int .u32) (.pair (.int .u32) (.unit))))))) (.pair (.arr 32 (.int .u8)) (.pair (.int .i64) (.pair (.int .i64) (.pair (.arr 4 (.int .u64)) (.unit))))))
theorem nbeq_iff (a b:Nd):nbeq a b=true↔a=b:=beq_iff (.pair (.pair (.int .u32) (.pair (.arr 32 (.int .u8)) (.pair (.arr 32 (.int .u8)) (.pair (.int .u32) (.pair (.int .u32) (.pair (.int .u32) (.unit))))))) (.pair (.arr 32 (.int .u8)) (.pair (.int .i64) (.pair (.int .i64) (.pair (.arr 4 (.int .u64)) (.unit)))))) a b
theorem drop_at {α:Type}(d:α){l:List α}{i:Int}(h0:0≤i)(h1:i<l.length):l.drop i.toNat=l.getD i.toNat d::l.drop (i+1).toNat:=by
 rw[show(i+1).toNat=i.toNat+1 by omega,List.drop_eq_getElem_cons (show i.toNat<l.length by omega)]
 simp[List.getD_eq_getElem?_getD,show i.toNat<l.length by omega]
theorem get_at {α:Type}(d:α){P:α→Prop}{l:List α}(hl:∀x,x∈l→P x){i:Nat}(h1:i<l.length):P (l.getD i d):=by
 rw[List.getD_eq_getElem?_getD,List.getElem?_eq_getElem h1,Option.getD_some]
 exact hl _ (List.getElem_mem _)
theorem ext_at {α:Type}(d:α){l m:List α}(hl:l.length=m.length)(h:∀i,i<l.length→l.getD i d=m.getD i d):l=m:=by
 refine List.ext_getElem hl (fun i h1 h2=> ?_)
 have:=h i h1
 rwa [List.getD_eq_getElem?_getD,List.getD_eq_getElem?_getD,List.getElem?_eq_getElem h1,List.getElem?_eq_getElem h2,Option.getD_some,Option.getD_some] at this
def NdOk (n:Nd):Prop:=HdrOk n.1∧HOk n.2.1∧Ok4 n.2.2.2.2.1
def TreOk (t:Tre):Prop:=(∀n,n∈t.1→NdOk n)∧t.1.length≤1000000000
theorem TreOk.get {t:Tre}(h:TreOk t){i:Nat}(hi:i<t.1.length):NdOk (t.1.getD i zn):=get_at zn h.1 hi
def NLess.pre (a b:List Int):Prop:=Ok4 a∧Ok4 b
def NLess.fn (a b:List Int):Bool:=decide (N4 a<N4 b)
def NLess.inv2 (a b:List Int)(i:Int):Prop:=WCmp.inv2 a b i
def NLess.mes2 (a b:List Int)(i:Int):Nat:=(i+1).toNat
def NLess.VC :Prop:=∀(x0:(List Int)) (x1:(List Int)),NLess.pre x0 x1→(NLess.inv2 x0 x1 (3:Int)∧∀(v5:Int),NLess.inv2 x0 x1 v5→(((decide (v5≥(0:Int)))=true→(0≤v5∧v5<4)∧(0≤v5∧v5<4)∧(let v16:Bool:=((x0.getD (Int.toNat v5) (0:Int)) !=(x1.getD (Int.toNat v5) (0:Int)))
 ((v16=true→(0≤v5∧v5<4)∧(0≤v5∧v5<4)∧(let v23:Bool:=(decide ((x0.getD (Int.toNat v5) (0:Int))<(x1.getD (Int.toNat v5) (0:Int))))
 (Ret1 v23 (NLess.fn x0 x1))))∧(v16=false→(NLess.inv2 x0 x1 (IntKind.i64.wrap (v5-(1:Int)))∧NLess.mes2 x0 x1 (IntKind.i64.wrap (v5-(1:Int)))<NLess.mes2 x0 x1 v5)))))∧((decide (v5≥(0:Int)))=false→(Ret1 false (NLess.fn x0 x1)))))
theorem NLess.vc :NLess.VC:=by
 rintro a b ⟨⟨n,hn,rfl⟩,⟨m,hm,rfl⟩⟩
 simp only[NLess.inv2,WCmp.inv2,NLess.fn,N4_W4 hn,N4_W4 hm]
 refine⟨⟨by omega,by omega, ?_⟩, ?_⟩
 ·unfold Big at hn hm
  show n/2^256=m/2^256
  omega
 rintro i ⟨k1,k2,k3⟩
 refine⟨fun hc=> ?_,fun hc=> ?_⟩
 ·have hc:0≤i:=of_decide_eq_true hc
  have hi:0≤i∧i<4:=⟨hc,by omega⟩
  rw[ok4_get hi,ok4_get hi]
  have e:(i+1).toNat=i.toNat+1:=by omega
  rw[e] at k3
  have d1:=div_split n i.toNat
  have d2:=div_split m i.toNat
  rw[k3] at d1
  refine⟨hi,hi,fun h=>⟨hi,hi, ?_⟩,fun h=> ?_⟩
  ·have h:((dig n i.toNat:Nat):Int)≠((dig m i.toNat:Nat):Int):=by simpa using h
   rw[ret1,decide_eq_decide]
   have hle:=fun hle:n≤m=>Nat.div_le_div_right (c:=2^(64*i.toNat)) hle
   have hge:=fun hle:m≤n=>Nat.div_le_div_right (c:=2^(64*i.toNat)) hle
   constructor
   ·intro hlt
    refine Nat.lt_of_not_le (fun hh=> ?_)
    have:=hge hh
    omega
   ·intro hlt
    have:=hle (by omega)
    omega
  ·have h:((dig n i.toNat:Nat):Int)=((dig m i.toNat:Nat):Int):=by simpa using h
   rw[i64w (by omega) (by omega)]
   refine⟨⟨by omega,by omega, ?_⟩,by simp only[NLess.mes2];omega⟩
   rw[show i-1+1=i by omega]
   omega
 ·have hc:¬0≤i:=of_decide_eq_false hc
  have:(i+1).toNat=0:=by omega
  rw[this] at k3
  simp only[Nat.mul_zero,Nat.pow_zero,Nat.div_one] at k3
  rw[ret1,k3];simp
theorem cmp_pos (n m:Nat):decide (cmpN n m>0)=decide (m<n):=by
 rw[decide_eq_decide]
 unfold cmpN
 split
 ·omega
 ·split<;>omega
def bitsWork (x:Int):List Int:=workFn (expandFn x).1
theorem bitsWork_ok (x:Int):Ok4 (bitsWork x):=ok4' _
theorem expand_ok (x:Int):Ok4 (expandFn x).1:=by unfold expandFn;split<;>exact ok4' _
def NWork.pre (x:Int):Prop:=U32 x
def NWork.fn (x:Int):List Int:=bitsWork x
def NWork.VC :Prop:=∀(x0:Int),NWork.pre x0→TExpand.pre x0∧TWork.pre ((TExpand.fn x0).1)∧(Ret1 (TWork.fn ((TExpand.fn x0).1)) (NWork.fn x0))
theorem NWork.vc :NWork.VC:=fun x hx=>⟨hx,expand_ok x,ret1.2 rfl⟩
def YWork.pre (h:Hdr):Prop:=HdrOk h
def YWork.fn (h:Hdr):List Int:=bitsWork h.2.2.2.2.1
def YWork.VC :Prop:=∀(x0:Hdr),YWork.pre x0→QExpand.pre x0.2.2.2.2.1∧QWork.pre ((QExpand.fn x0.2.2.2.2.1).1)∧(Ret1 (QWork.fn ((QExpand.fn x0.2.2.2.2.1).1)) (YWork.fn x0))
theorem YWork.vc :YWork.VC:=fun h hh=>⟨hh.2.2.2.2.1,expand_ok _,ret1.2 rfl⟩
noncomputable def childFn (n:Nd)(k:Int)(h:Hdr):Nd:=(h,hashH h,k,IntKind.i64.wrap (n.2.2.2.1+1),totFn n.2.2.2.2.1 (bitsWork h.2.2.2.2.1),())
theorem child_ok {n:Nd}{k:Int}{h:Hdr}(hh:HdrOk h):NdOk (childFn n k h):=⟨hh,hashH_ok _,ok4' _⟩
def NChild.pre (n:Nd)(k:Int)(h:Hdr):Prop:=NdOk n∧HdrOk h
noncomputable def NChild.fn (n:Nd)(k:Int)(h:Hdr):Nd:=childFn n k h
def NChild.VC :Prop:=∀(x0:Nd) (x1:Int) (x2:Hdr),NChild.pre x0 x1 x2→(let v6h:Nd:=zn
 BHash.pre x2∧NWork.pre x2.2.2.2.2.1∧TTotal.pre x0.2.2.2.2.1 (NWork.fn x2.2.2.2.2.1)∧(let v20:Nd:=(x2,((BHash.fn x2),(x1,((IntKind.i64.wrap (x0.2.2.2.1+(1:Int))),((TTotal.fn x0.2.2.2.2.1 (NWork.fn x2.2.2.2.2.1)),())))))
 (Ret1 v20 (NChild.fn x0 x1 x2))))
theorem NChild.vc :NChild.VC:=fun n k h hp=>⟨hp.2,hp.2.2.2.2.2.1,⟨hp.1.2.2,bitsWork_ok _⟩,ret1.2 rfl⟩
noncomputable def startN (p:Par):Nd:=(p.1,hashH p.1,-1,0,bitsWork p.1.2.2.2.2.1,())
noncomputable def startT (p:Par):Tre×Int:=if validFn p=false then(zt,6) else(([startN p],0,()),0)
theorem startN_ok {p:Par}(hp:PGood p):NdOk (startN p):=⟨hp.2.1,hashH_ok _,ok4' _⟩
theorem startT_ok {p:Par}(hp:PGood p):TreOk (startT p).1:=by
 unfold startT
 split
 ·exact⟨fun n hn=>(by cases hn),by simp⟩
 ·exact⟨fun n hn=>by rw[List.mem_singleton.1 hn];exact startN_ok hp,by simp⟩
def NStart.pre (p:Par):Prop:=PGood p
noncomputable def NStart.fn (p:Par):Tre×Int:=startT p
def NStart.VC :Prop:=∀(x0:Par),NStart.pre x0→RValid.pre x0∧(((!(RValid.fn x0))=true→(Ret2 zt (6:Int) (NStart.fn x0)))∧((!(RValid.fn x0))=false→(let v4h:Hdr:=hz
 BHash.pre x0.1∧NWork.pre x0.1.2.2.2.2.1∧(let v18:Nd:=(x0.1,((BHash.fn x0.1),((-1:Int),((0:Int),((NWork.fn x0.1.2.2.2.2.1),())))))
 (let v5h:Nd:=zn
 (Ret2 ([v18],((0:Int),())) (0:Int) (NStart.fn x0)))))))
theorem NStart.vc :NStart.VC:=by
 intro p hp
 simp only[RValid.fn,NStart.fn,ret2,BHash.fn,NWork.fn]
 refine⟨hp.1,fun h=> ?_,fun h=>⟨hp.2.1,hp.2.1.2.2.2.2.1, ?_⟩⟩
 ·rw[startT,if_pos (by simpa using h)]
 ·rw[startT,if_neg (by simpa using h)];rfl
def YStart.pre (p:Par):Prop:=PGood p
noncomputable def YStart.fn (p:Par):Tre×Int:=startT p
def YStart.VC :Prop:=∀(x0:Par),YStart.pre x0→QValid.pre x0∧(((!(QValid.fn x0))=true→(Ret2 zt (6:Int) (YStart.fn x0)))∧((!(QValid.fn x0))=false→RHdr.pre x0.1∧YWork.pre x0.1∧(let v16:Nd:=(x0.1,((RHdr.fn x0.1),((-1:Int),((0:Int),((YWork.fn x0.1),())))))
 (Ret2 ([v16],((0:Int),())) (0:Int) (YStart.fn x0)))))
theorem YStart.vc :YStart.VC:=by
 intro p hp
 simp only[QValid.fn,YStart.fn,ret2,RHdr.fn,YWork.fn]
 refine⟨hp.1,fun h=> ?_,fun h=>⟨hp.2.1,hp.2.1, ?_⟩⟩
 ·rw[startT,if_pos (by simpa using h)]
 ·rw[startT,if_neg (by simpa using h)];rfl
def findGo (x:List Int):List Nd→Int→Int
 |[],_=> -1
 |n::r,i=>if n.2.1=x then i else findGo x r (i+1)
def findFn (l:List Nd)(x:List Int):Int:=findGo x l 0
def findI (l:List Nd)(x:List Int)(i:Int):Prop:=0≤i∧i≤l.length∧findFn l x=findGo x (l.drop i.toNat) i
theorem find0 (l:List Nd)(x:List Int):findI l x 0:=⟨by omega,by omega,by simp[findFn]⟩
theorem find_step {l:List Nd}{x:List Int}{i:Int}(h:findI l x i)(hc:i<l.length)(hl:l.length≤1000000000):
 (b32 (l.getD i.toNat zn).2.1 x=true→i=findFn l x)∧(b32 (l.getD i.toNat zn).2.1 x=false→findI l x (IntKind.i64.wrap (i+1))):=by
 obtain⟨k1,k2,k3⟩:=h
 rw[drop_at zn k1 hc,findGo] at k3
 rw[i64w (by omega) (by omega)]
 refine⟨fun hb=> ?_,fun hb=>⟨by omega,by omega, ?_⟩⟩
 ·rw[k3,if_pos ((b32_eq _ _).1 hb)]
 ·rw[k3,if_neg (fun e=>by rw[(b32_eq _ _).2 e] at hb;cases hb)]
theorem find_end {l:List Nd}{x:List Int}{i:Int}(h:findI l x i)(hc:¬i<l.length): -1=findFn l x:=by
 obtain⟨k1,k2,k3⟩:=h
 rw[k3,List.drop_eq_nil_of_le (by omega),findGo]
def NHit.pre (n:Nd)(x:List Int):Prop:=True
def NHit.fn (n:Nd)(x:List Int):Bool:=b32 n.2.1 x
def NHit.VC :Prop:=∀(x0:Nd) (x1:(List Int)),NHit.pre x0 x1→(Ret1 (b32 x0.2.1 x1) (NHit.fn x0 x1))
theorem NHit.vc :NHit.VC:=fun n x _=>ret1.2 rfl
def NIndex.pre (l:List Nd)(x:List Int):Prop:=l.length≤1000000000
def NIndex.fn (l:List Nd)(x:List Int):Int:=findFn l x
def NIndex.inv2 (l:List Nd)(x:List Int)(i:Int):Prop:=findI l x i
def NIndex.mes2 (l:List Nd)(x:List Int)(i:Int):Nat:=(l.length-i).toNat
def NIndex.VC :Prop:=∀(x0:(List Nd)) (x1:(List Int)),NIndex.pre x0 x1→(NIndex.inv2 x0 x1 (0:Int)∧∀(v8:Int),NIndex.inv2 x0 x1 v8→(((decide (v8<(x0.length:Int)))=true→(0≤v8∧v8<(x0.length:Int))∧(let v15:Nd:=(x0.getD (Int.toNat v8) zn)
 NHit.pre v15 x1∧(((NHit.fn v15 x1)=true→(Ret1 v8 (NIndex.fn x0 x1)))∧((NHit.fn v15 x1)=false→(NIndex.inv2 x0 x1 (IntKind.i64.wrap (v8+(1:Int)))∧NIndex.mes2 x0 x1 (IntKind.i64.wrap (v8+(1:Int)))<NIndex.mes2 x0 x1 v8)))))∧((decide (v8<(x0.length:Int)))=false→(Ret1 (-1:Int) (NIndex.fn x0 x1)))))
theorem NIndex.vc :NIndex.VC:=by
 intro l x hl
 have hl:l.length≤1000000000:=hl
 refine⟨find0 l x,fun i hi=>⟨fun hc=> ?_,fun hc=> ?_⟩⟩
 ·have hc:i<l.length:=of_decide_eq_true hc
  obtain⟨s1,s2⟩:=find_step hi hc hl
  obtain⟨k1,k2,k3⟩:=hi
  refine⟨⟨k1,hc⟩,trivial,fun hb=>ret1.2 (s1 hb),fun hb=>⟨s2 hb, ?_⟩⟩
  simp only[NIndex.mes2];rw[i64w (by omega) (by omega)];omega
 ·exact ret1.2 (find_end hi (of_decide_eq_false hc))
def NFind.pre (t:Tre)(x:List Int):Prop:=t.1.length≤1000000000
def NFind.fn (t:Tre)(x:List Int):Int:=findFn t.1 x
def NFind.VC :Prop:=∀(x0:Tre) (x1:(List Int)),NFind.pre x0 x1→NIndex.pre x0.1 x1∧(Ret1 (NIndex.fn x0.1 x1) (NFind.fn x0 x1))
theorem NFind.vc :NFind.VC:=fun t x h=>⟨h,ret1.2 rfl⟩
def YFind.pre (t:Tre)(x:List Int):Prop:=t.1.length≤1000000000
def YFind.fn (t:Tre)(x:List Int):Int:=findFn t.1 x
def YFind.inv2 (t:Tre)(x:List Int)(i:Int):Prop:=findI t.1 x i
def YFind.mes2 (t:Tre)(x:List Int)(i:Int):Nat:=(t.1.length-i).toNat
def YFind.VC :Prop:=∀(x0:Tre) (x1:(List Int)),YFind.pre x0 x1→(YFind.inv2 x0 x1 (0:Int)∧∀(v9:Int),YFind.inv2 x0 x1 v9→(((decide (v9<(x0.1.length:Int)))=true→(0≤v9∧v9<(x0.1.length:Int))∧(let v17:(List Int):=(x0.1.getD (Int.toNat v9) zn).2.1
 (((b32 v17 x1)=true→(Ret1 v9 (YFind.fn x0 x1)))∧((b32 v17 x1)=false→(YFind.inv2 x0 x1 (IntKind.i64.wrap (v9+(1:Int)))∧YFind.mes2 x0 x1 (IntKind.i64.wrap (v9+(1:Int)))<YFind.mes2 x0 x1 v9)))))∧((decide (v9<(x0.1.length:Int)))=false→(Ret1 (-1:Int) (YFind.fn x0 x1)))))
theorem YFind.vc :YFind.VC:=by
 intro t x hl
 have hl:t.1.length≤1000000000:=hl
 refine⟨find0 t.1 x,fun i hi=>⟨fun hc=> ?_,fun hc=> ?_⟩⟩
 ·have hc:i<t.1.length:=of_decide_eq_true hc
  obtain⟨s1,s2⟩:=find_step hi hc hl
  obtain⟨k1,k2,k3⟩:=hi
  refine⟨⟨k1,hc⟩,fun hb=>ret1.2 (s1 hb),fun hb=>⟨s2 hb, ?_⟩⟩
  simp only[YFind.mes2];rw[i64w (by omega) (by omega)];omega
 ·exact ret1.2 (find_end hi (of_decide_eq_false hc))
theorem findGo_spec (x:List Int):∀(l:List Nd) (i:Int),0≤i→(findGo x l i= -1∧∀n,n∈l→n.2.1≠x)∨
 ∃j:Nat,j<l.length∧findGo x l i=i+j∧(l.getD j zn).2.1=x∧∀m,m<j→(l.getD m zn).2.1≠x
 |[],i,_=> .inl ⟨rfl,fun n hn=>(by cases hn)⟩
 |n::r,i,h=>by
  unfold findGo
  by_cases e:n.2.1=x
  ·rw[if_pos e]
   exact .inr ⟨0,by simp,by simp,by simpa using e,fun m hm=>by omega⟩
  ·rw[if_neg e]
   rcases findGo_spec x r (i+1) (by omega) with⟨h1,h2⟩|⟨j,h1,h2,h3,h4⟩
   ·refine .inl ⟨h1,fun m hm=> ?_⟩
    rcases List.mem_cons.1 hm with rfl|hm
    ·exact e
    ·exact h2 m hm
   ·refine .inr ⟨j+1,by simpa using h1,by rw[h2];omega,by simpa using h3,fun m hm=> ?_⟩
    cases m with
    |zero=>simpa using e
    |succ m=>simpa using h4 m (by omega)
theorem find_spec (l:List Nd)(x:List Int):(findFn l x= -1∧∀n,n∈l→n.2.1≠x)∨∃j:Nat,j<l.length∧findFn l x=j∧(l.getD j zn).2.1=x∧∀m,m<j→(l.getD m zn).2.1≠x:=by
 rcases findGo_spec x l 0 (by omega) with h|⟨j,h1,h2,h3⟩
 ·exact .inl h
 ·exact .inr ⟨j,h1,by unfold findFn;rw[h2];omega,h3⟩
theorem find_self {l:List Nd}{i:Nat}(hi:i<l.length)(h:∀m,m<i→(l.getD m zn).2.1≠(l.getD i zn).2.1):findFn l (l.getD i zn).2.1=i:=by
 rcases find_spec l (l.getD i zn).2.1 with⟨_,h2⟩|⟨j,h1,h2,h3,h4⟩
 ·exact absurd rfl (get_at zn (P:=fun n=>n.2.1≠(l.getD i zn).2.1) h2 hi)
 ·rw[h2]
  rcases Nat.lt_trichotomy j i with hlt|rfl|hgt
  ·exact absurd h3 (h j hlt)
  ·rfl
  ·exact absurd rfl (h4 i hgt)
theorem find_not {l:List Nd}{i m:Nat}(hm:m<i)(e:(l.getD m zn).2.1=(l.getD i zn).2.1)(hi:i<l.length):findFn l (l.getD i zn).2.1≠i:=by
 intro hf
 rcases find_spec l (l.getD i zn).2.1 with⟨h1,h2⟩|⟨j,h1,h2,h3,h4⟩
 ·omega
 ·have:j=i:=by omega
  subst this
  exact h4 m hm e
def bestUp (l:List Nd):Nat→Nat
 |0=>0
 |i+1=>if N4 (l.getD (bestUp l i) zn).2.2.2.2.1<N4 (l.getD i zn).2.2.2.2.1 then i else bestUp l i
theorem bestUp_le (l:List Nd):∀i,bestUp l i≤i
 |0=>Nat.le_refl _
 |i+1=>by have:=bestUp_le l i;unfold bestUp;split<;>omega
theorem bestUp_lt (l:List Nd):∀i,bestUp l (i+1)≤i:=by
 intro i;have:=bestUp_le l i;unfold bestUp;split<;>omega
theorem bestUp_one (l:List Nd):bestUp l 1=0:=Nat.le_zero.1 (bestUp_lt l 0)
def firstFn (l:List Nd):Int:=(bestUp l l.length:Nat)
def YFirst.pre (l:List Nd):Prop:=(∀n,n∈l→NdOk n)∧l.length≤1000000000
def YFirst.fn (l:List Nd):Int:=firstFn l
def YFirst.inv3 (l:List Nd)(b i:Int):Prop:=0≤i∧i≤l.length∧b=(bestUp l i.toNat:Nat)
def YFirst.mes3 (l:List Nd)(b i:Int):Nat:=(l.length-i).toNat
def YFirst.VC :Prop:=∀(x0:(List Nd)),YFirst.pre x0→(YFirst.inv3 x0 (0:Int) (0:Int)∧∀(v3:Int) (v7:Int),YFirst.inv3 x0 v3 v7→(((decide (v7<(x0.length:Int)))=true→(0≤v7∧v7<(x0.length:Int))∧(let v14:(List Int):=(x0.getD (Int.toNat v7) zn).2.2.2.2.1
 (0≤v3∧v3<(x0.length:Int))∧(let v19:(List Int):=(x0.getD (Int.toNat v3) zn).2.2.2.2.1
 QCmp.pre v14 v19∧(((decide ((QCmp.fn v14 v19)>(0:Int)))=true→(YFirst.inv3 x0 v7 (IntKind.i64.wrap (v7+(1:Int)))∧YFirst.mes3 x0 v7 (IntKind.i64.wrap (v7+(1:Int)))<YFirst.mes3 x0 v3 v7))∧((decide ((QCmp.fn v14 v19)>(0:Int)))=false→(YFirst.inv3 x0 v3 (IntKind.i64.wrap (v7+(1:Int)))∧YFirst.mes3 x0 v3 (IntKind.i64.wrap (v7+(1:Int)))<YFirst.mes3 x0 v3 v7))))))∧((decide (v7<(x0.length:Int)))=false→(Ret1 v3 (YFirst.fn x0)))))
theorem YFirst.vc :YFirst.VC:=by
 rintro l ⟨hl,hlen⟩
 refine⟨⟨by omega,by omega,rfl⟩, ?_⟩
 rintro b i ⟨k1,k2,rfl⟩
 have hle:=bestUp_le l i.toNat
 refine⟨fun hc=> ?_,fun hc=> ?_⟩
 ·have hc:i<l.length:=of_decide_eq_true hc
  have hs:bestUp l (i.toNat+1)=if N4 (l.getD (bestUp l i.toNat) zn).2.2.2.2.1<N4 (l.getD i.toNat zn).2.2.2.2.1 then i.toNat else bestUp l i.toNat:=rfl
  have e1:(i+1).toNat=i.toNat+1:=by omega
  have hi:=(get_at zn hl (i:=i.toNat) (by omega)).2.2
  have hb:=(get_at zn hl (i:=bestUp l i.toNat) (by omega)).2.2
  refine⟨⟨k1,hc⟩,⟨by omega,by omega⟩,⟨hi,by rw[Int.toNat_natCast];exact hb⟩,fun hq=> ?_,fun hq=> ?_⟩
  ·rw[QCmp.fn,cmp_pos,Int.toNat_natCast] at hq
   rw[i64w (by omega) (by omega)]
   refine⟨⟨by omega,by omega, ?_⟩,by simp only[YFirst.mes3];omega⟩
   rw[e1,hs,if_pos (of_decide_eq_true hq)];omega
  ·rw[QCmp.fn,cmp_pos,Int.toNat_natCast] at hq
   rw[i64w (by omega) (by omega)]
   refine⟨⟨by omega,by omega, ?_⟩,by simp only[YFirst.mes3];omega⟩
   rw[e1,hs,if_neg (of_decide_eq_false hq)]
 ·have hc:¬i<l.length:=of_decide_eq_false hc
  rw[ret1,YFirst.fn,firstFn,show i.toNat=l.length by omega]
noncomputable def eqT (a b:Tre):Bool:= @decide (a=b) (Classical.propDecidable _)
theorem eqT_iff {a b:Tre}:eqT a b=true↔a=b:=by unfold eqT;exact @decide_eq_true_iff _ (Classical.propDecidable _)
theorem eqT_ne {a b:Tre}(h:a≠b):eqT a b=false:=by
 cases hq:eqT a b with
 |false=>rfl
 |true=>exact absurd (eqT_iff.1 hq) h
def YSame.pre (a b:Tre):Prop:=a.1.length≤1000000000
noncomputable def YSame.fn (a b:Tre):Bool:=eqT a b
def YSame.inv4 (a b:Tre)(i:Int):Prop:=0≤i∧i≤a.1.length∧a.2.1=b.2.1∧a.1.length=b.1.length∧∀j:Nat,j<i.toNat→a.1.getD j zn=b.1.getD j zn
def YSame.mes4 (a b:Tre)(i:Int):Nat:=(a.1.length-i).toNat
def YSame.VC :Prop:=∀(x0:Tre) (x1:Tre),YSame.pre x0 x1→((x0.2.1 !=x1.2.1)=false→(x0.2.1 !=x1.2.1)=false)∧((x0.2.1 !=x1.2.1)=false→(x0.2.1 !=x1.2.1)=false)∧((x0.2.1 !=x1.2.1)=false→(x0.2.1 !=x1.2.1)=false)∧((x0.2.1 !=x1.2.1)=false→(x0.2.1 !=x1.2.1)=false)∧((x0.2.1 !=x1.2.1)=false→(x0.2.1 !=x1.2.1)=false)∧((x0.2.1 !=x1.2.1)=false→(x0.2.1 !=x1.2.1)=false)∧((x0.2.1 !=x1.2.1)=false→(x0.2.1 !=x1.2.1)=false)∧(let v19:Bool:=(bif (x0.2.1 !=x1.2.1) then true else((x0.1.length:Int) !=(x1.1.length:Int)))
 ((v19=true→(Ret1 false (YSame.fn x0 x1)))∧(v19=false→(YSame.inv4 x0 x1 (0:Int)∧∀(v23:Int),YSame.inv4 x0 x1 v23→(((decide (v23<(x0.1.length:Int)))=true→(0≤v23∧v23<(x0.1.length:Int))∧(let v30:Nd:=(x0.1.getD (Int.toNat v23) zn)
 (0≤v23∧v23<(x1.1.length:Int))∧(let v35:Nd:=(x1.1.getD (Int.toNat v23) zn)
 (let v36:Bool:=(!(nbeq v30 v35))
 ((v36=true→(Ret1 false (YSame.fn x0 x1)))∧(v36=false→(YSame.inv4 x0 x1 (IntKind.i64.wrap (v23+(1:Int)))∧YSame.mes4 x0 x1 (IntKind.i64.wrap (v23+(1:Int)))<YSame.mes4 x0 x1 v23)))))))∧((decide (v23<(x0.1.length:Int)))=false→(Ret1 true (YSame.fn x0 x1))))))))
theorem YSame.vc :YSame.VC:=by
 intro a b hp
 have hp:a.1.length≤1000000000:=hp
 simp only[imp_self,true_and,ret1,YSame.fn,Bool.cond_true_left]
 refine⟨fun h=> ?_,fun h=> ?_⟩
 ·symm
  refine eqT_ne (fun e=> ?_)
  rw[e] at h;simp at h
 ·simp only[Bool.or_eq_false_iff,bne_eq_false_iff_eq] at h
  obtain⟨h1,h2⟩:=h
  have h2:a.1.length=b.1.length:=by omega
  refine⟨⟨by omega,by omega,h1,h2,fun j hj=>by simp at hj⟩, ?_⟩
  rintro i ⟨k1,k2,_,_,k4⟩
  refine⟨fun hc=> ?_,fun hc=> ?_⟩
  ·have hc:i<a.1.length:=of_decide_eq_true hc
   refine⟨⟨k1,hc⟩,⟨k1,by omega⟩,fun hne=> ?_,fun he=> ?_⟩
   ·symm
    refine eqT_ne (fun e=> ?_)
    rw[e,(nbeq_iff _ _).2 rfl] at hne;cases hne
   ·have he:a.1.getD i.toNat zn=b.1.getD i.toNat zn:=(nbeq_iff _ _).1 ((Bool.not_eq_false' _).mp he)
    rw[i64w (by omega) (by omega)]
    refine⟨⟨by omega,by omega,h1,h2,fun j hj=> ?_⟩,by simp only[YSame.mes4];omega⟩
    by_cases hjk:j=i.toNat
    ·rw[hjk];exact he
    ·exact k4 j (by omega)
  ·have hc:¬i<a.1.length:=of_decide_eq_false hc
   symm
   refine eqT_iff.2 (Prod.ext (ext_at zn h2 (fun j hj=>k4 j (by omega))) (Prod.ext h1 rfl))
theorem same_tree (a:Tre):YSame.fn a a=true:=eqT_iff.2 rfl
end Lc
set_option maxRecDepth 100000
namespace Lc
open Go
theorem mget_mput (k k':List Int)(v d:Bool):∀m:List (List Int×Bool),mget (.arr 32 (.int .u8)) .bool k d (mput (.arr 32 (.int .u8)) .bool k' v m)=if k=k' then v else mget (.arr 32 (.int .u8)) .bool k d m
 |[]=>by
  show(if b32 k k'=true then v else d)=_
  by_cases e:k=k'
  ·rw[if_pos ((b32_eq _ _).2 e),if_pos e]
  ·rw[if_neg (fun h=>e ((b32_eq _ _).1 h)),if_neg e];rfl
 |q::r=>by
  have ih:=mget_mput k k' v d r
  show mget (.arr 32 (.int .u8)) .bool k d (if b32 k' q.1=true then(k',v)::r else q::mput (.arr 32 (.int .u8)) .bool k' v r)=if k=k' then v else if b32 k q.1=true then q.2 else mget (.arr 32 (.int .u8)) .bool k d r
  by_cases e:k'=q.1
  ·rw[if_pos ((b32_eq _ _).2 e)]
   show(if b32 k k'=true then v else mget (.arr 32 (.int .u8)) .bool k d r)=_
   by_cases e2:k=k'
   ·rw[if_pos ((b32_eq _ _).2 e2),if_pos e2]
   ·rw[if_neg (fun h=>e2 ((b32_eq _ _).1 h)),if_neg e2,if_neg (fun h=>e2 (by rw[e];exact(b32_eq _ _).1 h))]
  ·rw[if_neg (fun h=>e ((b32_eq _ _).1 h))]
   show(if b32 k q.1=true then q.2 else mget (.arr 32 (.int .u8)) .bool k d (mput (.arr 32 (.int .u8)) .bool k' v r))=_
   rw[ih]
   by_cases e2:k=q.1
   ·rw[if_pos ((b32_eq _ _).2 e2),if_neg (fun h=>e (by rw[←h];exact e2)),if_pos ((b32_eq _ _).2 e2)]
   ·rw[if_neg (fun h=>e2 ((b32_eq _ _).1 h)),if_neg (fun h=>e2 ((b32_eq _ _).1 h))]
def stepOk (p:Par)(l:List Nd)(cs:List Cx)(i:Nat):Prop:=
 0≤(l.getD i zn).2.2.1∧(l.getD i zn).2.2.1<i∧(∀j,j<i→(l.getD j zn).2.1≠(l.getD i zn).2.1)∧
 checkFn p (cs.getD (l.getD i zn).2.2.1.toNat zcx) (l.getD i zn).1 (l.getD i zn).1.2.2.2.1=0∧l.getD i zn=childFn (l.getD (l.getD i zn).2.2.1.toNat zn) (l.getD i zn).2.2.1 (l.getD i zn).1
noncomputable def nextC (p:Par)(l:List Nd)(cs:List Cx)(i:Nat):Cx:=(advFn p (cs.getD (l.getD i zn).2.2.1.toNat zcx) (l.getD i zn).1).1
open Classical in
noncomputable def ctxGo (p:Par)(l:List Nd):Nat→List Cx→Option (List Cx)
 |0,cs=>some cs
 |k+1,cs=>if stepOk p l cs cs.length then ctxGo p l k (cs++[nextC p l cs cs.length]) else none
def fitT (p:Par)(l:List Nd):Prop:=validFn p=true∧1≤l.length∧l.length≤4096∧l.getD 0 zn=startN p
open Classical in
noncomputable def ctxAll (p:Par)(l:List Nd):Option (List Cx):=if fitT p l then ctxGo p l (l.length-1) [(startFn p).1] else none
noncomputable def ctxsFn (p:Par)(t:Tre):List Cx×Bool:=match ctxAll p t.1 with|none=>([],false)|some cs=>(cs,t.2.1==firstFn t.1)
noncomputable def validT (p:Par)(t:Tre):Bool:=(ctxsFn p t).2
theorem ctxGo_no {p:Par}{l:List Nd}{cs:List Cx}{k:Nat}(hk:0<k)(h:¬stepOk p l cs cs.length):ctxGo p l k cs=none:=by
 obtain⟨k,rfl⟩:∃j,k=j+1:=⟨k-1,by omega⟩
 rw[ctxGo,if_neg h]
theorem ctxGo_yes {p:Par}{l:List Nd}{cs:List Cx}{k:Nat}(hk:0<k)(h:stepOk p l cs cs.length):ctxGo p l k cs=ctxGo p l (k-1) (cs++[nextC p l cs cs.length]):=by
 obtain⟨k,rfl⟩:∃j,k=j+1:=⟨k-1,by omega⟩
 rw[ctxGo,if_pos h];rfl
theorem ctxs_none {p:Par}{t:Tre}(h:ctxAll p t.1=none):ctxsFn p t=([],false):=by rw[ctxsFn,h]
theorem ctxs_some {p:Par}{t:Tre}{cs:List Cx}(h:ctxAll p t.1=some cs):ctxsFn p t=(cs,t.2.1==firstFn t.1):=by rw[ctxsFn,h]
theorem ctxAll_not {p:Par}{l:List Nd}(h:¬fitT p l):ctxAll p l=none:=by rw[ctxAll,if_neg h]
theorem ctxAll_fit {p:Par}{l:List Nd}(h:fitT p l):ctxAll p l=ctxGo p l (l.length-1) [(startFn p).1]:=by rw[ctxAll,if_pos h]
theorem zcx_good :CGood zcx:=zc_good
structure CtxI (p:Par)(l:List Nd)(cs:List Cx)(m:Nat):Prop where
 fit:fitT p l
 pos:1≤m
 le:m≤l.length
 len:cs.length=m
 good:∀c,c∈cs→CGood c
 all:ctxAll p l=ctxGo p l (l.length-m) cs
theorem CtxI.start {p:Par}{l:List Nd}(hp:PGood p)(h:fitT p l):CtxI p l [(startFn p).1] 1:=
 ⟨h,Nat.le_refl _,h.2.1,rfl,fun c hc=>by rw[List.mem_singleton.1 hc];exact start_good hp,ctxAll_fit h⟩
theorem CtxI.ahead {p:Par}{l:List Nd}{cs:List Cx}{m:Nat}(h:CtxI p l cs m)(hp:PGood p)(hl:∀n,n∈l→NdOk n)(hm:m<l.length)(hs:stepOk p l cs m):CtxI p l (cs++[nextC p l cs m]) (m+1):=by
 refine⟨h.fit,by omega,by omega,by rw[List.length_append,h.len];rfl,fun c hc=> ?_, ?_⟩
 ·rcases List.mem_append.1 hc with hc|hc
  ·exact h.good c hc
  ·rw[List.mem_singleton.1 hc]
   exact adv_good ⟨hp,get_at zcx h.good (by have:=hs.1;have:=hs.2.1;have:=h.len;omega),(get_at zn hl hm).1⟩
 ·rw[h.all,ctxGo_yes (by omega) (by rw[h.len];exact hs),h.len,show l.length-m-1=l.length-(m+1) by omega]
theorem CtxI.stop {p:Par}{l:List Nd}{cs:List Cx}{m:Nat}(h:CtxI p l cs m)(hm:m<l.length)(hs:¬stepOk p l cs m):ctxAll p l=none:=by
 rw[h.all,ctxGo_no (by omega) (by rw[h.len];exact hs)]
theorem CtxI.done {p:Par}{l:List Nd}{cs:List Cx}(h:CtxI p l cs l.length):ctxAll p l=some cs:=by
 rw[h.all,Nat.sub_self,ctxGo]
theorem CtxI.pre {p:Par}{l:List Nd}{cs:List Cx}{m:Nat}(h:CtxI p l cs m)(hp:PGood p)(hl:∀n,n∈l→NdOk n){n:Nd}(hn:NdOk n){k:Nat}(hk:k<m):ChkPre p (cs.getD k zcx) n.1 n.1.2.2.2.1:=
 ⟨⟨hp,get_at zcx h.good (by rw[h.len];exact hk),hn.1⟩,hn.1.2.2.2.1⟩
def NContexts.pre (p:Par)(t:Tre):Prop:=PGood p∧TreOk t
noncomputable def NContexts.fn (p:Par)(t:Tre):List Cx×Bool:=ctxsFn p t
def knownI (l:List Nd)(ks:List (List Int×Bool))(m:Nat):Prop:=∀x,mget (.arr 32 (.int .u8)) .bool x false ks=true↔∃j,j<m∧(l.getD j zn).2.1=x
theorem known_one (l:List Nd):knownI l (mput (.arr 32 (.int .u8)) .bool (l.getD 0 zn).2.1 true []) 1:=by
 intro x
 rw[mget_mput]
 constructor
 ·intro h
  by_cases e:x=(l.getD 0 zn).2.1
  ·exact⟨0,by omega,e.symm⟩
  ·rw[if_neg e] at h;cases h
 ·rintro⟨j,hj,e⟩
  obtain rfl:j=0:=by omega
  rw[if_pos e.symm]
theorem known_next {l:List Nd}{ks:List (List Int×Bool)}{m:Nat}(h:knownI l ks m):knownI l (mput (.arr 32 (.int .u8)) .bool (l.getD m zn).2.1 true ks) (m+1):=by
 intro x
 rw[mget_mput]
 by_cases e:x=(l.getD m zn).2.1
 ·rw[if_pos e];exact⟨fun _=>⟨m,by omega,e.symm⟩,fun _=>rfl⟩
 ·rw[if_neg e,h x]
  constructor
  ·rintro⟨j,hj,hx⟩;exact⟨j,by omega,hx⟩
  ·rintro⟨j,hj,hx⟩
   have:j≠m:=fun hj'=>e (by rw[←hx,hj'])
   exact⟨j,by omega,hx⟩
def up1 (i:Int):Nat:=if i=0 then 1 else i.toNat
def NContexts.inv11 (p:Par)(t:Tre)(cs:List Cx)(ks:List (List Int×Bool))(b i:Int):Prop:=
 0≤i∧i≤t.1.length∧CtxI p t.1 cs (up1 i)∧knownI t.1 ks (up1 i)∧b=(bestUp t.1 (up1 i):Nat)
def NContexts.mes11 (p:Par)(t:Tre)(cs:List Cx)(ks:List (List Int×Bool))(b i:Int):Nat:=(t.1.length-i).toNat
def NContexts.VC :Prop:=∀(x0:Par) (x1:Tre),NContexts.pre x0 x1→NStart.pre x0∧(((NStart.fn x0).2 !=(0:Int))=false→((NStart.fn x0).2 !=(0:Int))=false)∧(((NStart.fn x0).2 !=(0:Int))=false→((NStart.fn x0).2 !=(0:Int))=false)∧(((NStart.fn x0).2 !=(0:Int))=false→((NStart.fn x0).2 !=(0:Int))=false)∧(((NStart.fn x0).2 !=(0:Int))=false→((NStart.fn x0).2 !=(0:Int))=false)∧(let v29:Bool:=(bif ((NStart.fn x0).2 !=(0:Int)) then true else(decide ((x1.1.length:Int)<(1:Int))))
 (v29=false→v29=false)∧(v29=false→v29=false)∧(v29=false→v29=false)∧(v29=false→v29=false)∧(let v35:Bool:=(bif v29 then true else(decide ((x1.1.length:Int)>(4096:Int))))
 (v35=false→v35=false)∧(v35=false→v35=false)∧(v35=false→(0≤(0:Int)∧(0:Int)<(x1.1.length:Int)))∧(v35=false→v35=false)∧(v35=false→v35=false)∧(v35=false→v35=false)∧(v35=false→(0≤(0:Int)∧(0:Int)<((NStart.fn x0).1.1.length:Int)))∧(v35=false→v35=false)∧(v35=false→v35=false)∧(v35=false→v35=false)∧(v35=false→v35=false)∧(let v46:Bool:=(bif v35 then true else(!(nbeq (x1.1.getD (Int.toNat (0:Int)) zn) ((NStart.fn x0).1.1.getD (Int.toNat (0:Int)) zn))))
 ((v46=true→(Ret2 [] false (NContexts.fn x0 x1)))∧(v46=false→UStart.pre x0∧(let v8h:Cx:=zcx
 ((((UStart.fn x0).2 !=(0:Int))=true→(Ret2 [] false (NContexts.fn x0 x1)))∧(((UStart.fn x0).2 !=(0:Int))=false→(0≤(0:Int)∧(0:Int)<(x1.1.length:Int))∧(let v61:(List Int):=(x1.1.getD (Int.toNat (0:Int)) zn).2.1
 (let v56h:(List ((List Int)×Bool)):=(mput (.arr 32 (.int .u8)) (.bool) v61 true ([]:(List ((List Int)×Bool))))
 (NContexts.inv11 x0 x1 [(UStart.fn x0).1] v56h (0:Int) (0:Int)∧∀(v9:(List Cx)) (v10:(List ((List Int)×Bool))) (v11:Int) (v66:Int),NContexts.inv11 x0 x1 v9 v10 v11 v66→(((decide (v66<(x1.1.length:Int)))=true→(0≤v66∧v66<(x1.1.length:Int))∧(let v70:Nd:=(x1.1.getD (Int.toNat v66) zn)
 (let v13h:Nd:=zn
 (((v66==(0:Int))=true→(NContexts.inv11 x0 x1 v9 v10 v11 (IntKind.i64.wrap (v66+(1:Int)))∧NContexts.mes11 x0 x1 v9 v10 v11 (IntKind.i64.wrap (v66+(1:Int)))<NContexts.mes11 x0 x1 v9 v10 v11 v66))∧((v66==(0:Int))=false→((decide (v70.2.2.1<(0:Int)))=false→(decide (v70.2.2.1<(0:Int)))=false)∧((decide (v70.2.2.1<(0:Int)))=false→(decide (v70.2.2.1<(0:Int)))=false)∧((decide (v70.2.2.1<(0:Int)))=false→(decide (v70.2.2.1<(0:Int)))=false)∧((decide (v70.2.2.1<(0:Int)))=false→(decide (v70.2.2.1<(0:Int)))=false)∧(let v81:Bool:=(bif (decide (v70.2.2.1<(0:Int))) then true else(decide (v70.2.2.1≥v66)))
 (v81=false→v81=false)∧(v81=false→v81=false)∧(v81=false→v81=false)∧(v81=false→v81=false)∧(let v87:Bool:=(bif v81 then true else(mget (.arr 32 (.int .u8)) (.bool) v70.2.1 false v10))
 ((v87=true→(Ret2 [] false (NContexts.fn x0 x1)))∧(v87=false→(0≤v70.2.2.1∧v70.2.2.1<(v9.length:Int))∧(let v92:Cx:=(v9.getD (Int.toNat v70.2.2.1) zcx)
 (let v14h:Cx:=zcx
 UCheck.pre x0 v92 v70.1 v70.1.2.2.2.1∧((((UCheck.fn x0 v92 v70.1 v70.1.2.2.2.1) !=(0:Int))=true→(Ret2 [] false (NContexts.fn x0 x1)))∧(((UCheck.fn x0 v92 v70.1 v70.1.2.2.2.1) !=(0:Int))=false→(0≤v70.2.2.1∧v70.2.2.1<(x1.1.length:Int))∧(let v108:Nd:=(x1.1.getD (Int.toNat v70.2.2.1) zn)
 NChild.pre v108 v70.2.2.1 v70.1∧(let v114:Bool:=(!(nbeq v70 (NChild.fn v108 v70.2.2.1 v70.1)))
 ((v114=true→(Ret2 [] false (NContexts.fn x0 x1)))∧(v114=false→UAdvance.pre x0 v92 v70.1∧(let v15h:Cx:=zcx
 ((((UAdvance.fn x0 v92 v70.1).2 !=(0:Int))=true→(Ret2 [] false (NContexts.fn x0 x1)))∧(((UAdvance.fn x0 v92 v70.1).2 !=(0:Int))=false→Room (v9.length+[(UAdvance.fn x0 v92 v70.1).1].length) 72∧(0≤v11∧v11<(x1.1.length:Int))∧(let v137:(List Int):=(x1.1.getD (Int.toNat v11) zn).2.2.2.2.1
 NLess.pre v137 v70.2.2.2.2.1∧(((NLess.fn v137 v70.2.2.2.2.1)=true→(NContexts.inv11 x0 x1 (v9++[(UAdvance.fn x0 v92 v70.1).1]) (mput (.arr 32 (.int .u8)) (.bool) v70.2.1 true v10) v66 (IntKind.i64.wrap (v66+(1:Int)))∧NContexts.mes11 x0 x1 (v9++[(UAdvance.fn x0 v92 v70.1).1]) (mput (.arr 32 (.int .u8)) (.bool) v70.2.1 true v10) v66 (IntKind.i64.wrap (v66+(1:Int)))<NContexts.mes11 x0 x1 v9 v10 v11 v66))∧((NLess.fn v137 v70.2.2.2.2.1)=false→(NContexts.inv11 x0 x1 (v9++[(UAdvance.fn x0 v92 v70.1).1]) (mput (.arr 32 (.int .u8)) (.bool) v70.2.1 true v10) v11 (IntKind.i64.wrap (v66+(1:Int)))∧NContexts.mes11 x0 x1 (v9++[(UAdvance.fn x0 v92 v70.1).1]) (mput (.arr 32 (.int .u8)) (.bool) v70.2.1 true v10) v11 (IntKind.i64.wrap (v66+(1:Int)))<NContexts.mes11 x0 x1 v9 v10 v11 v66))))))))))))))))))))))))∧((decide (v66<(x1.1.length:Int)))=false→(Ret2 v9 (x1.2.1==v11) (NContexts.fn x0 x1)))))))))))))))
theorem startT_fit {p:Par}(h:validFn p=true):startT p=(([startN p],0,()),0):=by rw[startT,if_neg (by simp[h])]
theorem startT_bad {p:Par}(h:¬validFn p=true):startT p=(zt,6):=by rw[startT,if_pos (by simpa using h)]
theorem startF_fit {p:Par}(h:validFn p=true):(startFn p).2=0:=by rw[startFn,if_neg (by simp[h])]
theorem fit_not {p:Par}{t:Tre}(h:((startT p).2 !=0||decide ((t.1.length:Int)<1)||decide ((t.1.length:Int)>4096)|| !nbeq (t.1.getD (Int.toNat 0) zn) ((startT p).1.1.getD (Int.toNat 0) zn))=true):¬fitT p t.1:=by
 intro hf
 rw[startT_fit hf.1] at h
 have e:nbeq (t.1.getD (Int.toNat 0) zn) (([startN p]:List Nd).getD (Int.toNat 0) zn)=true:=(nbeq_iff _ _).2 hf.2.2.2
 have h1:=hf.2.1
 have h2:=hf.2.2.1
 simp only[e,Bool.or_eq_true,decide_eq_true_eq,Bool.not_true,bne_self_eq_false,Bool.false_eq_true,or_false,false_or] at h
 omega
theorem fit_yes {p:Par}{t:Tre}(h:((startT p).2 !=0||decide ((t.1.length:Int)<1)||decide ((t.1.length:Int)>4096)|| !nbeq (t.1.getD (Int.toNat 0) zn) ((startT p).1.1.getD (Int.toNat 0) zn))=false):fitT p t.1:=by
 simp only[Bool.or_eq_false_iff,bne_eq_false_iff_eq,decide_eq_false_iff_not,Bool.not_eq_false'] at h
 obtain⟨⟨⟨h1,h2⟩,h3⟩,h4⟩:=h
 have hv:validFn p=true:=by
  refine Decidable.byContradiction (fun hv=> ?_)
  rw[startT_bad hv] at h1;exact absurd h1 (by decide)
 rw[startT_fit hv] at h4
 exact⟨hv,by omega,by omega,(nbeq_iff _ _).1 h4⟩
theorem up1_one :up1 0=1:=rfl
theorem up1_pos {i:Int}(h:0<i):up1 i=i.toNat:=if_neg (by omega)
theorem NContexts.vc :NContexts.VC:=by
 rintro p t ⟨hp,ht⟩
 have hl:=ht.1
 simp only[imp_self,true_and,Bool.cond_true_left,NStart.fn,UStart.fn,UCheck.fn,UAdvance.fn,NContexts.fn,NChild.fn,NLess.fn,ret2,adv_err]
 refine⟨hp,fun h=> ?_,fun h=> ?_,fun h=>(ctxs_none (ctxAll_not (fit_not h))).symm,fun h=> ?_⟩
 ·simp only[Bool.or_eq_false_iff,decide_eq_false_iff_not] at h;omega
 ·simp only[Bool.or_eq_false_iff,decide_eq_false_iff_not,bne_eq_false_iff_eq] at h
  refine⟨by omega, ?_⟩
  by_cases hv:validFn p=true
  ·rw[startT_fit hv];simp
  ·rw[startT_bad hv] at h;exact absurd h.1.1 (by decide)
 have hf:=fit_yes h
 refine⟨hp,fun h2=> ?_,fun h2=>⟨⟨by omega,by have:=hf.2.1;omega⟩,⟨by omega,by omega,CtxI.start hp hf,known_one _,by rw[up1_one,bestUp_one];rfl⟩, ?_⟩⟩
 ·rw[startF_fit hf.1] at h2;exact absurd h2 (by decide)
 rintro cs ks b i ⟨k1,k2,k3,k4,rfl⟩
 have hlen:=hf.2.2.1
 refine⟨fun hc=> ?_,fun hc=> ?_⟩
 ·have hc:i<t.1.length:=of_decide_eq_true hc
  rw[i64w (by omega) (by omega)]
  refine⟨⟨k1,hc⟩,fun h0=> ?_,fun h0=> ?_⟩
  ·have h0:i=0:=by simpa using h0
   subst h0
   exact⟨⟨by omega,by omega,k3,k4,rfl⟩,by simp only[NContexts.mes11];omega⟩
  have h0:i≠0:=by simpa using h0
  obtain⟨m,rfl⟩:∃m:Nat,i=m:=⟨i.toNat,by omega⟩
  rw[up1_pos (by omega),Int.toNat_natCast] at k3 k4
  rw[up1_pos (show(0:Int)<m by omega),Int.toNat_natCast] at*
  have hm:m<t.1.length:=by omega
  have hno:¬stepOk p t.1 cs m→([],false)=ctxsFn p t:=fun hs=>(ctxs_none (k3.stop hm hs)).symm
  have hn:NdOk (t.1.getD m zn):=get_at zn hl hm
  refine⟨fun hq=>hno (fun hs=> ?_),fun hq=> ?_⟩
  ·simp only[Bool.or_eq_true,decide_eq_true_eq] at hq
   rcases hq with(hq|hq)|hq
   ·have:=hs.1;omega
   ·have:=hs.2.1;omega
   ·obtain⟨j,hj,e⟩:=(k4 _).1 hq
    exact hs.2.2.1 j hj e
  simp only[Bool.or_eq_false_iff,decide_eq_false_iff_not] at hq
  obtain⟨⟨q1,q2⟩,q3⟩:=hq
  have hcl:=k3.len
  refine⟨⟨by omega,by omega⟩,k3.pre hp hl hn (by omega),fun hq=>hno (fun hs=> ?_),fun hq=>⟨⟨by omega,by omega⟩,⟨get_at zn hl (by omega),hn.1⟩,fun hq2=>hno (fun hs=> ?_),fun hq2=>⟨(k3.pre hp hl hn (by omega)).1,fun hq3=> ?_,fun hq3=> ?_⟩⟩⟩
  ·rw[hs.2.2.2.1] at hq;exact absurd hq (by decide)
  ·rw[(nbeq_iff _ _).2 hs.2.2.2.2] at hq2;cases hq2
  ·have hq:_=(0:Int):=bne_eq_false_iff_eq.1 hq
   rw[check_room hq] at hq3;exact absurd hq3 (by decide)
  have hs:stepOk p t.1 cs m:=⟨by omega,by omega,fun j hj e=>(by rw[(k4 _).2 ⟨j,hj,e⟩] at q3;cases q3),bne_eq_false_iff_eq.1 hq,(nbeq_iff _ _).1 ((Bool.not_eq_false' _).mp hq2)⟩
  have hnx:=k3.ahead hp hl hm hs
  have hb:bestUp t.1 m<t.1.length:=by have:=bestUp_le t.1 m;omega
  have e1:((m:Int)+1).toNat=m+1:=by omega
  have hstep:∀b:Int,b=(bestUp t.1 (m+1):Nat)→NContexts.inv11 p t (cs++[nextC p t.1 cs m]) (mput (.arr 32 (.int .u8)) .bool (t.1.getD m zn).2.1 true ks) b ((m:Int)+1):=fun b hb=>by
   refine⟨by omega,by omega, ?_⟩
   rw[up1_pos (by omega),e1]
   exact⟨hnx,known_next k4,hb⟩
  have hmes:∀b b' x y x' y',NContexts.mes11 p t x y b ((m:Int)+1)<NContexts.mes11 p t x' y' b' m:=fun _ _ _ _ _ _=>by simp only[NContexts.mes11];omega
  have hbs:bestUp t.1 (m+1)=if N4 (t.1.getD (bestUp t.1 m) zn).2.2.2.2.1<N4 (t.1.getD m zn).2.2.2.2.1 then m else bestUp t.1 m:=rfl
  refine⟨room_of (by simp only[List.length_singleton];omega) (by omega),⟨by omega,by omega⟩,⟨by rw[Int.toNat_natCast];exact(get_at zn hl hb).2.2,hn.2.2⟩,fun hw=>⟨hstep _ ?_,hmes _ _ _ _ _ _⟩,fun hw=>⟨hstep _ ?_,hmes _ _ _ _ _ _⟩⟩
  ·rw[Int.toNat_natCast] at hw
   rw[hbs,if_pos (of_decide_eq_true hw)]
  ·rw[Int.toNat_natCast] at hw
   rw[hbs,if_neg (of_decide_eq_false hw)]
 ·have hc:¬i<t.1.length:=of_decide_eq_false hc
  have hpos:=hf.2.1
  have e:up1 i=t.1.length:=by rw[up1_pos (by omega)];omega
  rw[e] at k3⊢
  exact(ctxs_some k3.done).symm
def NValid.pre (p:Par)(t:Tre):Prop:=PGood p∧TreOk t
noncomputable def NValid.fn (p:Par)(t:Tre):Bool:=validT p t
def NValid.VC :Prop:=∀(x0:Par) (x1:Tre),NValid.pre x0 x1→NContexts.pre x0 x1∧(Ret1 ((NContexts.fn x0 x1).2) (NValid.fn x0 x1))
theorem NValid.vc :NValid.VC:=fun p t h=>⟨h,ret1.2 rfl⟩
theorem take_set {α:Type}(l:List α)(m:Nat)(c:α)(h:m<l.length):(l.set m c).take (m+1)=l.take m++[c]:=by
 rw[List.set_eq_take_append_cons_drop,if_pos h,List.take_append,List.length_take,Nat.min_eq_left (by omega),List.take_of_length_le (by rw[List.length_take];omega),show m+1-m=1 by omega]
 rfl
theorem getD_take {α:Type}(d:α)(l:List α)(m k:Nat)(h:k<m):(l.take m).getD k d=l.getD k d:=by
 rw[List.getD_eq_getElem?_getD,List.getD_eq_getElem?_getD,List.getElem?_take_of_lt h]
def YValid.pre (p:Par)(t:Tre):Prop:=PGood p∧TreOk t
noncomputable def YValid.fn (p:Par)(t:Tre):Bool:=validT p t
def YValid.inv9 (p:Par)(t:Tre)(cs:List Cx)(i:Int):Prop:=
 1≤i∧i≤t.1.length∧cs.length=t.1.length∧(∀c,c∈cs→CGood c)∧CtxI p t.1 (cs.take i.toNat) i.toNat
def YValid.mes9 (p:Par)(t:Tre)(cs:List Cx)(i:Int):Nat:=(t.1.length-i).toNat
def YValid.VC :Prop:=∀(x0:Par) (x1:Tre),YValid.pre x0 x1→QValid.pre x0∧((!(QValid.fn x0))=false→(!(QValid.fn x0))=false)∧((!(QValid.fn x0))=false→(!(QValid.fn x0))=false)∧((!(QValid.fn x0))=false→(!(QValid.fn x0))=false)∧((!(QValid.fn x0))=false→(!(QValid.fn x0))=false)∧(let v19:Bool:=(bif (!(QValid.fn x0)) then true else(decide ((x1.1.length:Int)<(1:Int))))
 (v19=false→v19=false)∧(v19=false→v19=false)∧(v19=false→v19=false)∧(v19=false→v19=false)∧(let v25:Bool:=(bif v19 then true else(decide ((x1.1.length:Int)>(4096:Int))))
 ((v25=true→(Ret1 false (YValid.fn x0 x1)))∧(v25=false→YStart.pre x0∧(0≤(0:Int)∧(0:Int)<(x1.1.length:Int))∧(let v34:Nd:=(x1.1.getD (Int.toNat (0:Int)) zn)
 (0≤(0:Int)∧(0:Int)<((YStart.fn x0).1.1.length:Int))∧(let v38:Nd:=((YStart.fn x0).1.1.getD (Int.toNat (0:Int)) zn)
 (let v39:Bool:=(!(nbeq v34 v38))
 ((v39=true→(Ret1 false (YValid.fn x0 x1)))∧(v39=false→(0≤(x1.1.length:Int)∧(x1.1.length:Int)≤(x1.1.length:Int))∧Room ((x1.1.length:Int)).toNat 72∧(let v43h:(List Cx):=(List.replicate ((x1.1.length:Int)).toNat zcx)
 VStart.pre x0∧(0≤(0:Int)∧(0:Int)<(v43h.length:Int))∧(YValid.inv9 x0 x1 (v43h.set (Int.toNat (0:Int)) (VStart.fn x0).1) (1:Int)∧∀(v7:(List Cx)) (v8:Int),YValid.inv9 x0 x1 v7 v8→(((decide (v8<(x1.1.length:Int)))=true→(0≤v8∧v8<(x1.1.length:Int))∧(let v62:Nd:=(x1.1.getD (Int.toNat v8) zn)
 (let v9h:Nd:=zn
 ((decide (v62.2.2.1<(0:Int)))=false→(decide (v62.2.2.1<(0:Int)))=false)∧((decide (v62.2.2.1<(0:Int)))=false→(decide (v62.2.2.1<(0:Int)))=false)∧((decide (v62.2.2.1<(0:Int)))=false→(decide (v62.2.2.1<(0:Int)))=false)∧((decide (v62.2.2.1<(0:Int)))=false→(decide (v62.2.2.1<(0:Int)))=false)∧(let v71:Bool:=(bif (decide (v62.2.2.1<(0:Int))) then true else(decide (v62.2.2.1≥v8)))
 ((v71=true→(Ret1 false (YValid.fn x0 x1)))∧(v71=false→(0≤v62.2.2.1∧v62.2.2.1<(x1.1.length:Int))∧(let v77:Nd:=(x1.1.getD (Int.toNat v62.2.2.1) zn)
 (let v10h:Nd:=zn
 (0≤v62.2.2.1∧v62.2.2.1<(v7.length:Int))∧(let v83:Cx:=(v7.getD (Int.toNat v62.2.2.1) zcx)
 VCheck.pre x0 v83 v62.1 v62.1.2.2.2.1∧((((VCheck.fn x0 v83 v62.1 v62.1.2.2.2.1) !=(0:Int))=true→(Ret1 false (YValid.fn x0 x1)))∧(((VCheck.fn x0 v83 v62.1 v62.1.2.2.2.1) !=(0:Int))=false→(0≤v62.2.2.1∧v62.2.2.1<(v7.length:Int))∧(let v99:Cx:=(v7.getD (Int.toNat v62.2.2.1) zcx)
 VAdvance.pre x0 v99 v62.1∧(0≤v8∧v8<(v7.length:Int))∧(let v111:Bool:=(v62.2.2.2.1 !=(IntKind.i64.wrap (v77.2.2.2.1+(1:Int))))
 (v111=false→v111=false)∧(v111=false→v111=false)∧(v111=false→v111=false)∧(v111=false→(0≤v8∧v8<((v7.set (Int.toNat v8) (VAdvance.fn x0 v99 v62.1).1).length:Int)))∧(v111=false→v111=false)∧(v111=false→v111=false)∧(v111=false→v111=false)∧(v111=false→v111=false)∧(v111=false→v111=false)∧(let v121:Bool:=(bif v111 then true else(!(b32 v62.2.1 ((v7.set (Int.toNat v8) (VAdvance.fn x0 v99 v62.1).1).getD (Int.toNat v8) zcx).2.1)))
 (v121=false→v121=false)∧(v121=false→v121=false)∧(v121=false→v121=false)∧(v121=false→YFind.pre x1 v62.2.1)∧(v121=false→v121=false)∧(v121=false→v121=false)∧(v121=false→v121=false)∧((bif v121 then true else((YFind.fn x1 v62.2.1) !=v8))=false→(bif v121 then true else((YFind.fn x1 v62.2.1) !=v8))=false)∧((bif v121 then true else((YFind.fn x1 v62.2.1) !=v8))=false→(bif v121 then true else((YFind.fn x1 v62.2.1) !=v8))=false)∧((bif v121 then true else((YFind.fn x1 v62.2.1) !=v8))=false→(bif v121 then true else((YFind.fn x1 v62.2.1) !=v8))=false)∧((bif v121 then true else((YFind.fn x1 v62.2.1) !=v8))=false→(bif v121 then true else((YFind.fn x1 v62.2.1) !=v8))=false)∧((bif v121 then true else((YFind.fn x1 v62.2.1) !=v8))=false→YWork.pre v62.1)∧((bif v121 then true else((YFind.fn x1 v62.2.1) !=v8))=false→(bif v121 then true else((YFind.fn x1 v62.2.1) !=v8))=false)∧((bif v121 then true else((YFind.fn x1 v62.2.1) !=v8))=false→(bif v121 then true else((YFind.fn x1 v62.2.1) !=v8))=false)∧((bif v121 then true else((YFind.fn x1 v62.2.1) !=v8))=false→QTotal.pre v77.2.2.2.2.1 (YWork.fn v62.1))∧((bif v121 then true else((YFind.fn x1 v62.2.1) !=v8))=false→(bif v121 then true else((YFind.fn x1 v62.2.1) !=v8))=false)∧((bif v121 then true else((YFind.fn x1 v62.2.1) !=v8))=false→(bif v121 then true else((YFind.fn x1 v62.2.1) !=v8))=false)∧((bif v121 then true else((YFind.fn x1 v62.2.1) !=v8))=false→(bif v121 then true else((YFind.fn x1 v62.2.1) !=v8))=false)∧(let v140:Bool:=(bif (bif v121 then true else((YFind.fn x1 v62.2.1) !=v8)) then true else(!(w4beq v62.2.2.2.2.1 (QTotal.fn v77.2.2.2.2.1 (YWork.fn v62.1)))))
 ((v140=true→(Ret1 false (YValid.fn x0 x1)))∧(v140=false→(YValid.inv9 x0 x1 (v7.set (Int.toNat v8) (VAdvance.fn x0 v99 v62.1).1) (IntKind.i64.wrap (v8+(1:Int)))∧YValid.mes9 x0 x1 (v7.set (Int.toNat v8) (VAdvance.fn x0 v99 v62.1).1) (IntKind.i64.wrap (v8+(1:Int)))<YValid.mes9 x0 x1 v7 v8))))))))))))))))))∧((decide (v8<(x1.1.length:Int)))=false→YFirst.pre x1.1∧(Ret1 (x1.2.1==(YFirst.fn x1.1)) (YValid.fn x0 x1)))))))))))))))
theorem YValid.vc :YValid.VC:=by
 rintro p t ⟨hp,ht⟩
 have hl:=ht.1
 simp only[imp_self,true_and,Bool.cond_true_left,YStart.fn,QValid.fn,VStart.fn,VCheck.fn,VAdvance.fn,YValid.fn,YFind.fn,YWork.fn,QTotal.fn,YFirst.fn,ret1]
 have no:ctxAll p t.1=none→false=validT p t:=fun h=>by rw[validT,ctxs_none h]
 refine⟨hp.1,fun h=>no (ctxAll_not (fun hf=> ?_)),fun h=> ?_⟩
 ·have h1:=hf.2.1
  have h2:=hf.2.2.1
  simp only[hf.1,Bool.or_eq_true,decide_eq_true_eq,Bool.not_true,Bool.false_eq_true,false_or] at h
  omega
 simp only[Bool.or_eq_false_iff,Bool.not_eq_false',decide_eq_false_iff_not] at h
 obtain⟨⟨h1,h2⟩,h3⟩:=h
 rw[startT_fit h1]
 refine⟨hp,⟨by omega,by omega⟩,⟨by omega,by simp⟩,fun hb=>no (ctxAll_not (fun hf=> ?_)),fun hb=> ?_⟩
 ·rw[show nbeq (t.1.getD (Int.toNat 0) zn) (([startN p]:List Nd).getD (Int.toNat 0) zn)=true from (nbeq_iff _ _).2 hf.2.2.2] at hb
  cases hb
 have hf:fitT p t.1:=⟨h1,by omega,by omega,(nbeq_iff _ _).1 ((Bool.not_eq_false' _).mp hb)⟩
 have hg0:=start_good hp
 refine⟨⟨by omega,by omega⟩,room_of (by omega) (by omega),hp,⟨by omega,by rw[List.length_replicate];omega⟩,⟨by omega,by omega,by simp,fun c hc=> ?_, ?_⟩, ?_⟩
 ·rcases List.mem_or_eq_of_mem_set hc with hc|rfl
  ·rw[(List.mem_replicate.1 hc).2];exact zcx_good
  ·exact hg0
 ·have e:((List.replicate ((t.1.length:Int)).toNat zcx).set (Int.toNat 0) (startFn p).1).take (Int.toNat 1)=[(startFn p).1]:=by
   have:=take_set (List.replicate ((t.1.length:Int)).toNat zcx) 0 (startFn p).1 (by rw[List.length_replicate];omega)
   rw[List.take_zero,List.nil_append] at this
   exact this
  rw[e];exact CtxI.start hp hf
 rintro cs i ⟨k1,k2,k3,k4,k5⟩
 refine⟨fun hc=> ?_,fun hc=> ?_⟩
 ·have hc:i<t.1.length:=of_decide_eq_true hc
  obtain⟨m,rfl⟩:∃m:Nat,i=m:=⟨i.toNat,by omega⟩
  rw[Int.toNat_natCast] at k5
  rw[i64w (n:=(m:Int)+1) (by omega) (by omega),Int.toNat_natCast]
  have hm:m<t.1.length:=by omega
  have hno:¬stepOk p t.1 (cs.take m) m→false=validT p t:=fun hs=>no (k5.stop hm hs)
  have hn:NdOk (t.1.getD m zn):=get_at zn hl hm
  refine⟨⟨by omega,hc⟩,fun hq=>hno (fun hs=> ?_),fun hq=> ?_⟩
  ·simp only[Bool.or_eq_true,decide_eq_true_eq] at hq
   rcases hq with hq|hq
   ·have:=hs.1;omega
   ·have:=hs.2.1;omega
  simp only[Bool.or_eq_false_iff,decide_eq_false_iff_not] at hq
  obtain⟨q1,q2⟩:=hq
  have hP:(t.1.getD m zn).2.2.1.toNat<m:=by omega
  have hgt:=getD_take zcx cs m _ hP
  have hpre:=k5.pre hp hl hn hP
  rw[hgt] at hpre
  have hno2:∀h:stepOk p t.1 (cs.take m) m,checkFn p (cs.getD (t.1.getD m zn).2.2.1.toNat zcx) (t.1.getD m zn).1 (t.1.getD m zn).1.2.2.2.1=0:=fun h=>by rw[←hgt];exact h.2.2.2.1
  refine⟨⟨by omega,by omega⟩,⟨by omega,by omega⟩,hpre,fun hq=>hno (fun hs=> ?_),fun hq=> ?_⟩
  ·rw[hno2 hs] at hq;exact absurd hq (by decide)
  have hck:checkFn p (cs.getD (t.1.getD m zn).2.2.1.toNat zcx) (t.1.getD m zn).1 (t.1.getD m zn).1.2.2.2.1=0:=bne_eq_false_iff_eq.1 hq
  have had:=adv_ok (h:=(t.1.getD m zn).1) (check_room hck)
  have hset:(cs.set m (advFn p (cs.getD (t.1.getD m zn).2.2.1.toNat zcx) (t.1.getD m zn).1).1).getD m zcx=(advFn p (cs.getD (t.1.getD m zn).2.2.1.toNat zcx) (t.1.getD m zn).1).1:=by
   rw[List.getD_eq_getElem?_getD,List.getElem?_set_self (by omega),Option.getD_some]
  have hhash:(advFn p (cs.getD (t.1.getD m zn).2.2.1.toNat zcx) (t.1.getD m zn).1).1.2.1=hashH (t.1.getD m zn).1:=by rw[had]
  rw[hset,hhash]
  refine⟨⟨by omega,by omega⟩,hpre.1,⟨by omega,by omega⟩,fun _=>⟨by omega,by rw[List.length_set];omega⟩,fun _=>ht.2,fun _=>hn.1,fun _=>⟨(get_at zn hl (by omega)).2.2,bitsWork_ok _⟩,fun hq=>hno (fun hs=> ?_),fun hq=> ?_⟩
  ·have e:=hs.2.2.2.2
   have e1:(t.1.getD m zn).2.1=hashH (t.1.getD m zn).1:=congrArg (fun n:Nd=>n.2.1) e
   have e2:(t.1.getD m zn).2.2.2.1=IntKind.i64.wrap ((t.1.getD (t.1.getD m zn).2.2.1.toNat zn).2.2.2.1+1):=congrArg (fun n:Nd=>n.2.2.2.1) e
   have e3:(t.1.getD m zn).2.2.2.2.1=totFn (t.1.getD (t.1.getD m zn).2.2.1.toNat zn).2.2.2.2.1 (bitsWork (t.1.getD m zn).1.2.2.2.2.1):=congrArg (fun n:Nd=>n.2.2.2.2.1) e
   have e4:findFn t.1 (t.1.getD m zn).2.1=m:=find_self hm hs.2.2.1
   rw[(b32_eq _ _).2 e1,(w4beq_iff _ _).2 e3,e4,bne_eq_false_iff_eq.2 e2] at hq
   simp at hq
  ·simp only[Bool.or_eq_false_iff,bne_eq_false_iff_eq,Bool.not_eq_false'] at hq
   obtain⟨⟨⟨g1,g2⟩,g3⟩,g4⟩:=hq
   have hs:stepOk p t.1 (cs.take m) m:=⟨by omega,by omega,fun j hj e=>find_not hj e hm g3,by rw[hgt];exact hck,
    Prod.ext rfl (Prod.ext ((b32_eq _ _).1 g2) (Prod.ext rfl (Prod.ext g1 (Prod.ext ((w4beq_iff _ _).1 g4) rfl))))⟩
   have hnx:=k5.ahead hp hl hm hs
   refine⟨⟨by omega,by omega,by rw[List.length_set];exact k3,fun c hc=> ?_, ?_⟩,by simp only[YValid.mes9];omega⟩
   ·rcases List.mem_or_eq_of_mem_set hc with hc|rfl
    ·exact k4 c hc
    ·exact adv_good hpre.1
   ·rw[show((m:Int)+1).toNat=m+1 by omega,take_set _ _ _ (by omega)]
    have e:nextC p t.1 (cs.take m) m=(advFn p (cs.getD (t.1.getD m zn).2.2.1.toNat zcx) (t.1.getD m zn).1).1:=by rw[nextC,hgt]
    rw[←e];exact hnx
 ·have hc:¬i<t.1.length:=of_decide_eq_false hc
  have e:i.toNat=t.1.length:=by omega
  rw[e,List.take_of_length_le (by omega)] at k5
  exact⟨ht,by rw[validT,ctxs_some k5.done]⟩
end Lc
set_option maxRecDepth 100000
namespace Lc
open Go
def Linked (l:List Nd):Prop:=∀j:Nat,0<j→j<l.length→0≤(l.getD j zn).2.2.1∧(l.getD j zn).2.2.1<j
noncomputable def atGo (p:Par)(l:List Nd):Nat→Nat→Cx
 |0,_=>(startFn p).1
 |f+1,n=>if n=0 then(startFn p).1 else(advFn p (atGo p l f (l.getD n zn).2.2.1.toNat) (l.getD n zn).1).1
noncomputable def atFn (p:Par)(l:List Nd)(n:Nat):Cx:=atGo p l n n
theorem atGo_fuel {p:Par}{l:List Nd}(hk:Linked l):∀f g n:Nat,n<l.length→n≤f→n≤g→atGo p l f n=atGo p l g n
 |0,0,_,_,_,_=>rfl
 |0,g+1,n,_,h,_=>by rw[atGo,atGo,if_pos (by omega)]
 |f+1,0,n,_,_,h=>by rw[atGo,atGo,if_pos (by omega)]
 |f+1,g+1,n,hn,h1,h2=>by
  rw[atGo,atGo]
  by_cases h0:n=0
  ·rw[if_pos h0,if_pos h0]
  ·obtain⟨p1,p2⟩:=hk n (by omega) hn
   rw[if_neg h0,if_neg h0,atGo_fuel hk f g _ (by omega) (by omega) (by omega)]
theorem at_zero (p:Par)(l:List Nd):atFn p l 0=(startFn p).1:=rfl
theorem at_step {p:Par}{l:List Nd}(hk:Linked l){n:Nat}(h0:0<n)(hn:n<l.length):atFn p l n=(advFn p (atFn p l (l.getD n zn).2.2.1.toNat) (l.getD n zn).1).1:=by
 obtain⟨p1,p2⟩:=hk n h0 hn
 obtain⟨m,rfl⟩:∃m,n=m+1:=⟨n-1,by omega⟩
 rw[atFn,atGo,if_neg (by omega),atFn,atGo_fuel hk m (l.getD (m+1) zn).2.2.1.toNat _ (by omega) (by omega) (by omega)]
theorem at_good {p:Par}{l:List Nd}(hp:PGood p)(hl:∀n,n∈l→NdOk n)(hk:Linked l):∀n,n<l.length→CGood (atFn p l n):=by
 intro n
 induction n using Nat.strongRecOn with
 |_ n ih=>
  intro hn
  by_cases h0:n=0
  ·subst h0;exact start_good hp
  ·obtain⟨p1,p2⟩:=hk n (by omega) hn
   rw[at_step hk (by omega) hn]
   exact adv_good ⟨hp,ih _ (by omega) (by omega),(get_at zn hl hn).1⟩
def YAt.pre (k:Nat)(p:Par)(t:Tre)(n:Int):Prop:=PGood p∧TreOk t∧Linked t.1∧0≤n∧n<t.1.length∧n.toNat<k
noncomputable def YAt.fn (p:Par)(t:Tre)(n:Int):Cx:=atFn p t.1 n.toNat
def YAt.can (p:Par)(t:Tre)(n:Int):Prop:=∃k,YAt.pre k p t n
theorem YAt.none {p:Par}{t:Tre}{n:Int}:¬YAt.pre 0 p t n:=fun h=>by have:=h.2.2.2.2.2;omega
def YAt.VC (n:Nat):Prop:=∀(x0:Par) (x1:Tre) (x2:Int),YAt.pre (n+1) x0 x1 x2→(let v6h:Cx:=zcx
 (((x2==(0:Int))=true→VStart.pre x0∧(let v7h:Cx:=zcx
 (Ret1 ((VStart.fn x0).1) (YAt.fn x0 x1 x2))))∧((x2==(0:Int))=false→(0≤x2∧x2<(x1.1.length:Int))∧(let v28:Int:=(x1.1.getD (Int.toNat x2) zn).2.2.1
 YAt.pre n x0 x1 v28∧(0≤x2∧x2<(x1.1.length:Int))∧(let v35:Hdr:=(x1.1.getD (Int.toNat x2) zn).1
 VAdvance.pre x0 (YAt.fn x0 x1 v28) v35∧(let v9h:Cx:=zcx
 (Ret1 ((VAdvance.fn x0 (YAt.fn x0 x1 v28) v35).1) (YAt.fn x0 x1 x2))))))))
theorem YAt.vc :∀n,YAt.VC n:=by
 rintro k p t n ⟨hp,ht,hk,h0,hn,hf⟩
 simp only[VStart.fn,VAdvance.fn,YAt.fn,ret1]
 refine⟨fun hz=>⟨hp, ?_⟩,fun hz=> ?_⟩
 ·have hz:n=0:=by simpa using hz
  subst hz;rfl
 ·have hz:n≠0:=by simpa using hz
  obtain⟨p1,p2⟩:=hk n.toNat (by omega) (by omega)
  refine⟨⟨h0,hn⟩,⟨hp,ht,hk,p1,by omega,by omega⟩,⟨h0,hn⟩,⟨hp,at_good hp ht.1 hk _ (by omega),(get_at zn ht.1 (by omega)).1⟩, ?_⟩
  rw[at_step hk (n:=n.toNat) (by omega) (by omega)]
theorem step_ext {p:Par}{l:List Nd}{cs cs':List Cx}{i:Nat}(h:∀k,k<i→cs.getD k zcx=cs'.getD k zcx)(hs:stepOk p l cs i):stepOk p l cs' i∧nextC p l cs i=nextC p l cs' i:=by
 obtain⟨h1,h2,h3,h4,h5⟩:=hs
 have e:=h (l.getD i zn).2.2.1.toNat (by omega)
 exact⟨⟨h1,h2,h3,by rw[←e];exact h4,h5⟩,by rw[nextC,nextC,e]⟩
theorem getD_app {α:Type}(d:α){a b:List α}{k:Nat}(h:k<a.length):(a++b).getD k d=a.getD k d:=by
 rw[List.getD_eq_getElem?_getD,List.getD_eq_getElem?_getD,List.getElem?_append_left h]
theorem getD_last {α:Type}(d:α)(a:List α)(x:α):(a++[x]).getD a.length d=x:=by
 rw[List.getD_eq_getElem?_getD,List.getElem?_append_right (Nat.le_refl _),Nat.sub_self];rfl
theorem ctxGo_spec {p:Par}{l:List Nd}:∀(k:Nat) (cs cs':List Cx),ctxGo p l k cs=some cs'→
 cs'.length=cs.length+k∧(∃r,cs'=cs++r)∧∀i,cs.length≤i→i<cs'.length→stepOk p l cs' i∧cs'.getD i zcx=nextC p l cs' i
 |0,cs,cs',h=>by
  rw[ctxGo,Option.some.injEq] at h
  subst h
  exact⟨rfl,⟨[],by simp⟩,fun i h1 h2=>by omega⟩
 |k+1,cs,cs',h=>by
  rw[ctxGo] at h
  split at h
  ·rename_i hs
   obtain⟨h1,⟨r,hr⟩,h3⟩:=ctxGo_spec k _ _ h
   rw[List.length_append,List.length_singleton] at h1
   refine⟨by omega,⟨_::r,by rw[hr,List.append_assoc];rfl⟩,fun i g1 g2=> ?_⟩
   by_cases e:i=cs.length
   ·subst e
    have hx:=step_ext (cs':=cs') (fun k hk=>by rw[hr,List.append_assoc,getD_app zcx hk]) hs
    refine⟨hx.1, ?_⟩
    rw[←hx.2,hr,getD_app zcx (by rw[List.length_append,List.length_singleton];omega),getD_last]
   ·exact h3 i (by rw[List.length_append,List.length_singleton];omega) g2
  ·cases h
structure Valid15 (p:Par)(t:Tre)(cs:List Cx):Prop where
 fit:fitT p t.1
 len:cs.length=t.1.length
 zero:cs.getD 0 zcx=(startFn p).1
 step:∀i,0<i→i<t.1.length→stepOk p t.1 cs i∧cs.getD i zcx=nextC p t.1 cs i
theorem valid_ctx {p:Par}{t:Tre}{cs:List Cx}(h:ctxAll p t.1=some cs):Valid15 p t cs:=by
 by_cases hf:fitT p t.1
 ·rw[ctxAll_fit hf] at h
  have hpos:=hf.2.1
  obtain⟨h1,⟨r,hr⟩,h3⟩:=ctxGo_spec _ _ _ h
  rw[List.length_singleton] at h1
  exact⟨hf,by omega,by rw[hr];rfl,fun i g1 g2=>h3 i g1 (by omega)⟩
 ·rw[ctxAll_not hf] at h;cases h
theorem Valid15.linked {p:Par}{t:Tre}{cs:List Cx}(h:Valid15 p t cs):Linked t.1:=fun j h1 h2=>⟨(h.step j h1 h2).1.1,(h.step j h1 h2).1.2.1⟩
theorem Valid15.at {p:Par}{t:Tre}{cs:List Cx}(h:Valid15 p t cs):∀n,n<t.1.length→cs.getD n zcx=atFn p t.1 n:=by
 intro n
 induction n using Nat.strongRecOn with
 |_ n ih=>
  intro hn
  by_cases h0:n=0
  ·subst h0;rw[h.zero];rfl
  ·obtain⟨s1,s2⟩:=h.step n (by omega) hn
   rw[s2,at_step h.linked (by omega) hn,nextC,ih _ (by have:=s1.1;have:=s1.2.1;omega) (by have:=s1.1;have:=s1.2.1;omega)]
theorem validT_iff {p:Par}{t:Tre}:validT p t=true↔∃cs,ctxAll p t.1=some cs∧t.2.1=firstFn t.1:=by
 unfold validT
 cases h:ctxAll p t.1 with
 |none=>rw[ctxs_none h];simp
 |some cs=>
  rw[ctxs_some h]
  constructor
  ·intro hb;exact⟨cs,rfl,by simpa using hb⟩
  ·rintro⟨_,_,hb⟩;simpa using hb
theorem valid_of {p:Par}{t:Tre}(h:validT p t=true):∃cs,ctxsFn p t=(cs,true)∧Valid15 p t cs∧t.2.1=firstFn t.1:=by
 obtain⟨cs,h1,h2⟩:=validT_iff.1 h
 exact⟨cs,by rw[ctxs_some h1,h2];simp,valid_ctx h1,h2⟩
noncomputable def contextT (p:Par)(t:Tre)(n:Int):Cx×Int:=if validT p t=false then(zcx,6) else if n<0∨(t.1.length:Int)≤n then(zcx,5) else(atFn p t.1 n.toNat,0)
theorem context_good {p:Par}{t:Tre}{n:Int}(hp:PGood p)(ht:TreOk t):CGood (contextT p t n).1:=by
 unfold contextT
 split
 ·exact zcx_good
 ·rename_i hv
  split
  ·exact zcx_good
  ·obtain⟨cs,h1,h2,h3⟩:=valid_of (p:=p) (t:=t) (by simpa using hv)
   exact at_good hp ht.1 h2.linked _ (by omega)
def NContext.pre (p:Par)(t:Tre)(n:Int):Prop:=PGood p∧TreOk t
noncomputable def NContext.fn (p:Par)(t:Tre)(n:Int):Cx×Int:=contextT p t n
def YContext.pre (p:Par)(t:Tre)(n:Int):Prop:=PGood p∧TreOk t
noncomputable def YContext.fn (p:Par)(t:Tre)(n:Int):Cx×Int:=contextT p t n
def YContext.VC :Prop:=∀(x0:Par) (x1:Tre) (x2:Int),YContext.pre x0 x1 x2→(let v6h:Cx:=zcx
 YValid.pre x0 x1∧(((!(YValid.fn x0 x1))=true→(let v12:Cx:=zcx
 (Ret2 v12 (6:Int) (YContext.fn x0 x1 x2))))∧((!(YValid.fn x0 x1))=false→((decide (x2<(0:Int)))=false→(decide (x2<(0:Int)))=false)∧((decide (x2<(0:Int)))=false→(decide (x2<(0:Int)))=false)∧((decide (x2<(0:Int)))=false→(decide (x2<(0:Int)))=false)∧((decide (x2<(0:Int)))=false→(decide (x2<(0:Int)))=false)∧((decide (x2<(0:Int)))=false→(decide (x2<(0:Int)))=false)∧(let v21:Bool:=(bif (decide (x2<(0:Int))) then true else(decide (x2≥(x1.1.length:Int))))
 ((v21=true→(let v22:Cx:=zcx
 (Ret2 v22 (5:Int) (YContext.fn x0 x1 x2))))∧(v21=false→YAt.can x0 x1 x2∧(Ret2 (YAt.fn x0 x1 x2) (0:Int) (YContext.fn x0 x1 x2))))))))
theorem YContext.vc :YContext.VC:=by
 rintro p t n hp
 simp only[imp_self,true_and,YValid.fn,YContext.fn,YAt.fn,ret2,Bool.cond_true_left]
 refine⟨hp,fun h=> ?_,fun h=>⟨fun hb=> ?_,fun hb=> ?_⟩⟩
 ·rw[contextT,if_pos (by simpa using h)]
 ·have hv:validT p t=true:=by simpa using h
  simp only[Bool.or_eq_true,decide_eq_true_eq] at hb
  rw[contextT,if_neg (by simp[hv]),if_pos (by omega)]
 ·have hv:validT p t=true:=by simpa using h
  obtain⟨cs,h1,h2,h3⟩:=valid_of hv
  simp only[Bool.or_eq_false_iff,decide_eq_false_iff_not] at hb
  refine⟨⟨n.toNat+1,hp.1,hp.2,h2.linked,by omega,by omega,by omega⟩, ?_⟩
  rw[contextT,if_neg (by simp[hv]),if_neg (by omega)]
def CloneN.pre (l:List Nd):Prop:=l.length≤5000
def CloneN.fn (l:List Nd):List Nd:=l
def NCopied.pre (t:Tre):Prop:=t.1.length≤5000
def NCopied.fn (t:Tre):Tre:=t
def NCopied.VC :Prop:=∀(x0:Tre),NCopied.pre x0→CloneN.pre x0.1∧(Ret1 ((CloneN.fn x0.1),(x0.2.1,())) (NCopied.fn x0))
theorem NCopied.vc :NCopied.VC:=fun t h=>⟨h,ret1.2 rfl⟩
theorem bestUp_app (l r:List Nd):∀i,i≤l.length→bestUp (l++r) i=bestUp l i
 |0,_=>rfl
 |i+1,h=>by
  have ih:=bestUp_app l r i (by omega)
  have hb:=bestUp_le l i
  simp only[bestUp,ih]
  rw[getD_app zn (show bestUp l i<l.length by omega),getD_app zn (show i<l.length by omega)]
theorem first_app (l:List Nd)(x:Nd)(h:1≤l.length):firstFn (l++[x])=if N4 (l.getD (firstFn l).toNat zn).2.2.2.2.1<N4 x.2.2.2.2.1 then(l.length:Int) else firstFn l:=by
 unfold firstFn
 have hb:bestUp l l.length<l.length:=by
  obtain⟨m,hm⟩:∃m,l.length=m+1:=⟨l.length-1,by omega⟩
  rw[hm];have:=bestUp_lt l m;omega
 rw[List.length_append,List.length_singleton,bestUp,bestUp_app l [x] _ (Nat.le_refl _),getD_app zn hb,getD_last,Int.toNat_natCast]
 split<;>rfl
noncomputable def insNode (p:Par)(t:Tre)(h:Hdr):Nd:=childFn (t.1.getD (findFn t.1 h.2.1).toNat zn) (findFn t.1 h.2.1) h
noncomputable def insertT (p:Par)(t:Tre)(h:Hdr)(now:Int):Tre×Int×Int:=
 if validT p t=false then(zt,0,6) else if 0≤findFn t.1 (hashH h) then(zt,0,150) else if findFn t.1 h.2.1<0 then(zt,0,151)
 else if checkFn p (atFn p t.1 (findFn t.1 h.2.1).toNat) h now≠0 then(zt,0,checkFn p (atFn p t.1 (findFn t.1 h.2.1).toNat) h now)
 else if t.1.length=4096 then(zt,0,4) else((t.1++[insNode p t h],firstFn (t.1++[insNode p t h]),()),t.1.length,0)
def InsPre (p:Par)(t:Tre)(h:Hdr)(now:Int):Prop:=(PGood p∧TreOk t)∧HdrOk h∧U32 now
theorem find_lt {l:List Nd}{x:List Int}(h:0≤findFn l x):(findFn l x).toNat<l.length:=by
 rcases find_spec l x with⟨h1,_⟩|⟨j,h1,h2,_⟩<;>omega
theorem insert_ok {p:Par}{t:Tre}{h:Hdr}{now:Int}(hp:InsPre p t h now):TreOk (insertT p t h now).1:=by
 have hz:TreOk zt:=⟨fun n hn=>(by cases hn),by simp⟩
 unfold insertT
 split
 ·exact hz
 split
 ·exact hz
 split
 ·exact hz
 split
 ·exact hz
 split
 ·exact hz
 rename_i hv _ _ _ _
 obtain⟨cs,h1,h2,h3⟩:=valid_of (p:=p) (t:=t) (by simpa using hv)
 have:=h2.fit.2.2.1
 refine⟨fun n hn=> ?_,by rw[List.length_append,List.length_singleton];omega⟩
 rcases List.mem_append.1 hn with hn|hn
 ·exact hp.1.2.1 n hn
 ·rw[List.mem_singleton.1 hn];exact child_ok hp.2.1
def NInsert.pre (p:Par)(t:Tre)(h:Hdr)(now:Int):Prop:=InsPre p t h now
noncomputable def NInsert.fn (p:Par)(t:Tre)(h:Hdr)(now:Int):Tre×Int×Int:=insertT p t h now
def YInsert.pre (p:Par)(t:Tre)(h:Hdr)(now:Int):Prop:=InsPre p t h now
noncomputable def YInsert.fn (p:Par)(t:Tre)(h:Hdr)(now:Int):Tre×Int×Int:=insertT p t h now
def YInsert.VC :Prop:=∀(x0:Par) (x1:Tre) (x2:Hdr) (x3:Int),YInsert.pre x0 x1 x2 x3→YValid.pre x0 x1∧(((!(YValid.fn x0 x1))=true→(Ret3 zt (0:Int) (6:Int) (YInsert.fn x0 x1 x2 x3)))∧((!(YValid.fn x0 x1))=false→RHdr.pre x2∧YFind.pre x1 (RHdr.fn x2)∧(((decide ((YFind.fn x1 (RHdr.fn x2))≥(0:Int)))=true→(Ret3 zt (0:Int) (150:Int) (YInsert.fn x0 x1 x2 x3)))∧((decide ((YFind.fn x1 (RHdr.fn x2))≥(0:Int)))=false→YFind.pre x1 x2.2.1∧(((decide ((YFind.fn x1 x2.2.1)<(0:Int)))=true→(Ret3 zt (0:Int) (151:Int) (YInsert.fn x0 x1 x2 x3)))∧((decide ((YFind.fn x1 x2.2.1)<(0:Int)))=false→YAt.can x0 x1 (YFind.fn x1 x2.2.1)∧VCheck.pre x0 (YAt.fn x0 x1 (YFind.fn x1 x2.2.1)) x2 x3∧(let v44:Bool:=((VCheck.fn x0 (YAt.fn x0 x1 (YFind.fn x1 x2.2.1)) x2 x3) !=(0:Int))
 ((v44=true→(Ret3 zt (0:Int) (VCheck.fn x0 (YAt.fn x0 x1 (YFind.fn x1 x2.2.1)) x2 x3) (YInsert.fn x0 x1 x2 x3)))∧(v44=false→((((x1.1.length:Int)==(4096:Int))=true→(Ret3 zt (0:Int) (4:Int) (YInsert.fn x0 x1 x2 x3)))∧(((x1.1.length:Int)==(4096:Int))=false→(0≤(YFind.fn x1 x2.2.1)∧(YFind.fn x1 x2.2.1)<(x1.1.length:Int))∧(let v60:Int:=(x1.1.getD (Int.toNat (YFind.fn x1 x2.2.1)) zn).2.2.2.1
 (0≤(YFind.fn x1 x2.2.1)∧(YFind.fn x1 x2.2.1)<(x1.1.length:Int))∧(let v67:(List Int):=(x1.1.getD (Int.toNat (YFind.fn x1 x2.2.1)) zn).2.2.2.2.1
 YWork.pre x2∧QTotal.pre v67 (YWork.fn x2)∧(let v71:Nd:=(x2,((RHdr.fn x2),((YFind.fn x1 x2.2.1),((IntKind.i64.wrap (v60+(1:Int))),((QTotal.fn v67 (YWork.fn x2)),())))))
 (let v14h:Nd:=zn
 Room x1.1.length 160∧Room (x1.1.length+[v71].length) 160∧YFirst.pre (x1.1++[v71])∧(Ret3 ((x1.1++[v71]),((YFirst.fn (x1.1++[v71])),())) (x1.1.length:Int) (0:Int) (YInsert.fn x0 x1 x2 x3)))))))))))))))))
theorem YInsert.vc :YInsert.VC:=by
 rintro p t h now hp
 have hp0:=hp
 obtain⟨hp1,hh,hnow⟩:=hp
 simp only[YValid.fn,RHdr.fn,YFind.fn,VCheck.fn,YAt.fn,YWork.fn,QTotal.fn,YFirst.fn,YInsert.fn,ret3]
 refine⟨hp1,fun hb=> ?_,fun hb=> ?_⟩
 ·rw[insertT,if_pos (by simpa using hb)]
 have hv:validT p t=true:=by simpa using hb
 obtain⟨cs,h1,h2,h3⟩:=valid_of hv
 have hlen:=h2.fit.2.2.1
 have hpos:=h2.fit.2.1
 refine⟨hh,hp1.2.2,fun a1=> ?_,fun a1=>⟨hp1.2.2,fun a2=> ?_,fun a2=> ?_⟩⟩
 ·rw[insertT,if_neg (by simp[hv]),if_pos (of_decide_eq_true a1)]
 ·rw[insertT,if_neg (by simp[hv]),if_neg (of_decide_eq_false a1),if_pos (of_decide_eq_true a2)]
 have a1':¬0≤findFn t.1 (hashH h):=of_decide_eq_false a1
 have a2':¬findFn t.1 h.2.1<0:=of_decide_eq_false a2
 have hk:=find_lt (l:=t.1) (x:=h.2.1) (by omega)
 have hg:=at_good hp1.1 hp1.2.1 h2.linked _ hk
 have hnk:=get_at zn hp1.2.1 hk
 refine⟨⟨(findFn t.1 h.2.1).toNat+1,hp1.1,hp1.2,h2.linked,by omega,by omega,by omega⟩,⟨⟨hp1.1,hg,hh⟩,hnow⟩,fun a3=> ?_,fun a3=>⟨fun a4=> ?_,fun a4=> ?_⟩⟩
 ·rw[insertT,if_neg (by simp[hv]),if_neg a1',if_neg a2',if_pos (by simpa using a3)]
 ·have a4:t.1.length=4096:=by have:(t.1.length:Int)=4096:=by simpa using a4
                              omega
  rw[insertT,if_neg (by simp[hv]),if_neg a1',if_neg a2',if_neg (by simpa using a3),if_pos a4]
 have a4:¬(t.1.length:Int)=4096:=by simpa using a4
 have hins:insertT p t h now=((t.1++[insNode p t h],firstFn (t.1++[insNode p t h]),()),(t.1.length:Int),0):=by
  rw[insertT,if_neg (by simp[hv]),if_neg a1',if_neg a2',if_neg (by simpa using a3),if_neg (by omega)]
 have hok:=insert_ok hp0
 rw[hins] at hok
 exact⟨⟨by omega,by omega⟩,⟨by omega,by omega⟩,hh,⟨hnk.2.2,bitsWork_ok _⟩,room_of (by omega) (by omega),room_of (by simp only[List.length_singleton];omega) (by omega),hok,hins.symm⟩
end Lc
set_option maxRecDepth 100000
namespace Lc
open Go
def cnt (p:Nat→Bool):Nat→Nat
 |0=>0
 |n+1=>cnt p n+(if p n=true then 1 else 0)
theorem cnt_same {p q:Nat→Bool}:∀n,(∀j,j<n→p j=q j)→cnt p n=cnt q n
 |0,_=>rfl
 |n+1,h=>by rw[cnt,cnt,cnt_same n (fun j hj=>h j (by omega)),h n (by omega)]
theorem cnt_less {p q:Nat→Bool}{k:Nat}:∀n,k<n→p k=true→q k=false→(∀j,j≠k→p j=q j)→cnt p n=cnt q n+1
 |0,h,_,_,_=>by omega
 |n+1,h,hp,hq,hj=>by
  rw[cnt,cnt]
  by_cases e:n=k
  ·subst e
   rw[hp,hq,cnt_same n (fun j h=>hj j (by omega))];simp
  ·rw[cnt_less n (by omega) hp hq hj,hj n e];omega
theorem cnt_pos {p:Nat→Bool}:∀n,0<cnt p n→∃j,j<n∧p j=true
 |0,h=>by rw[cnt] at h;omega
 |n+1,h=>by
  rw[cnt] at h
  by_cases e:p n=true
  ·exact⟨n,by omega,e⟩
  ·rw[if_neg e] at h
   obtain⟨j,h1,h2⟩:=cnt_pos n (by omega)
   exact⟨j,by omega,h2⟩
theorem cnt_zero {p:Nat→Bool}:∀n,(∀j,j<n→p j=false)→cnt p n=0
 |0,_=>rfl
 |n+1,h=>by rw[cnt,cnt_zero n (fun j hj=>h j (by omega)),h n (by omega)];rfl
theorem cnt_le {p:Nat→Bool}:∀n,cnt p n≤n
 |0=>Nat.le_refl _
 |n+1=>by have:=cnt_le (p:=p) n;rw[cnt];split<;>omega
theorem gget_set {α:Type}(d:α)(l:List α)(i j:Nat)(x:α):(l.set i x).getD j d=if i=j∧i<l.length then x else l.getD j d:=by
 rw[List.getD_eq_getElem?_getD,List.getElem?_set]
 by_cases e:i=j
 ·subst e
  by_cases h:i<l.length
  ·rw[if_pos rfl,if_pos h,if_pos ⟨rfl,h⟩];rfl
  ·rw[if_pos rfl,if_neg h,if_neg (by omega),List.getD_eq_getElem?_getD,List.getElem?_eq_none (by omega)]
 ·rw[if_neg e,if_neg (by omega),List.getD_eq_getElem?_getD]
def orderedP (t:Tre):Prop:=0≤t.2.1∧t.2.1<t.1.length∧(t.1.getD 0 zn).2.2.1= -1∧Linked t.1
noncomputable def orderedT (t:Tre):Bool:= @decide (orderedP t) (Classical.propDecidable _)
theorem ordered_iff {t:Tre}:orderedT t=true↔orderedP t:=by unfold orderedT;exact @decide_eq_true_iff _ (Classical.propDecidable _)
theorem ordered_not {t:Tre}(h:¬orderedP t):orderedT t=false:=by
 cases hq:orderedT t with
 |false=>rfl
 |true=>exact absurd (ordered_iff.1 hq) h
def NOrdered.pre (t:Tre):Prop:=t.1.length≤1000000000
noncomputable def NOrdered.fn (t:Tre):Bool:=orderedT t
def NOrdered.inv4 (t:Tre)(i:Int):Prop:=0≤i∧i+1≤t.1.length∧(0≤t.2.1∧t.2.1<t.1.length∧(t.1.getD 0 zn).2.2.1= -1)∧∀j:Nat,0<j→j≤i.toNat→0≤(t.1.getD j zn).2.2.1∧(t.1.getD j zn).2.2.1<j
def NOrdered.mes4 (t:Tre)(i:Int):Nat:=(t.1.length-i).toNat
def NOrdered.VC :Prop:=∀(x0:Tre),NOrdered.pre x0→((decide (x0.2.1<(0:Int)))=false→(decide (x0.2.1<(0:Int)))=false)∧((decide (x0.2.1<(0:Int)))=false→(decide (x0.2.1<(0:Int)))=false)∧((decide (x0.2.1<(0:Int)))=false→(decide (x0.2.1<(0:Int)))=false)∧((decide (x0.2.1<(0:Int)))=false→(decide (x0.2.1<(0:Int)))=false)∧((decide (x0.2.1<(0:Int)))=false→(decide (x0.2.1<(0:Int)))=false)∧((decide (x0.2.1<(0:Int)))=false→(decide (x0.2.1<(0:Int)))=false)∧(let v15:Bool:=(bif (decide (x0.2.1<(0:Int))) then true else(decide (x0.2.1≥(x0.1.length:Int))))
 (v15=false→v15=false)∧(v15=false→v15=false)∧(v15=false→(0≤(0:Int)∧(0:Int)<(x0.1.length:Int)))∧(v15=false→v15=false)∧(v15=false→v15=false)∧(v15=false→v15=false)∧(v15=false→v15=false)∧(let v23:Bool:=(bif v15 then true else((x0.1.getD (Int.toNat (0:Int)) zn).2.2.1 !=(-1:Int)))
 ((v23=true→(Ret1 false (NOrdered.fn x0)))∧(v23=false→(0≤(1:Int)∧(1:Int)≤(x0.1.length:Int)∧(x0.1.length:Int)≤(x0.1.length:Int))∧(let v26:(List Nd):=((x0.1.drop (Int.toNat (1:Int))).take ((Int.toNat (x0.1.length:Int))-(Int.toNat (1:Int))))
 (NOrdered.inv4 x0 (0:Int)∧∀(v28:Int),NOrdered.inv4 x0 v28→(((decide (v28<(v26.length:Int)))=true→(0≤v28∧v28<(v26.length:Int))∧(let v32:Nd:=(v26.getD (Int.toNat v28) zn)
 (let v4h:Nd:=zn
 ((decide (v32.2.2.1<(0:Int)))=false→(decide (v32.2.2.1<(0:Int)))=false)∧((decide (v32.2.2.1<(0:Int)))=false→(decide (v32.2.2.1<(0:Int)))=false)∧((decide (v32.2.2.1<(0:Int)))=false→(decide (v32.2.2.1<(0:Int)))=false)∧((decide (v32.2.2.1<(0:Int)))=false→(decide (v32.2.2.1<(0:Int)))=false)∧(let v41:Bool:=(bif (decide (v32.2.2.1<(0:Int))) then true else(decide (v32.2.2.1>v28)))
 ((v41=true→(Ret1 false (NOrdered.fn x0)))∧(v41=false→(NOrdered.inv4 x0 (IntKind.i64.wrap (v28+(1:Int)))∧NOrdered.mes4 x0 (IntKind.i64.wrap (v28+(1:Int)))<NOrdered.mes4 x0 v28)))))))∧((decide (v28<(v26.length:Int)))=false→(Ret1 true (NOrdered.fn x0))))))))))
theorem tail_len (l:List Nd)(h:1≤l.length):((l.drop (Int.toNat 1)).take ((Int.toNat (l.length:Int))-(Int.toNat 1))).length=l.length-1:=by
 rw[List.length_take,List.length_drop,Int.toNat_natCast]
 show min (l.length-1) (l.length-1)=_
 omega
theorem tail_get (l:List Nd){i:Nat}(h:i+1<l.length):((l.drop (Int.toNat 1)).take ((Int.toNat (l.length:Int))-(Int.toNat 1))).getD i zn=l.getD (i+1) zn:=by
 rw[List.getD_eq_getElem?_getD,List.getElem?_take_of_lt (by rw[Int.toNat_natCast];show i<l.length-1;omega),List.getElem?_drop,List.getD_eq_getElem?_getD]
 show(l[1+i]?).getD zn=_
 rw[Nat.add_comm]
theorem NOrdered.vc :NOrdered.VC:=by
 intro t ht
 have ht:t.1.length≤1000000000:=ht
 simp only[imp_self,true_and,NOrdered.fn,ret1,Bool.cond_true_left]
 refine⟨fun h=> ?_,fun h=> ?_,fun h=> ?_⟩
 ·simp only[Bool.or_eq_false_iff,decide_eq_false_iff_not] at h;omega
 ·symm
  refine ordered_not (fun hp=> ?_)
  obtain⟨h1,h2,h3,_⟩:=hp
  simp only[Bool.or_eq_true,decide_eq_true_eq,bne_iff_ne] at h
  rcases h with(h|h)|h
  ·omega
  ·omega
  ·exact h h3
 simp only[Bool.or_eq_false_iff,decide_eq_false_iff_not,bne_eq_false_iff_eq] at h
 obtain⟨⟨h1,h2⟩,h3⟩:=h
 have hl:1≤t.1.length:=by omega
 simp only[tail_len t.1 hl]
 refine⟨⟨by omega,by omega,by omega⟩,⟨by omega,by omega,⟨by omega,by omega,h3⟩,fun j a b=>by simp at b;omega⟩, ?_⟩
 rintro i ⟨k1,k2,k3,k4⟩
 refine⟨fun hc=> ?_,fun hc=> ?_⟩
 ·have hc:=of_decide_eq_true hc
  rw[tail_get t.1 (i:=i.toNat) (by omega),i64w (by omega) (by omega)]
  refine⟨⟨k1,by omega⟩,fun hb=> ?_,fun hb=>⟨⟨by omega,by omega,k3,fun j a b=> ?_⟩,by simp only[NOrdered.mes4];omega⟩⟩
  ·symm
   refine ordered_not (fun hp=> ?_)
   have:=hp.2.2.2 (i.toNat+1) (by omega) (by omega)
   simp only[Bool.or_eq_true,decide_eq_true_eq] at hb
   omega
  ·simp only[Bool.or_eq_false_iff,decide_eq_false_iff_not] at hb
   by_cases e:j=i.toNat+1
   ·subst e;omega
   ·exact k4 j a (by omega)
 ·have hc:=of_decide_eq_false hc
  symm
  exact ordered_iff.2 ⟨k3.1,k3.2.1,k3.2.2,fun j a b=>k4 j a (by omega)⟩
def pathGo (l:List Nd):Nat→Nat→List Nat
 |0,_=>[0]
 |f+1,n=>if n=0 then[0] else n::pathGo l f (l.getD n zn).2.2.1.toNat
def pathFn (l:List Nd)(n:Nat):List Nat:=pathGo l n n
def marksOf (l:List Nd)(ps:List Nat):List Bool:=ps.foldl (fun ms i=>ms.set i true) (List.replicate l.length false)
def marksT (t:Tre):List Bool:=marksOf t.1 (pathFn t.1 t.2.1.toNat)
def sideN (t:Tre):Nat:=cnt (fun i=> !(marksT t).getD i false) t.1.length
theorem pathGo_fuel {l:List Nd}(hk:Linked l):∀f g n:Nat,n<l.length→n≤f→n≤g→pathGo l f n=pathGo l g n
 |0,0,_,_,_,_=>rfl
 |0,g+1,n,_,h,_=>by rw[pathGo,pathGo,if_pos (by omega)]
 |f+1,0,n,_,_,h=>by rw[pathGo,pathGo,if_pos (by omega)]
 |f+1,g+1,n,hn,h1,h2=>by
  rw[pathGo,pathGo]
  by_cases h0:n=0
  ·rw[if_pos h0,if_pos h0]
  ·obtain⟨p1,p2⟩:=hk n (by omega) hn
   rw[if_neg h0,if_neg h0,pathGo_fuel hk f g _ (by omega) (by omega) (by omega)]
theorem path_zero (l:List Nd):pathFn l 0=[0]:=rfl
theorem path_step {l:List Nd}(hk:Linked l){n:Nat}(h0:0<n)(hn:n<l.length):pathFn l n=n::pathFn l (l.getD n zn).2.2.1.toNat:=by
 obtain⟨p1,p2⟩:=hk n h0 hn
 obtain⟨m,rfl⟩:∃m,n=m+1:=⟨n-1,by omega⟩
 rw[pathFn,pathGo,if_neg (by omega),pathFn,pathGo_fuel hk m (l.getD (m+1) zn).2.2.1.toNat _ (by omega) (by omega) (by omega)]
theorem path_le {l:List Nd}(hk:Linked l):∀n,n<l.length→∀m,m∈pathFn l n→m≤n:=by
 intro n
 induction n using Nat.strongRecOn with
 |_ n ih=>
  intro hn m hm
  by_cases h0:n=0
  ·subst h0;rw[path_zero,List.mem_singleton] at hm;omega
  ·obtain⟨p1,p2⟩:=hk n (by omega) hn
   rw[path_step hk (by omega) hn] at hm
   rcases List.mem_cons.1 hm with rfl|hm
   ·exact Nat.le_refl _
   ·have:=ih _ (by omega) (by omega) m hm;omega
theorem path_up {l:List Nd}(hk:Linked l):∀n,n<l.length→0∈pathFn l n∧∀m,m∈pathFn l n→0<m→(l.getD m zn).2.2.1.toNat∈pathFn l n:=by
 intro n
 induction n using Nat.strongRecOn with
 |_ n ih=>
  intro hn
  by_cases h0:n=0
  ·subst h0;rw[path_zero]
   exact⟨by simp,fun m hm h=>by rw[List.mem_singleton] at hm;omega⟩
  ·obtain⟨p1,p2⟩:=hk n (by omega) hn
   obtain⟨i1,i2⟩:=ih (l.getD n zn).2.2.1.toNat (by omega) (by omega)
   have hself:(l.getD n zn).2.2.1.toNat∈pathFn l (l.getD n zn).2.2.1.toNat:=by
    by_cases hz:(l.getD n zn).2.2.1.toNat=0
    ·rw[hz,path_zero];simp
    ·rw[path_step hk (by omega) (by omega)];simp
   rw[path_step hk (by omega) hn]
   refine⟨List.mem_cons_of_mem _ i1,fun m hm h=> ?_⟩
   rcases List.mem_cons.1 hm with rfl|hm
   ·exact List.mem_cons_of_mem _ hself
   ·exact List.mem_cons_of_mem _ (i2 m hm h)
theorem fold_len (ps:List Nat):∀ms:List Bool,(ps.foldl (fun ms i=>ms.set i true) ms).length=ms.length:=by
 induction ps with
 |nil=>intro ms;rfl
 |cons p r ih=>intro ms;rw[List.foldl_cons,ih,List.length_set]
theorem fold_get (ps:List Nat):∀(ms:List Bool) (i:Nat),i<ms.length→((ps.foldl (fun ms i=>ms.set i true) ms).getD i false=true↔i∈ps∨ms.getD i false=true):=by
 induction ps with
 |nil=>intro ms i h;simp
 |cons p r ih=>
  intro ms i h
  rw[List.foldl_cons,ih _ i (by rw[List.length_set];exact h),gget_set]
  by_cases e:p=i
  ·subst e
   rw[if_pos ⟨rfl,h⟩];simp
  ·rw[if_neg (by omega),List.mem_cons]
   constructor
   ·rintro(h|h)
    ·exact .inl (.inr h)
    ·exact .inr h
   ·rintro((h|h)|h)
    ·exact absurd h.symm e
    ·exact .inl h
    ·exact .inr h
theorem marks_len (t:Tre):(marksT t).length=t.1.length:=by rw[marksT,marksOf,fold_len,List.length_replicate]
theorem marks_get {t:Tre}{i:Nat}(h:i<t.1.length):(marksT t).getD i false=true↔i∈pathFn t.1 t.2.1.toNat:=by
 rw[marksT,marksOf,fold_get _ _ _ (by rw[List.length_replicate];exact h)]
 constructor
 ·rintro(h2|h2)
  ·exact h2
  ·rw[List.getD_eq_getElem?_getD,List.getElem?_replicate] at h2;split at h2<;>cases h2
 ·exact .inl
def NChain.pre (t:Tre):Prop:=orderedP t∧t.1.length≤1000000
def NChain.fn (t:Tre):List Bool×Int:=(marksT t,(sideN t:Int))
noncomputable def sideT (t:Tre):Int:=if orderedT t=false then 0 else(sideN t:Int)
def NSide.pre (t:Tre):Prop:=t.1.length≤1000000
noncomputable def NSide.fn (t:Tre):Int:=sideT t
def NSide.VC :Prop:=∀(x0:Tre),NSide.pre x0→NOrdered.pre x0∧(((!(NOrdered.fn x0))=true→(Ret1 (0:Int) (NSide.fn x0)))∧((!(NOrdered.fn x0))=false→NChain.pre x0∧(Ret1 ((NChain.fn x0).2) (NSide.fn x0))))
theorem NSide.vc :NSide.VC:=by
 intro t ht
 have ht:t.1.length≤1000000:=ht
 simp only[NOrdered.fn,NSide.fn,ret1]
 refine⟨(show t.1.length≤1000000000 by omega),fun h=> ?_,fun h=>⟨⟨ordered_iff.1 (by simpa using h),ht⟩, ?_⟩⟩
 ·rw[sideT,if_pos (by simpa using h)]
 ·rw[sideT,if_neg (by simpa using h)];rfl
def wUp (l:List Nd)(gone:List Bool):Nat→List Nd×List Int
 |0=>([],List.replicate l.length 0)
 |i+1=>
  if gone.getD i false=true then wUp l gone i
  else((wUp l gone i).1++[if 0<i then((l.getD i zn).1,(l.getD i zn).2.1,((wUp l gone i).2.set i ((wUp l gone i).1.length:Int)).getD (l.getD i zn).2.2.1.toNat 0,(l.getD i zn).2.2.2) else l.getD i zn],(wUp l gone i).2.set i ((wUp l gone i).1.length:Int))
theorem wUp_len (l:List Nd)(gone:List Bool):∀i,(wUp l gone i).2.length=l.length
 |0=>List.length_replicate
 |i+1=>by
  rw[wUp];split
  ·exact wUp_len l gone i
  ·rw[List.length_set];exact wUp_len l gone i
theorem wUp_le (l:List Nd)(gone:List Bool):∀i,(wUp l gone i).1.length≤i
 |0=>Nat.le_refl _
 |i+1=>by
  have:=wUp_le l gone i
  rw[wUp];split
  ·omega
  ·rw[List.length_append,List.length_singleton];omega
def withoutT (t:Tre)(gone:List Bool):Tre:=((wUp t.1 gone t.1.length).1,(wUp t.1 gone t.1.length).2.getD t.2.1.toNat 0,())
def NWithout.pre (t:Tre)(gone:List Bool):Prop:=orderedP t∧gone.length=t.1.length∧t.1.length≤1000000
def NWithout.fn (t:Tre)(gone:List Bool):Tre:=withoutT t gone
def NWithout.inv4 (t:Tre)(gone:List Bool)(z u:Tre)(num:List Int)(i:Int):Prop:=0≤i∧i≤t.1.length∧u=((wUp t.1 gone i.toNat).1,0,())∧num=(wUp t.1 gone i.toNat).2
def NWithout.mes4 (t:Tre)(gone:List Bool)(z u:Tre)(num:List Int)(i:Int):Nat:=(t.1.length-i).toNat
def NWithout.VC :Prop:=∀(x0:Tre) (x1:(List Bool)),NWithout.pre x0 x1→(0≤(x0.1.length:Int)∧(x0.1.length:Int)≤(x0.1.length:Int))∧Room ((x0.1.length:Int)).toNat 8∧(NWithout.inv4 x0 x1 zt zt (List.replicate ((x0.1.length:Int)).toNat (0:Int)) (0:Int)∧∀(v4:Tre) (v5:Tre) (v6:(List Int)) (v16:Int),NWithout.inv4 x0 x1 v4 v5 v6 v16→(((decide (v16<(x0.1.length:Int)))=true→(0≤v16∧v16<(x0.1.length:Int))∧(let v20:Nd:=(x0.1.getD (Int.toNat v16) zn)
 (let v8h:Nd:=zn
 (0≤v16∧v16<(x1.length:Int))∧(((x1.getD (Int.toNat v16) false)=true→(NWithout.inv4 x0 x1 v4 v5 v6 (IntKind.i64.wrap (v16+(1:Int)))∧NWithout.mes4 x0 x1 v4 v5 v6 (IntKind.i64.wrap (v16+(1:Int)))<NWithout.mes4 x0 x1 v4 v5 v6 v16))∧((x1.getD (Int.toNat v16) false)=false→(0≤v16∧v16<(v6.length:Int))∧(((decide (v16>(0:Int)))=true→(0≤v20.2.2.1∧v20.2.2.1<((v6.set (Int.toNat v16) (v5.1.length:Int)).length:Int))∧(let v37:Int:=((v6.set (Int.toNat v16) (v5.1.length:Int)).getD (Int.toNat v20.2.2.1) (0:Int))
 Room (v5.1.length+[(v20.1,(v20.2.1,(v37,v20.2.2.2)))].length) 160∧(NWithout.inv4 x0 x1 v4 ((v5.1++[(v20.1,(v20.2.1,(v37,v20.2.2.2)))]),v5.2) (v6.set (Int.toNat v16) (v5.1.length:Int)) (IntKind.i64.wrap (v16+(1:Int)))∧NWithout.mes4 x0 x1 v4 ((v5.1++[(v20.1,(v20.2.1,(v37,v20.2.2.2)))]),v5.2) (v6.set (Int.toNat v16) (v5.1.length:Int)) (IntKind.i64.wrap (v16+(1:Int)))<NWithout.mes4 x0 x1 v4 v5 v6 v16)))∧((decide (v16>(0:Int)))=false→Room (v5.1.length+[v20].length) 160∧(NWithout.inv4 x0 x1 v4 ((v5.1++[v20]),v5.2) (v6.set (Int.toNat v16) (v5.1.length:Int)) (IntKind.i64.wrap (v16+(1:Int)))∧NWithout.mes4 x0 x1 v4 ((v5.1++[v20]),v5.2) (v6.set (Int.toNat v16) (v5.1.length:Int)) (IntKind.i64.wrap (v16+(1:Int)))<NWithout.mes4 x0 x1 v4 v5 v6 v16))))))))∧((decide (v16<(x0.1.length:Int)))=false→(0≤x0.2.1∧x0.2.1<(v6.length:Int))∧(Ret1 (v5.1,((v6.getD (Int.toNat x0.2.1) (0:Int)),v5.2.2)) (NWithout.fn x0 x1)))))
theorem NWithout.vc :NWithout.VC:=by
 rintro t gone ⟨ho,hg,hl⟩
 simp only[NWithout.fn,ret1]
 refine⟨⟨by omega,by omega⟩,room_of (by omega) (by omega),⟨by omega,by omega,rfl,by rw[Int.toNat_natCast];rfl⟩, ?_⟩
 rintro z u num i ⟨k1,k2,rfl,rfl⟩
 have hwl:=wUp_len t.1 gone i.toNat
 have hwe:=wUp_le t.1 gone i.toNat
 have e1:(i+1).toNat=i.toNat+1:=by omega
 refine⟨fun hc=> ?_,fun hc=> ?_⟩
 ·have hc:i<t.1.length:=of_decide_eq_true hc
  rw[i64w (by omega) (by omega)]
  have hmes:∀z u num z' u' num',NWithout.mes4 t gone z u num (i+1)<NWithout.mes4 t gone z' u' num' i:=fun _ _ _ _ _ _=>by simp only[NWithout.mes4];omega
  refine⟨⟨k1,hc⟩,⟨k1,by omega⟩,fun hb=>⟨⟨by omega,by omega, ?_, ?_⟩,hmes _ _ _ _ _ _⟩,fun hb=>⟨⟨k1,by omega⟩,fun hp=> ?_,fun hp=> ?_⟩⟩
  ·rw[e1,wUp,if_pos hb]
  ·rw[e1,wUp,if_pos hb]
  ·have hp:=of_decide_eq_true hp
   obtain⟨p1,p2⟩:=ho.2.2.2 i.toNat (by omega) (by omega)
   refine⟨⟨p1,by rw[List.length_set];omega⟩,room_of (by simp only[List.length_singleton];omega) (by omega),⟨by omega,by omega, ?_, ?_⟩,hmes _ _ _ _ _ _⟩
   ·rw[e1,wUp,if_neg (by rw[hb];decide),if_pos (by omega)]
   ·rw[e1,wUp,if_neg (by rw[hb];decide)]
  ·have hp:=of_decide_eq_false hp
   refine⟨room_of (by simp only[List.length_singleton];omega) (by omega),⟨by omega,by omega, ?_, ?_⟩,hmes _ _ _ _ _ _⟩
   ·rw[e1,wUp,if_neg (by rw[hb];decide),if_neg (by omega)]
   ·rw[e1,wUp,if_neg (by rw[hb];decide)]
 ·have hc:¬i<t.1.length:=of_decide_eq_false hc
  have e:i.toNat=t.1.length:=by omega
  rw[e] at hwl⊢
  exact⟨⟨ho.1,by have:=ho.2.1;omega⟩,rfl⟩
end Lc
set_option maxRecDepth 100000
namespace Lc
open Go
theorem path_nodup {l:List Nd}(hk:Linked l):∀n,n<l.length→(pathFn l n).Nodup:=by
 intro n
 induction n using Nat.strongRecOn with
 |_ n ih=>
  intro hn
  by_cases h0:n=0
  ·subst h0;rw[path_zero];simp
  ·obtain⟨p1,p2⟩:=hk n (by omega) hn
   rw[path_step hk (by omega) hn,List.nodup_cons]
   refine⟨fun hm=> ?_,ih _ (by omega) (by omega)⟩
   have:=path_le hk _ (by omega) n hm
   omega
theorem cnt_true :∀n,cnt (fun _=>true) n=n
 |0=>rfl
 |n+1=>by rw[cnt,cnt_true n];rfl
theorem cnt_left (n:Nat):∀P:List Nat,P.Nodup→(∀k,k∈P→k<n)→cnt (fun i=> !decide (i∈P)) n+P.length=n
 |[],_,_=>by
  rw[cnt_same (q:=fun _=>true) n (fun j _=>by simp),cnt_true];rfl
 |k::r,hd,hl=>by
  obtain⟨h1,h2⟩:=List.nodup_cons.1 hd
  have ih:=cnt_left n r h2 (fun j hj=>hl j (List.mem_cons_of_mem _ hj))
  have hc:=cnt_less (p:=fun i=> !decide (i∈r)) (q:=fun i=> !decide (i∈k::r)) (k:=k) n (hl k (by simp)) (by simp[h1]) (by simp) (fun j hj=>by simp[hj])
  rw[List.length_cons];omega
theorem side_path {t:Tre}(h:orderedP t):(sideN t:Int)=(t.1.length:Int)-(pathFn t.1 t.2.1.toNat).length:=by
 have hb:t.2.1.toNat<t.1.length:=by have:=h.1;have:=h.2.1;omega
 have hc:=cnt_left t.1.length _ (path_nodup h.2.2.2 _ hb) (fun k hk=>by have:=path_le h.2.2.2 _ hb k hk;omega)
 have e:sideN t=cnt (fun i=> !decide (i∈pathFn t.1 t.2.1.toNat)) t.1.length:=by
  unfold sideN
  refine cnt_same _ (fun j hj=> ?_)
  congr 1
  rw[Bool.eq_iff_iff,marks_get hj,decide_eq_true_iff]
 rw[e];omega
theorem repL_bool {F:FH}:∀ms:List Bool,RepL (Rep F .bool) ms (ms.map Value.bool)
 |[]=>rfl
 |b::r=>⟨[.bool b],r.map Value.bool,rfl,rfl,repL_bool r⟩
abbrev NodeT :Ty:= .pair (.pair (.int .u32) (.pair (.arr 32 (.int .u8)) (.pair (.arr 32 (.int .u8)) (.pair (.int .u32) (.pair (.int .u32) (.pair (.int .u32) (.unit))))))) (.pair (.arr 32 (.int .u8)) (.pair (.int .i64) (.pair (.int .i64) (.pair (.arr 4 (.int .u64)) (.unit)))))
theorem node_par {F:FH}(x:Nd)(cs:List Value)(h:Rep F NodeT x cs):cs.length=106∧cs[100]? =some (.int .i64 x.2.2.1):=by
 have hl:=rep_len NodeT x cs h
 obtain⟨c1,c2,rfl,h1,c3,c4,rfl,h2,c5,c6,rfl,h3,h4⟩:=h
 have l1:=rep_len _ _ _ h1
 have l2:=rep_len _ _ _ h2
 have l1:c1.length=68:=l1
 have l2:c3.length=32:=l2
 have h3:c5=[.int .i64 x.2.2.1]:=h3
 subst h3
 refine⟨hl, ?_⟩
 rw[List.getElem?_append_right (by omega),List.getElem?_append_right (by omega),show 100-c1.length-c3.length=0 by omega]
 rfl
theorem nodes_par {F:FH}:∀(l:List Nd) (cs:List Value),RepL (Rep F NodeT) l cs→∀i,i<l.length→cs[i*106+100]? =some (.int .i64 (l.getD i zn).2.2.1)
 |[],_,_,i,hi=>by simp at hi
 |x::r,cs,h,i,hi=>by
  obtain⟨c1,c2,rfl,h1,h2⟩:=h
  obtain⟨l1,l2⟩:=node_par x c1 h1
  cases i with
  |zero=>rw[List.getElem?_append_left (by omega)];exact l2
  |succ i=>
   rw[List.getElem?_append_right (by omega),show(i+1)*106+100-c1.length=i*106+100 by omega]
   exact nodes_par r c2 h2 i (by simpa using hi)
end Lc
