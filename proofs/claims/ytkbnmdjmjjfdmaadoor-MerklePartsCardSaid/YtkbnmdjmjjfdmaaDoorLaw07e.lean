/- Chapter 07: parts of trees are written alike: the reference's way, and the law. -/
import Derived.Test.YtkbnmdjmjjfdmaaDoorLaw07d
set_option linter.unusedVariables false
set_option linter.unusedSimpArgs false
namespace Lc
open Go
set_option maxRecDepth 10000
theorem mem_cut_at {w:List Bool}{S n j:Nat}(h1:S≤j)(h2:j<S+n)(h3:j<w.length)(h:w.getD j false=true):true∈(w.drop S).take n:=by
 have:((w.drop S).take n)[j-S]? =some true:=by
  rw[List.getElem?_take_of_lt (by omega),List.getElem?_drop,show S+(j-S)=j by omega]
  rw[List.getD_eq_getElem?_getD,List.getElem?_eq_getElem h3,Option.getD_some] at h
  rw[List.getElem?_eq_getElem h3,h]
 exact List.mem_of_getElem? this
theorem not_cut_step {w:List Bool}{S n:Nat}(h:true∉(w.drop S).take n)(hw:w.getD (S+n) false=false):true∉(w.drop S).take (n+1):=by
 intro hm
 obtain⟨j,hj⟩:=List.mem_iff_getElem?.1 hm
 have hjn:j<n+1:=by
  have:=(List.getElem?_eq_some_iff.1 hj).1
  rw[List.length_take] at this;omega
 rw[List.getElem?_take_of_lt hjn] at hj
 by_cases e:j=n
 ·subst e
  rw[List.getElem?_drop] at hj
  rw[List.getD_eq_getElem?_getD,hj] at hw
  cases hw
 ·exact h (List.mem_of_getElem? (i:=j) (by rw[List.getElem?_take_of_lt (by omega)];exact hj))
def RBelow.pre (w:List Bool)(k i:Int):Prop:=w.length≤1000000000∧(0≤k∧k≤10)∧0≤i∧i≤50000
def RBelow.fn (w:List Bool)(k i:Int):Bool:=flg w k.toNat i.toNat
def RBelow.inv2 (w:List Bool)(k i v:Int):Prop:=((i.toNat*2^k.toNat:Nat):Int)≤v∧v≤(((i.toNat+1)*2^k.toNat:Nat):Int)∧true∉(w.drop (i.toNat*2^k.toNat)).take (v.toNat-i.toNat*2^k.toNat)
def RBelow.mes2 (w:List Bool)(k i v:Int):Nat:=((((i.toNat+1)*2^k.toNat:Nat):Int)-v).toNat
def RBelow.VC :Prop:=∀(x0:(List Bool)) (x1:Int) (x2:Int),RBelow.pre x0 x1 x2→0≤x1∧(RBelow.inv2 x0 x1 x2 (ishl .i64 x2 x1)∧∀(v7:Int),RBelow.inv2 x0 x1 x2 v7→0≤x1∧(let v16:Bool:=(decide (v7<(ishl .i64 (IntKind.i64.wrap (x2+(1:Int))) x1)))
 (v16=true→v16=true)∧(v16=true→v16=true)∧(v16=true→v16=true)∧(v16=true→v16=true)∧(((bif v16 then(decide (v7<(x0.length:Int))) else false)=true→(0≤v7∧v7<(x0.length:Int))∧(((x0.getD (Int.toNat v7) false)=true→(Ret1 true (RBelow.fn x0 x1 x2)))∧((x0.getD (Int.toNat v7) false)=false→(RBelow.inv2 x0 x1 x2 (IntKind.i64.wrap (v7+(1:Int)))∧RBelow.mes2 x0 x1 x2 (IntKind.i64.wrap (v7+(1:Int)))<RBelow.mes2 x0 x1 x2 v7))))∧((bif v16 then(decide (v7<(x0.length:Int))) else false)=false→(Ret1 false (RBelow.fn x0 x1 x2))))))
theorem RBelow.vc :RBelow.VC:=by
 rintro w k i ⟨hl,⟨k0,k1⟩,i0,i1⟩
 rw[i64w (n:=i+1) (by omega) (by omega),shl64 i0 k0 k1 (by omega),shl64 (a:=i+1) (by omega) k0 k1 (by omega),show(i+1).toNat=i.toNat+1 by omega]
 have e2:(i.toNat+1)*2^k.toNat=i.toNat*2^k.toNat+2^k.toNat:=by rw[Nat.add_mul,Nat.one_mul]
 have hT:(i.toNat+1)*2^k.toNat≤50001*1024:=Nat.mul_le_mul (by omega) (Nat.pow_le_pow_right (n:=2) (by decide) (show k.toNat≤10 by omega))
 have hfn:RBelow.fn w k i=flg w k.toNat i.toNat:=rfl
 have hp:=Nat.two_pow_pos k.toNat
 simp only[imp_self,true_and,hfn,ret1]
 refine⟨k0,⟨by omega,by omega,by simp⟩, ?_⟩
 rintro v ⟨v1,v2,v3⟩
 rw[e2] at v2
 generalize hS:i.toNat*2^k.toNat=S at*
 have hflg:flg w k.toNat i.toNat=decide (true∈(w.drop S).take (2^k.toNat)):=by rw[flg,cutB,hS]
 rw[hflg,e2]
 refine⟨k0,fun hc=> ?_,fun hc=> ?_⟩
 ·rw[Bool.cond_false_right,Bool.and_eq_true] at hc
  have c1:=of_decide_eq_true hc.1
  have c2:v<w.length:=of_decide_eq_true hc.2
  refine⟨⟨by omega,c2⟩,fun hq=> ?_,fun hq=> ?_⟩
  ·exact(decide_eq_true (mem_cut_at (j:=v.toNat) (by omega) (by omega) (by omega) hq)).symm
  ·rw[i64w (by omega) (by omega)]
   refine⟨⟨by rw[hS];omega,by rw[e2];omega, ?_⟩,by simp only[RBelow.mes2,e2];omega⟩
   rw[hS,show(v+1).toNat-S=v.toNat-S+1 by omega]
   exact not_cut_step v3 (by rw[show S+(v.toNat-S)=v.toNat by omega];exact hq)
 ·have hn:true∉(w.drop S).take (2^k.toNat):=by
   intro hm
   by_cases c1:v<((S+2^k.toNat:Nat):Int)
   ·by_cases c2:v<w.length
    ·rw[decide_eq_true c1,decide_eq_true c2] at hc;cases hc
    ·refine v3 ?_
     rw[List.take_of_length_le (by rw[List.length_drop];omega)]
     exact List.mem_of_mem_take hm
   ·rw[show v.toNat-S=2^k.toNat by omega] at v3
    exact v3 hm
  exact(decide_eq_false hn).symm
def RVisit.pre (n:Nat)(p:Prt)(all:List (List H32))(w:List Bool)(k i:Int):Prop:=WrVisit.pre n (p,(all,(w,()))) k i
noncomputable def RVisit.fn (p:Prt)(all:List (List H32))(w:List Bool)(k i:Int):Prt:=(WrVisit.fn (p,(all,(w,()))) k i).1
def RVisit.can (p:Prt)(all:List (List H32))(w:List Bool)(k i:Int):Prop:=∃n,RVisit.pre n p all w k i
theorem RVisit.none {p:Prt}{y:List (List H32)×(List Bool×(Int×(Int×Unit)))}:¬RVisit.pre 0 p y.1 y.2.1 y.2.2.1 y.2.2.2.1:=fun h=>by have:=h.2;omega
def RVisit.VC (n:Nat):Prop:=∀(x0:(Int×((List Bool)×((List (List Int))×Unit)))) (x1:(List (List (List Int)))) (x2:(List Bool)) (x3:Int) (x4:Int),RVisit.pre (n+1) x0 x1 x2 x3 x4→RBelow.pre x2 x3 x4∧Room (x0.2.1.length+[(RBelow.fn x2 x3 x4)].length) 1∧((!(RBelow.fn x2 x3 x4))=false→(!(RBelow.fn x2 x3 x4))=false)∧((!(RBelow.fn x2 x3 x4))=false→(!(RBelow.fn x2 x3 x4))=false)∧(let v27:Bool:=(bif (!(RBelow.fn x2 x3 x4)) then true else(x3==(0:Int)))
 ((v27=true→(0≤x3∧x3<(x1.length:Int))∧(0≤x4∧x4<((x1.getD (Int.toNat x3) []).length:Int))∧(let v36:(List Int):=((x1.getD (Int.toNat x3) []).getD (Int.toNat x4) (List.replicate 32 (0:Int)))
 Room (x0.2.2.1.length+[v36].length) 32∧(let v5h:(Int×((List Bool)×((List (List Int))×Unit))):=(x0.1,((x0.2.1++[(RBelow.fn x2 x3 x4)]),((x0.2.2.1++[v36]),x0.2.2.2)))
 (v5h=RVisit.fn x0 x1 x2 x3 x4))))∧(v27=false→RVisit.pre n (x0.1,((x0.2.1++[(RBelow.fn x2 x3 x4)]),x0.2.2)) x1 x2 (IntKind.i64.wrap (x3-(1:Int))) (IntKind.i64.wrap ((2:Int)*x4))∧(let v48:(Int×((List Bool)×((List (List Int))×Unit))):=(RVisit.fn (x0.1,((x0.2.1++[(RBelow.fn x2 x3 x4)]),x0.2.2)) x1 x2 (IntKind.i64.wrap (x3-(1:Int))) (IntKind.i64.wrap ((2:Int)*x4)))
 (let v1015048h:(List Bool):=(RVisit.fn (x0.1,((x0.2.1++[(RBelow.fn x2 x3 x4)]),x0.2.2)) x1 x2 (IntKind.i64.wrap (x3-(1:Int))) (IntKind.i64.wrap ((2:Int)*x4))).2.1
 (let v2015048h:(List (List Int)):=(RVisit.fn (x0.1,((x0.2.1++[(RBelow.fn x2 x3 x4)]),x0.2.2)) x1 x2 (IntKind.i64.wrap (x3-(1:Int))) (IntKind.i64.wrap ((2:Int)*x4))).2.2.1
 (let v51:Int:=(IntKind.i64.wrap ((IntKind.i64.wrap ((2:Int)*x4))+(1:Int)))
 (0≤(IntKind.i64.wrap (x3-(1:Int)))∧(IntKind.i64.wrap (x3-(1:Int)))<(x1.length:Int))∧(let v57:Int:=((x1.getD (Int.toNat (IntKind.i64.wrap (x3-(1:Int)))) []).length:Int)
 (((decide (v51<v57))=true→(let v66:Int:=(IntKind.i64.wrap ((IntKind.i64.wrap ((2:Int)*x4))+(1:Int)))
 RVisit.pre n v48 x1 x2 (IntKind.i64.wrap (x3-(1:Int))) v66∧(let v67:(Int×((List Bool)×((List (List Int))×Unit))):=(RVisit.fn v48 x1 x2 (IntKind.i64.wrap (x3-(1:Int))) v66)
 (let v1015067h:(List Bool):=(RVisit.fn v48 x1 x2 (IntKind.i64.wrap (x3-(1:Int))) v66).2.1
 (let v2015067h:(List (List Int)):=(RVisit.fn v48 x1 x2 (IntKind.i64.wrap (x3-(1:Int))) v66).2.2.1
 (v67=RVisit.fn x0 x1 x2 x3 x4))))))∧((decide (v51<v57))=false→(v48=RVisit.fn x0 x1 x2 x3 x4)))))))))))
theorem RVisit.vc :∀n,RVisit.VC n:=by
 intro n x0 all w x1 x2
 obtain⟨c,fl,hs,⟨⟩⟩:=x0
 rintro⟨⟨l,h1,h2,h3,h4,k0,k1,k2,i0,i1,r1,r2⟩,hn⟩
 simp only at h1 h2 h3 r1 r2
 subst h1
 subst h2
 have hlen:(lev x1.toNat l).length≤1024:=by
  have:=(wid_rng (c:=l.length) (by
   have:=lev_lo l x1.toNat 0 (by omega)
   omega) (by omega) x1.toNat).2
  rw[←lev_wid] at this;omega
 have hlo:=lev_lo l x1.toNat x2.toNat (by omega)
 rw[i64w (n:=x1-1) (by omega) (by omega),i64w (n:=2*x2) (by omega) (by omega),i64w (n:=2*x2+1) (by omega) (by omega)]
 have hf:RBelow.fn w x1 x2=flg w x1.toNat x2.toNat:=rfl
 have hpos:=Nat.two_pow_pos x1.toNat
 have hps:2^(x1.toNat+1)=2^x1.toNat+2^x1.toNat:=by rw[Nat.pow_succ];omega
 have hfn:RVisit.fn (↑l.length,(fl,(hs,()))) (levels l) w x1 x2=(↑l.length,(fl++fo w l x1.toNat x2.toNat,(hs++ho w l x1.toNat x2.toNat,()))):=by
  simp only[RVisit.fn,WrVisit.fn,wrt,levels_head]
 have hlev:=levels_lev _ l (Nat.le_refl _) x1.toNat (by omega)
 have hz:(lev x1.toNat l).getD x2.toNat (List.replicate 32 0)=(lev x1.toNat l).getD x2.toNat zeroH:=rfl
 simp only[hf,hfn,imp_self,true_and]
 generalize hg:flg w x1.toNat x2.toNat=f
 refine⟨⟨by omega,⟨k0,k2⟩,i0,by omega⟩,room_of (by simp;omega) (by omega), ?_, ?_⟩
 ·intro hx
  have hx:f=false∨x1=0:=by
   cases f
   ·exact .inl rfl
   ·right;simpa using hx
  simp only[hlev]
  refine⟨⟨k0,by omega⟩,⟨i0,by omega⟩,room_of (by simp;omega) (by omega), ?_⟩
  rw[hz]
  cases hk:x1.toNat with
  |zero=>rw[hk] at hg;simp only[fo,ho,hg]
  |succ k=>
   rw[hk] at hg
   have:f=false:=by
    rcases hx with hx|hx
    ·exact hx
    ·omega
   subst this
   simp only[fo,ho,hg,Bool.false_eq_true,if_false]
 ·intro hx
  obtain⟨rfl,hx⟩:f=true∧x1≠0:=by
   cases f
   ·simp at hx
   ·exact⟨rfl,by simpa using hx⟩
  obtain⟨k,hk⟩:∃k,x1.toNat=k+1:=⟨x1.toNat-1,by omega⟩
  have hk1:(x1-1).toNat=k:=by omega
  have hlk:=levels_lev _ l (Nat.le_refl _) k (by omega)
  have hll:(lev (k+1) l).length=((lev k l).length+1)/2:=mlevel_len _
  rw[hk] at i1 r1 r2 hps hg hlo
  have hpp:2^(k+1)=2^k+2^k:=by rw[Nat.pow_succ];omega
  have hp1:=Nat.two_pow_pos k
  have hok1:RVisit.pre n (↑l.length,(fl++[true],(hs,()))) (levels l) w (x1-1) (2*x2):=by
   refine⟨⟨l,rfl,rfl,h3,h4,by omega,by omega,by omega,by omega,by rw[hk1];omega, ?_, ?_⟩,by omega⟩
   ·simp only[List.length_append,List.length_singleton,hk1];omega
   ·simp only[hk1];omega
  refine⟨hok1, ?_⟩
  have hv1:RVisit.fn (↑l.length,(fl++[true],(hs,()))) (levels l) w (x1-1) (2*x2)=(↑l.length,(fl++[true]++fo w l k (2*x2.toNat),(hs++ho w l k (2*x2.toNat),()))):=by
   simp only[RVisit.fn,WrVisit.fn,wrt,levels_head,hk1,show(2*x2).toNat=2*x2.toNat by omega]
  simp only[hv1,hk1,hlk]
  have hfl:=fo_len w l k (2*x2.toNat)
  have hhl:=ho_len w l k (2*x2.toNat)
  refine⟨⟨by omega,by omega⟩,fun hlt=>⟨⟨⟨l,rfl,rfl,h3,h4,by omega,by omega,by omega,by omega, ?_, ?_, ?_⟩,by omega⟩, ?_⟩,fun hge=> ?_⟩
  ·have hlt:=of_decide_eq_true hlt
   rw[hk1];omega
  ·simp only[List.length_append,List.length_singleton,hk1];omega
  ·simp only[List.length_append,hk1];omega
  ·have hlt:=of_decide_eq_true hlt
   have hv2:∀(a:List Bool) (b:List H32),RVisit.fn (↑l.length,(a,(b,()))) (levels l) w (x1-1) (2*x2+1)=(↑l.length,(a++fo w l k (2*x2.toNat+1),(b++ho w l k (2*x2.toNat+1),()))):=by
    intro a b
    simp only[RVisit.fn,WrVisit.fn,wrt,levels_head,hk1,show(2*x2+1).toNat=2*x2.toNat+1 by omega]
   rw[hv2,hk]
   simp only[fo,ho,hg,if_true]
   rw[if_pos (by omega),if_pos (by omega)]
   simp only[List.append_assoc,List.cons_append,List.nil_append]
  ·have hge:=of_decide_eq_false hge
   rw[hk]
   simp only[fo,ho,hg,if_true]
   rw[if_neg (by omega),if_neg (by omega)]
   simp only[List.append_assoc,List.cons_append,List.nil_append,List.append_nil]
def RPart.pre (l:List H32)(w:List Bool):Prop:=HashesOk l
noncomputable def RPart.fn (l:List H32)(w:List Bool):Prt×Int:=partOf l w
def RPart.VC :Prop:=∀(x0:(List (List Int))) (x1:(List Bool)),RPart.pre x0 x1→(((decide ((x0.length:Int)>(1024:Int)))=true→(Ret2 ((0:Int),([],([],()))) (4:Int) (RPart.fn x0 x1)))∧((decide ((x0.length:Int)>(1024:Int)))=false→((((x0.length:Int)==(0:Int))=true→(Ret2 ((0:Int),([],([],()))) (93:Int) (RPart.fn x0 x1)))∧(((x0.length:Int)==(0:Int))=false→((((x1.length:Int) !=(x0.length:Int))=true→(Ret2 ((0:Int),([],([],()))) (8:Int) (RPart.fn x0 x1)))∧(((x1.length:Int) !=(x0.length:Int))=false→RLevels.pre x0∧(let v33:Int:=(IntKind.i64.wrap (((RLevels.fn x0).length:Int)-(1:Int)))
 RVisit.can ((x0.length:Int),([],([],()))) (RLevels.fn x0) x1 v33 (0:Int)∧(let v34:(Int×((List Bool)×((List (List Int))×Unit))):=(RVisit.fn ((x0.length:Int),([],([],()))) (RLevels.fn x0) x1 v33 (0:Int))
 (let v1015034h:(List Bool):=(RVisit.fn ((x0.length:Int),([],([],()))) (RLevels.fn x0) x1 v33 (0:Int)).2.1
 (let v2015034h:(List (List Int)):=(RVisit.fn ((x0.length:Int),([],([],()))) (RLevels.fn x0) x1 v33 (0:Int)).2.2.1
 (Ret2 v34 (0:Int) (RPart.fn x0 x1))))))))))))
theorem RPart.vc :RPart.VC:=by
 intro l w hp
 simp only[imp_self,true_and,and_true,Bool.cond_true_left,Bool.cond_false_right,Bool.or_eq_true,Bool.or_eq_false_iff,Bool.and_eq_true,Bool.and_eq_false_iff,decide_eq_true_eq,decide_eq_false_iff_not,Bool.not_eq_true',Bool.not_eq_false',beq_iff_eq,bne_iff_ne,ne_eq,beq_eq_false_iff_ne,bne_eq_false_iff_eq,Int.not_lt,Int.not_le,gt_iff_lt,ge_iff_le,Decidable.not_not,Bool.not_eq_true,Bool.not_eq_false]
 refine⟨fun h=>ret2.2 ?_,fun h=>⟨fun h2=>ret2.2 ?_,fun h2=>⟨fun h3=>ret2.2 ?_,fun h3=> ?_⟩⟩⟩
 ·simp only[RPart.fn,partOf];rw[if_pos (by omega)]
 ·simp only[RPart.fn,partOf];rw[if_neg (by omega),if_pos (by omega)]
 ·simp only[RPart.fn,partOf];rw[if_neg (by omega),if_neg (by omega),if_pos (by omega)]
 ·have hll:=levels_lvl _ l (Nat.le_refl _)
  have hl10:=lvl_le 10 (l.length:Int) (by simpa using h)
  have e:((RLevels.fn l).length:Int)-1=lvl l.length:=by simp only[RLevels.fn,hll];omega
  simp only[e]
  rw[i64w (by omega) (by omega)]
  have ht:=lev_top (l:=l) (by omega)
  have hp10:=Nat.pow_le_pow_right (n:=2) (by decide) (show lvl (l.length:Int)+1≤11 by omega)
  refine⟨⟨hp,by omega⟩,⟨lvl l.length+1,⟨l,rfl,rfl,by show w.length=l.length;omega,by omega,by omega,by omega,by omega,by omega,by rw[Int.toNat_natCast];omega, ?_, ?_⟩,by simp⟩,ret2.2 ?_⟩
  ·simp only[List.length_nil,Int.toNat_natCast];omega
  ·simp only[List.length_nil,Int.toNat_natCast];omega
  ·simp only[RPart.fn,partOf]
   rw[if_neg (by omega),if_neg (by omega),if_neg (by omega)]
   simp only[RVisit.fn,WrVisit.fn,wrt,RLevels.fn,levels_head,Int.toNat_natCast,List.nil_append,Int.toNat_zero]
theorem ext_g {α:Type}(d:α){l m:List α}(hl:l.length=m.length)(h:∀i,i<l.length→l.getD i d=m.getD i d):l=m:=by
 refine List.ext_getElem hl (fun i h1 h2=> ?_)
 have:=h i h1
 rwa [List.getD_eq_getElem?_getD,List.getD_eq_getElem?_getD,List.getElem?_eq_getElem h1,List.getElem?_eq_getElem h2,Option.getD_some,Option.getD_some] at this
def RSameH.pre (a b:List H32):Prop:=a.length≤1000000000
def RSameH.fn (a b:List H32):Bool:=decide (a=b)
def RSameH.inv4 (a b:List H32)(i:Int):Prop:=a.length=b.length∧0≤i∧i≤a.length∧∀j:Nat,j<i.toNat→a.getD j (List.replicate 32 0)=b.getD j (List.replicate 32 0)
def RSameH.mes4 (a b:List H32)(i:Int):Nat:=(a.length-i).toNat
def RSameH.VC :Prop:=∀(x0:(List (List Int))) (x1:(List (List Int))),RSameH.pre x0 x1→((((x0.length:Int) !=(x1.length:Int))=true→(Ret1 false (RSameH.fn x0 x1)))∧(((x0.length:Int) !=(x1.length:Int))=false→(RSameH.inv4 x0 x1 (0:Int)∧∀(v13:Int),RSameH.inv4 x0 x1 v13→(((decide (v13<(x0.length:Int)))=true→(0≤v13∧v13<(x0.length:Int))∧(0≤v13∧v13<(x1.length:Int))∧(let v24:Bool:=(!(Ty.beq (.arr 32 (.int .u8)) (x0.getD (Int.toNat v13) (List.replicate 32 (0:Int))) (x1.getD (Int.toNat v13) (List.replicate 32 (0:Int)))))
 ((v24=true→(Ret1 false (RSameH.fn x0 x1)))∧(v24=false→(RSameH.inv4 x0 x1 (IntKind.i64.wrap (v13+(1:Int)))∧RSameH.mes4 x0 x1 (IntKind.i64.wrap (v13+(1:Int)))<RSameH.mes4 x0 x1 v13)))))∧((decide (v13<(x0.length:Int)))=false→(Ret1 true (RSameH.fn x0 x1)))))))
theorem RSameH.vc :RSameH.VC:=by
 intro a b hp
 have hp:a.length≤1000000000:=hp
 simp only[RSameH.fn,ret1]
 refine⟨fun h=> ?_,fun h=> ?_⟩
 ·exact(decide_eq_false (fun e=>by rw[e] at h;simp at h)).symm
 have hl:a.length=b.length:=by
  have:(a.length:Int)=b.length:=by simpa using h
  omega
 refine⟨⟨hl,by omega,by omega,fun j hj=>by omega⟩, ?_⟩
 rintro i ⟨_,k1,k2,k3⟩
 refine⟨fun hc=> ?_,fun hc=> ?_⟩
 ·have hc:i<a.length:=of_decide_eq_true hc
  refine⟨⟨k1,hc⟩,⟨k1,by omega⟩,fun hq=> ?_,fun hq=> ?_⟩
  ·have hne:¬a.getD i.toNat (List.replicate 32 0)=b.getD i.toNat (List.replicate 32 0):=fun e=>by rw[(beq_iff (.arr 32 (.int .u8)) _ _).2 e] at hq;cases hq
   exact(decide_eq_false (fun e=>hne (by rw[e]))).symm
  ·have he:=(beq_iff (.arr 32 (.int .u8)) _ _).1 ((Bool.not_eq_false' _).mp hq)
   rw[i64w (by omega) (by omega)]
   refine⟨⟨hl,by omega,by omega,fun j hj=> ?_⟩,by simp only[RSameH.mes4];omega⟩
   by_cases e:j=i.toNat
   ·subst e;exact he
   ·exact k3 j (by omega)
 ·have hc:¬i<a.length:=of_decide_eq_false hc
  exact(decide_eq_true (ext_g (List.replicate 32 0) hl (fun j hj=>k3 j (by omega)))).symm
def LSame.pre (a b:Prt):Prop:=a.2.1.length≤1000000000∧a.2.2.1.length≤1000000000
def LSame.fn (a b:Prt):Bool:=decide (a.1=b.1∧a.2.1=b.2.1∧a.2.2.1=b.2.2.1)
def LSame.inv4 (a b:Prt)(i:Int):Prop:=(a.1=b.1∧a.2.1.length=b.2.1.length∧a.2.2.1=b.2.2.1)∧0≤i∧i≤a.2.1.length∧∀j:Nat,j<i.toNat→a.2.1.getD j false=b.2.1.getD j false
def LSame.mes4 (a b:Prt)(i:Int):Nat:=(a.2.1.length-i).toNat
def LSame.VC :Prop:=∀(x0:(Int×((List Bool)×((List (List Int))×Unit)))) (x1:(Int×((List Bool)×((List (List Int))×Unit)))),LSame.pre x0 x1→((x0.1 !=x1.1)=false→(x0.1 !=x1.1)=false)∧((x0.1 !=x1.1)=false→(x0.1 !=x1.1)=false)∧((x0.1 !=x1.1)=false→(x0.1 !=x1.1)=false)∧((x0.1 !=x1.1)=false→(x0.1 !=x1.1)=false)∧((x0.1 !=x1.1)=false→(x0.1 !=x1.1)=false)∧((x0.1 !=x1.1)=false→(x0.1 !=x1.1)=false)∧((x0.1 !=x1.1)=false→(x0.1 !=x1.1)=false)∧(let v19:Bool:=(bif (x0.1 !=x1.1) then true else((x0.2.1.length:Int) !=(x1.2.1.length:Int)))
 (v19=false→v19=false)∧(v19=false→v19=false)∧(v19=false→v19=false)∧(v19=false→v19=false)∧(v19=false→RSameH.pre x0.2.2.1 x1.2.2.1)∧(v19=false→v19=false)∧(v19=false→v19=false)∧(((bif v19 then true else(!(RSameH.fn x0.2.2.1 x1.2.2.1)))=true→(Ret1 false (LSame.fn x0 x1)))∧((bif v19 then true else(!(RSameH.fn x0.2.2.1 x1.2.2.1)))=false→(LSame.inv4 x0 x1 (0:Int)∧∀(v31:Int),LSame.inv4 x0 x1 v31→(((decide (v31<(x0.2.1.length:Int)))=true→(0≤v31∧v31<(x0.2.1.length:Int))∧(0≤v31∧v31<(x1.2.1.length:Int))∧(let v44:Bool:=(!(Ty.beq (.bool) (x0.2.1.getD (Int.toNat v31) false) (x1.2.1.getD (Int.toNat v31) false)))
 ((v44=true→(Ret1 false (LSame.fn x0 x1)))∧(v44=false→(LSame.inv4 x0 x1 (IntKind.i64.wrap (v31+(1:Int)))∧LSame.mes4 x0 x1 (IntKind.i64.wrap (v31+(1:Int)))<LSame.mes4 x0 x1 v31)))))∧((decide (v31<(x0.2.1.length:Int)))=false→(Ret1 true (LSame.fn x0 x1))))))))
theorem LSame.vc :LSame.VC:=by
 intro a b ⟨hp1,hp2⟩
 simp only[imp_self,true_and,LSame.fn,RSameH.fn,ret1]
 refine⟨fun _=>hp2,fun h=> ?_,fun h=> ?_⟩
 ·refine(decide_eq_false (fun e=> ?_)).symm
  rw[e.1,e.2.1,e.2.2] at h
  simp at h
 have hh:a.1=b.1∧a.2.1.length=b.2.1.length∧a.2.2.1=b.2.2.1:=by
  by_cases e1:a.1=b.1
  ·by_cases e2:(a.2.1.length:Int)=b.2.1.length
   ·by_cases e3:a.2.2.1=b.2.2.1
    ·exact⟨e1,by omega,e3⟩
    ·rw[e1,e2,bne_self_eq_false,bne_self_eq_false,decide_eq_false e3] at h;cases h
   ·rw[e1,bne_self_eq_false,bne_iff_ne.2 e2] at h;cases h
  ·rw[bne_iff_ne.2 e1] at h;cases h
 refine⟨⟨hh,by omega,by omega,fun j hj=>by omega⟩, ?_⟩
 rintro i ⟨⟨g1,g2,g3⟩,k1,k2,k3⟩
 refine⟨fun hc=> ?_,fun hc=> ?_⟩
 ·have hc:i<a.2.1.length:=of_decide_eq_true hc
  refine⟨⟨k1,hc⟩,⟨k1,by omega⟩,fun hq=> ?_,fun hq=> ?_⟩
  ·have hne:¬a.2.1.getD i.toNat false=b.2.1.getD i.toNat false:=fun e=>by rw[(beq_iff .bool _ _).2 e] at hq;cases hq
   exact(decide_eq_false (fun e=>hne (by rw[e.2.1]))).symm
  ·have he:=(beq_iff .bool _ _).1 ((Bool.not_eq_false' _).mp hq)
   rw[i64w (by omega) (by omega)]
   refine⟨⟨⟨g1,g2,g3⟩,by omega,by omega,fun j hj=> ?_⟩,by simp only[LSame.mes4];omega⟩
   by_cases e:j=i.toNat
   ·subst e;exact he
   ·exact k3 j (by omega)
 ·have hc:¬i<a.2.1.length:=of_decide_eq_false hc
  exact(decide_eq_true ⟨g1,ext_g false g2 (fun j hj=>k3 j (by omega)),g3⟩).symm
def MerkleParts.pre (l:List H32)(w:List Bool):Prop:=HashesOk l
def MerkleParts.fn (l:List H32)(w:List Bool):Bool:=true
def MerkleParts.VC :Prop:=∀(x0:(List (List Int))) (x1:(List Bool)),MerkleParts.pre x0 x1→MSane.pre∧(((!(MSane.fn))=true→(Ret1 false (MerkleParts.fn x0 x1)))∧((!(MSane.fn))=false→Kept.pre x0∧((!(Kept.fn x0))=false→(!(Kept.fn x0))=false)∧((!(Kept.fn x0))=false→(!(Kept.fn x0))=false)∧((!(Kept.fn x0))=false→(!(Kept.fn x0))=false)∧(let v18:Bool:=(bif (!(Kept.fn x0)) then true else(decide ((x1.length:Int)>(50:Int))))
 ((v18=true→(Ret1 true (MerkleParts.fn x0 x1)))∧(v18=false→MPart.pre x0 x1∧RPart.pre x0 x1∧(((MPart.fn x0 x1).2==(RPart.fn x0 x1).2)=true→((MPart.fn x0 x1).2==(RPart.fn x0 x1).2)=true)∧(((MPart.fn x0 x1).2==(RPart.fn x0 x1).2)=true→((MPart.fn x0 x1).2==(RPart.fn x0 x1).2)=true)∧(((MPart.fn x0 x1).2==(RPart.fn x0 x1).2)=true→LSame.pre ((MPart.fn x0 x1).1) ((RPart.fn x0 x1).1))∧(((MPart.fn x0 x1).2==(RPart.fn x0 x1).2)=true→((MPart.fn x0 x1).2==(RPart.fn x0 x1).2)=true)∧(let v38:Bool:=(bif ((MPart.fn x0 x1).2==(RPart.fn x0 x1).2) then(LSame.fn ((MPart.fn x0 x1).1) ((RPart.fn x0 x1).1)) else false)
 (Ret1 v38 (MerkleParts.fn x0 x1))))))))
theorem part_len (l:List H32)(w:List Bool):(partOf l w).1.2.1.length≤1000000000∧(partOf l w).1.2.2.1.length≤1000000000:=by
 unfold partOf
 split
 ·simp
 split
 ·simp
 split
 ·simp
 rename_i h _ _
 have hl10:=lvl_le 10 (l.length:Int) (by simp;omega)
 have h1:=fo_len w l (lvl l.length) 0
 have h2:=ho_len w l (lvl l.length) 0
 have hp10:=Nat.pow_le_pow_right (n:=2) (by decide) (show lvl (l.length:Int)+1≤11 by omega)
 have hp11:=Nat.pow_le_pow_right (n:=2) (by decide) (show lvl (l.length:Int)≤11 by omega)
 exact⟨by show(fo w l (lvl l.length) 0).length≤_;omega,by show(ho w l (lvl l.length) 0).length≤_;omega⟩
theorem MerkleParts.vc :MerkleParts.VC:=by
 intro l w hp
 have hsame:∀p:Prt,LSame.fn p p=true:=fun p=>decide_eq_true ⟨rfl,rfl,rfl⟩
 have e1:MPart.fn l w=partOf l w:=rfl
 have e2:RPart.fn l w=partOf l w:=rfl
 have hm:MSane.fn=true:=rfl
 simp only[imp_self,true_and,e1,e2,hsame,hm,Bool.not_true,beq_self_eq_true,cond_true,ret1,MerkleParts.fn]
 refine⟨trivial,fun _=>⟨trivial,fun _=>trivial,fun _=>⟨hp,hp,fun _=>part_len l w,trivial⟩⟩⟩
end Lc
