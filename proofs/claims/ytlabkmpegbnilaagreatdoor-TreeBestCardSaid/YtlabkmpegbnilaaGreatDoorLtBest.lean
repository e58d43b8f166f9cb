/- The law TreeBest: the proof of its condition. -/
import Derived.Test.YtlabkmpegbnilaaGreatDoorMades
import Derived.Test.YtlabkmpegbnilaaGreatDoorTreeL
set_option linter.unusedVariables false
set_option linter.unusedSimpArgs false
set_option maxRecDepth 100000
namespace Lc
open Go
def TreeBest.pre (v:Int)(seeds:List Int):Prop:=(0≤v∧v≤255)∧Bytes seeds
def TreeBest.fn (v:Int)(seeds:List Int):Bool:=true
def TreeBest.inv6 (v:Int)(seeds:List Int)(p:Par)(t u:Tre)(e i:Int):Prop:=
 p=madeParams v∧t=madeT v seeds∧e=0∧1≤i∧i≤t.1.length∧u=(t.1.take i.toNat,firstFn (t.1.take i.toNat),())∧validT p u=true
def TreeBest.mes6 (v:Int)(seeds:List Int)(p:Par)(t u:Tre)(e i:Int):Nat:=(t.1.length-i).toNat
def TreeBest.inv13 (v:Int)(seeds:List Int)(l:List Nd)(n:Int)(u:Tre)(b:List Int)(i:Int):Prop:=
 0≤i∧i≤n∧u.2.1=firstFn l∧b=(l.getD (bestUp l l.length) zn).2.2.2.2.1
def TreeBest.mes13 (v:Int)(seeds:List Int)(l:List Nd)(n:Int)(u:Tre)(b:List Int)(i:Int):Nat:=(n-i).toNat
def TreeBest.VC :Prop:=∀(x0:Int) (x1:(List Int)),TreeBest.pre x0 x1→ESane.pre∧(((!(ESane.fn))=true→(Ret1 false (TreeBest.fn x0 x1)))∧((!(ESane.fn))=false→EMade.pre x0 x1∧(let v5h:Par:=(hz,((List.replicate 4 (0:Int)),((0:Int),((0:Int),((0:Int),((0:Int),([],((0:Int),((0:Int),((0:Int),()))))))))))
 NStart.pre ((EMade.fn x0 x1).1)∧(TreeBest.inv6 x0 x1 ((EMade.fn x0 x1).1) ((EMade.fn x0 x1).2) ((NStart.fn ((EMade.fn x0 x1).1)).1) ((NStart.fn ((EMade.fn x0 x1).1)).2) (1:Int)∧∀(v5_1:Par) (v6:Tre) (v7:Tre) (v8:Int) (v9:Int),TreeBest.inv6 x0 x1 v5_1 v6 v7 v8 v9→((decide (v9<(v6.1.length:Int)))=true→(decide (v9<(v6.1.length:Int)))=true)∧((decide (v9<(v6.1.length:Int)))=true→(decide (v9<(v6.1.length:Int)))=true)∧(let v35:Bool:=(bif (decide (v9<(v6.1.length:Int))) then(v8==(0:Int)) else false)
 ((v35=true→(0≤v9∧v9<(v6.1.length:Int))∧(let v46:Hdr:=(v6.1.getD (Int.toNat v9) zn).1
 NInsert.pre v5_1 v7 v46 (1073741824:Int)∧(TreeBest.inv6 x0 x1 v5_1 v6 ((NInsert.fn v5_1 v7 v46 (1073741824:Int)).1) ((NInsert.fn v5_1 v7 v46 (1073741824:Int)).2.2) (IntKind.i64.wrap (v9+(1:Int)))∧TreeBest.mes6 x0 x1 v5_1 v6 ((NInsert.fn v5_1 v7 v46 (1073741824:Int)).1) ((NInsert.fn v5_1 v7 v46 (1073741824:Int)).2.2) (IntKind.i64.wrap (v9+(1:Int)))<TreeBest.mes6 x0 x1 v5_1 v6 v7 v8 v9)))∧(v35=false→((v8 !=(0:Int))=false→(v8 !=(0:Int))=false)∧((v8 !=(0:Int))=false→(v8 !=(0:Int))=false)∧((v8 !=(0:Int))=false→(v8 !=(0:Int))=false)∧((v8 !=(0:Int))=false→(v8 !=(0:Int))=false)∧((v8 !=(0:Int))=false→(v8 !=(0:Int))=false)∧((v8 !=(0:Int))=false→(v8 !=(0:Int))=false)∧((v8 !=(0:Int))=false→(v8 !=(0:Int))=false)∧(let v61:Bool:=(bif (v8 !=(0:Int)) then true else((v7.1.length:Int) !=(v6.1.length:Int)))
 ((v61=true→(Ret1 false (TreeBest.fn x0 x1)))∧(v61=false→(0≤v7.2.1∧v7.2.1<(v7.1.length:Int))∧(let v68:(List Int):=(v7.1.getD (Int.toNat v7.2.1) zn).2.2.2.2.1
 (TreeBest.inv13 x0 x1 v7.1 (v7.1.length:Int) v7 v68 (0:Int)∧∀(v7_1:Tre) (v10:(List Int)) (v72:Int),TreeBest.inv13 x0 x1 v7.1 (v7.1.length:Int) v7_1 v10 v72→(((decide (v72<(v7.1.length:Int)))=true→(0≤v72∧v72<(v7.1.length:Int))∧(let v76:Nd:=(v7.1.getD (Int.toNat v72) zn)
 (let v12h:Nd:=zn
 QCmp.pre v76.2.2.2.2.1 v10∧((decide ((QCmp.fn v76.2.2.2.2.1 v10)>(0:Int)))=false→(decide ((QCmp.fn v76.2.2.2.2.1 v10)>(0:Int)))=false)∧((decide ((QCmp.fn v76.2.2.2.2.1 v10)>(0:Int)))=false→(decide ((QCmp.fn v76.2.2.2.2.1 v10)>(0:Int)))=false)∧(((decide ((QCmp.fn v76.2.2.2.2.1 v10)>(0:Int)))=false∧((QCmp.fn v76.2.2.2.2.1 v10)==(0:Int))=true)→((decide ((QCmp.fn v76.2.2.2.2.1 v10)>(0:Int)))=false∧((QCmp.fn v76.2.2.2.2.1 v10)==(0:Int))=true))∧(((decide ((QCmp.fn v76.2.2.2.2.1 v10)>(0:Int)))=false∧((QCmp.fn v76.2.2.2.2.1 v10)==(0:Int))=true)→((decide ((QCmp.fn v76.2.2.2.2.1 v10)>(0:Int)))=false∧((QCmp.fn v76.2.2.2.2.1 v10)==(0:Int))=true))∧(((decide ((QCmp.fn v76.2.2.2.2.1 v10)>(0:Int)))=false∧((QCmp.fn v76.2.2.2.2.1 v10)==(0:Int))=true)→((decide ((QCmp.fn v76.2.2.2.2.1 v10)>(0:Int)))=false∧((QCmp.fn v76.2.2.2.2.1 v10)==(0:Int))=true))∧((decide ((QCmp.fn v76.2.2.2.2.1 v10)>(0:Int)))=false→(decide ((QCmp.fn v76.2.2.2.2.1 v10)>(0:Int)))=false)∧((decide ((QCmp.fn v76.2.2.2.2.1 v10)>(0:Int)))=false→(((QCmp.fn v76.2.2.2.2.1 v10)==(0:Int))=true→((decide ((QCmp.fn v76.2.2.2.2.1 v10)>(0:Int)))=false∧((QCmp.fn v76.2.2.2.2.1 v10)==(0:Int))=true)))∧((decide ((QCmp.fn v76.2.2.2.2.1 v10)>(0:Int)))=false→(decide ((QCmp.fn v76.2.2.2.2.1 v10)>(0:Int)))=false)∧(let v92:Bool:=(bif (decide ((QCmp.fn v76.2.2.2.2.1 v10)>(0:Int))) then true else(bif ((QCmp.fn v76.2.2.2.2.1 v10)==(0:Int)) then(decide (v72<v7_1.2.1)) else false))
 ((v92=true→(Ret1 false (TreeBest.fn x0 x1)))∧(v92=false→(TreeBest.inv13 x0 x1 v7.1 (v7.1.length:Int) v7_1 v10 (IntKind.i64.wrap (v72+(1:Int)))∧TreeBest.mes13 x0 x1 v7.1 (v7.1.length:Int) v7_1 v10 (IntKind.i64.wrap (v72+(1:Int)))<TreeBest.mes13 x0 x1 v7.1 (v7.1.length:Int) v7_1 v10 v72)))))))∧((decide (v72<(v7.1.length:Int)))=false→(Ret1 true (TreeBest.fn x0 x1))))))))))))))))
theorem cmp_test {n m:Nat}{b:Bool}(h:n≤m∧(b=true→n<m)):(bif decide (cmpN n m>0) then true else(bif cmpN n m==0 then b else false))=false:=by
 unfold cmpN
 by_cases h1:n<m
 ·rw[if_pos h1];rfl
 ·rw[if_neg h1,if_neg (by omega)]
  cases b
  ·rfl
  ·exact absurd (h.2 rfl) h1
theorem TreeBest.vc :TreeBest.VC:=by
 rintro v seeds ⟨hv,hb⟩
 obtain⟨ht,hval⟩:=madeT_ok hv hb
 have hp:=made_ok hv
 obtain⟨hla,h15⟩:=made_late (l:=seeds) hv
 obtain⟨cs,c1,c2,c3⟩:=valid_of hval
 have hpos:=c2.fit.2.1
 have hlate:U32 1073741824:=⟨by decide,by decide⟩
 have h0:(startT (madeParams v)).1=((madeT v seeds).1.take (Int.toNat 1),firstFn ((madeT v seeds).1.take (Int.toNat 1)),()):=by
  have e:=take_at zn (show 0<(madeT v seeds).1.length from hpos)
  rw[c2.fit.2.2.2] at e
  rw[startT_fit (made_valid hv),show(Int.toNat 1)=0+1 from rfl,e,List.take_zero,List.nil_append,firstFn,List.length_singleton,bestUp_one];rfl
 simp only[imp_self,true_and,esane,EMade.fn,NStart.fn,NInsert.fn,QCmp.fn,ret1,TreeBest.fn,Bool.not_true]
 refine⟨trivial,fun _=>⟨⟨hv,hb⟩,hp,⟨rfl,rfl,by rw[startT_fit (made_valid hv)],by omega,by omega,h0,start_valid (made_valid hv)⟩, ?_⟩⟩
 rintro p t u e i ⟨rfl,rfl,rfl,k1,k2,k3,k4⟩
 obtain⟨m,rfl⟩:∃m:Nat,i=m:=⟨i.toNat,by omega⟩
 rw[Int.toNat_natCast] at k3
 subst k3
 have htk:TreOk ((madeT v seeds).1.take m,firstFn ((madeT v seeds).1.take m),()):=⟨fun n hn=>ht.1 n (List.mem_of_mem_take hn),by show((madeT v seeds).1.take m).length≤_;rw[List.length_take];omega⟩
 have hlen:((madeT v seeds).1.take m).length=m:=by rw[List.length_take];omega
 refine⟨fun hc=> ?_,fun hc=> ?_⟩
 ·have hc:m<(madeT v seeds).1.length:=by
   rw[Bool.cond_false_right,Bool.and_eq_true] at hc
   have:=of_decide_eq_true hc.1
   omega
  have hst:=best_step c2 hla (by omega) (show 0<m by omega) hc k4
  have hvn:=insert_valid (p:=madeParams v) (t:=((madeT v seeds).1.take m,firstFn ((madeT v seeds).1.take m),())) (h:=((madeT v seeds).1.getD m zn).1) (now:=1073741824) hp (by rw[hst])
  rw[hst] at hvn
  simp only[Int.toNat_natCast,hst]
  rw[i64w (by omega) (by omega)]
  exact⟨⟨by omega,by omega⟩,⟨⟨hp,htk⟩,(get_at zn ht.1 hc).1,hlate⟩,⟨rfl,rfl,rfl,by omega,by omega,by rw[show((m:Int)+1).toNat=m+1 by omega],hvn⟩,by simp only[TreeBest.mes6];omega⟩
 ·have hc:m=(madeT v seeds).1.length:=by
   have:¬(m:Int)<(madeT v seeds).1.length:=fun h=>by
    rw[decide_eq_true h] at hc;cases hc
   omega
  subst hc
  have hl:(madeT v seeds).1.take (madeT v seeds).1.length=(madeT v seeds).1:=List.take_of_length_le (Nat.le_refl _)
  simp only[hl] at htk⊢
  have hfl:=first_lt hpos
  have hft:(firstFn (madeT v seeds).1).toNat=bestUp (madeT v seeds).1 (madeT v seeds).1.length:=Int.toNat_natCast _
  refine⟨fun hq=>by simp at hq,fun _=>⟨⟨by unfold firstFn;omega,by unfold firstFn;omega⟩,⟨by omega,by omega,rfl,by rw[←hft]⟩, ?_⟩⟩
  rintro u b i ⟨j1,j2,j3,rfl⟩
  refine⟨fun hc=> ?_,fun _=>trivial⟩
  have hc:i<(madeT v seeds).1.length:=of_decide_eq_true hc
  obtain⟨q1,q2⟩:=bestUp_max (madeT v seeds).1 (madeT v seeds).1.length i.toNat (by omega)
  refine⟨⟨j1,hc⟩,⟨(get_at zn ht.1 (by omega)).2.2,(get_at zn ht.1 hfl).2.2⟩,fun a b=>⟨a,b⟩,fun hx=> ?_,fun hx=>⟨⟨?_, ?_,j3,rfl⟩, ?_⟩⟩
  ·have e:=cmp_test (b:=decide (i<u.2.1)) ⟨q1,fun h=>q2 (by rw[j3,firstFn] at h;have:=of_decide_eq_true h;omega)⟩
   exact e.symm.trans hx
  ·rw[i64w (by omega) (by omega)];omega
  ·rw[i64w (by omega) (by omega)];show i+1≤((madeT v seeds).1.length:Int);omega
  ·simp only[TreeBest.mes13];rw[i64w (by omega) (by omega)];omega
end Lc
