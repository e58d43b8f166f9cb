/- The law TreeRecovers: the proof of its condition. -/
import Derived.Test.YtlabkmpegbnilaaGreatDoorMades
import Derived.Test.YtlabkmpegbnilaaGreatDoorTreeJ
import Derived.Test.YtlabkmpegbnilaaGreatDoorTreeL
set_option linter.unusedVariables false
set_option linter.unusedSimpArgs false
set_option maxRecDepth 100000
namespace Lc
open Go
noncomputable def recT (v:Int)(seeds:List Int)(most:Int):Tre:=trimT (madeT v seeds) (most%4)
noncomputable def recC (v:Int)(seeds:List Int)(n most:Int):Cx:=atFn (madeParams v) (recT v seeds most).1 (Int.tmod n ((recT v seeds most).1.length:Int)).toNat
noncomputable def recH (v:Int)(seeds more:List Int)(n most:Int):List Hdr:=headersGo (madeParams v) (recC v seeds n most) (more.take 10)
def TreeRecovers.pre (v:Int)(seeds more:List Int)(n most:Int):Prop:=(0≤v∧v≤255)∧Bytes seeds∧Bytes more∧(0≤n∧n≤255)∧(0≤most∧most≤255)
def TreeRecovers.fn (v:Int)(seeds more:List Int)(n most:Int):Bool:=true
def TreeRecovers.inv10 (v:Int)(seeds more:List Int)(n most:Int)(p:Par)(t:Tre)(last i:Int):Prop:=
 p=madeParams v∧(0≤i∧i≤10)∧TreOk t∧validT p t=true∧(t.1.length:Int)≤15+i∧∃m:Nat,m<t.1.length∧Chn p (atFn p t.1 m) ((recH v seeds more n most).drop i.toNat)∧(last<0∨last=m)
def TreeRecovers.mes10 (v:Int)(seeds more:List Int)(n most:Int)(p:Par)(t:Tre)(last i:Int):Nat:=(100-i).toNat
def TreeRecovers.VC :Prop:=∀(x0:Int) (x1:(List Int)) (x2:(List Int)) (x3:Int) (x4:Int),TreeRecovers.pre x0 x1 x2 x3 x4→ESane.pre∧(((!(ESane.fn))=true→(Ret1 false (TreeRecovers.fn x0 x1 x2 x3 x4)))∧((!(ESane.fn))=false→EMade.pre x0 x1∧(let v11h:Par:=(hz,((List.replicate 4 (0:Int)),((0:Int),((0:Int),((0:Int),((0:Int),([],((0:Int),((0:Int),((0:Int),()))))))))))
 (4:Int)≠0∧NTrim.pre ((EMade.fn x0 x1).2) (IntKind.i64.wrap (Int.tmod x4 (4:Int)))∧(let v34:Tre:=(NTrim.fn ((EMade.fn x0 x1).2) (IntKind.i64.wrap (Int.tmod x4 (4:Int))))
 (v34.1.length:Int)≠0∧NContext.pre ((EMade.fn x0 x1).1) v34 (Int.tmod (IntKind.i64.wrap x3) (v34.1.length:Int))∧(let v45:Cx:=(NContext.fn ((EMade.fn x0 x1).1) v34 (Int.tmod (IntKind.i64.wrap x3) (v34.1.length:Int))).1
 (let v46:Int:=(NContext.fn ((EMade.fn x0 x1).1) v34 (Int.tmod (IntKind.i64.wrap x3) (v34.1.length:Int))).2
 (let v13h:Cx:=zcx
 (((v46 !=(0:Int))=true→(Ret1 false (TreeRecovers.fn x0 x1 x2 x3 x4)))∧((v46 !=(0:Int))=false→KSome.pre x2 (10:Int)∧MHeaders.pre ((EMade.fn x0 x1).1) v45 (KSome.fn x2 (10:Int))∧(let v53h:(List Hdr):=(MHeaders.fn ((EMade.fn x0 x1).1) v45 (KSome.fn x2 (10:Int)))
 (TreeRecovers.inv10 x0 x1 x2 x3 x4 ((EMade.fn x0 x1).1) v34 (-1:Int) (0:Int)∧∀(v11_1:Par) (v12:Tre) (v15:Int) (v55:Int),TreeRecovers.inv10 x0 x1 x2 x3 x4 v11_1 v12 v15 v55→(((decide (v55<(v53h.length:Int)))=true→(0≤v55∧v55<(v53h.length:Int))∧(let v58:Hdr:=(v53h.getD (Int.toNat v55) hz)
 (let v17h:Hdr:=hz
 NInsert.pre v11_1 v12 v58 (1073741824:Int)∧(let v68:Bool:=((NInsert.fn v11_1 v12 v58 (1073741824:Int)).2.2==(150:Int))
 ((v68=true→(Ret1 true (TreeRecovers.fn x0 x1 x2 x3 x4)))∧(v68=false→(let v70:Bool:=((NInsert.fn v11_1 v12 v58 (1073741824:Int)).2.2 !=(0:Int))
 ((v70=true→(Ret1 false (TreeRecovers.fn x0 x1 x2 x3 x4)))∧(v70=false→(0≤v12.2.1∧v12.2.1<(v12.1.length:Int))∧(let v77:(List Int):=(v12.1.getD (Int.toNat v12.2.1) zn).2.2.2.2.1
 (0≤(NInsert.fn v11_1 v12 v58 (1073741824:Int)).2.1∧(NInsert.fn v11_1 v12 v58 (1073741824:Int)).2.1<((NInsert.fn v11_1 v12 v58 (1073741824:Int)).1.1.length:Int))∧(let v85:(List Int):=((NInsert.fn v11_1 v12 v58 (1073741824:Int)).1.1.getD (Int.toNat (NInsert.fn v11_1 v12 v58 (1073741824:Int)).2.1) zn).2.2.2.2.1
 QCmp.pre v85 v77∧((decide ((QCmp.fn v85 v77)>(0:Int)))=true→(decide ((QCmp.fn v85 v77)>(0:Int)))=true)∧((decide ((QCmp.fn v85 v77)>(0:Int)))=true→(decide ((QCmp.fn v85 v77)>(0:Int)))=true)∧((decide ((QCmp.fn v85 v77)>(0:Int)))=true→(decide ((QCmp.fn v85 v77)>(0:Int)))=true)∧((decide ((QCmp.fn v85 v77)>(0:Int)))=true→(decide ((QCmp.fn v85 v77)>(0:Int)))=true)∧(let v94:Bool:=(bif (decide ((QCmp.fn v85 v77)>(0:Int))) then((NInsert.fn v11_1 v12 v58 (1073741824:Int)).1.2.1 !=(NInsert.fn v11_1 v12 v58 (1073741824:Int)).2.1) else false)
 ((v94=true→(Ret1 false (TreeRecovers.fn x0 x1 x2 x3 x4)))∧(v94=false→(TreeRecovers.inv10 x0 x1 x2 x3 x4 v11_1 ((NInsert.fn v11_1 v12 v58 (1073741824:Int)).1) ((NInsert.fn v11_1 v12 v58 (1073741824:Int)).2.1) (IntKind.i64.wrap (v55+(1:Int)))∧TreeRecovers.mes10 x0 x1 x2 x3 x4 v11_1 ((NInsert.fn v11_1 v12 v58 (1073741824:Int)).1) ((NInsert.fn v11_1 v12 v58 (1073741824:Int)).2.1) (IntKind.i64.wrap (v55+(1:Int)))<TreeRecovers.mes10 x0 x1 x2 x3 x4 v11_1 v12 v15 v55)))))))))))))))∧((decide (v55<(v53h.length:Int)))=false→((decide (v15<(0:Int)))=false→(decide (v15<(0:Int)))=false)∧((decide (v15<(0:Int)))=false→(decide (v15<(0:Int)))=false)∧((decide (v15<(0:Int)))=false→(decide (v15<(0:Int)))=false)∧((decide (v15<(0:Int)))=false→(0≤v15∧v15<(v12.1.length:Int)))∧((decide (v15<(0:Int)))=false→(decide (v15<(0:Int)))=false)∧((decide (v15<(0:Int)))=false→(decide (v15<(0:Int)))=false)∧((decide (v15<(0:Int)))=false→(decide (v15<(0:Int)))=false)∧((decide (v15<(0:Int)))=false→(decide (v15<(0:Int)))=false)∧((decide (v15<(0:Int)))=false→(decide (v15<(0:Int)))=false)∧((decide (v15<(0:Int)))=false→(decide (v15<(0:Int)))=false)∧((decide (v15<(0:Int)))=false→(0≤v12.2.1∧v12.2.1<(v12.1.length:Int)))∧((decide (v15<(0:Int)))=false→(decide (v15<(0:Int)))=false)∧((decide (v15<(0:Int)))=false→(decide (v15<(0:Int)))=false)∧((decide (v15<(0:Int)))=false→(decide (v15<(0:Int)))=false)∧((decide (v15<(0:Int)))=false→(decide (v15<(0:Int)))=false)∧((decide (v15<(0:Int)))=false→QCmp.pre ((v12.1.getD (Int.toNat v15) zn).2.2.2.2.1) ((v12.1.getD (Int.toNat v12.2.1) zn).2.2.2.2.1))∧((decide (v15<(0:Int)))=false→(decide (v15<(0:Int)))=false)∧((decide (v15<(0:Int)))=false→(decide (v15<(0:Int)))=false)∧(let v114:Bool:=(bif (decide (v15<(0:Int))) then true else(decide ((QCmp.fn ((v12.1.getD (Int.toNat v15) zn).2.2.2.2.1) ((v12.1.getD (Int.toNat v12.2.1) zn).2.2.2.2.1))≤(0:Int))))
 (Ret1 v114 (TreeRecovers.fn x0 x1 x2 x3 x4))))))))))))))))
theorem TreeRecovers.vc :TreeRecovers.VC:=by
 rintro v seeds more n most ⟨hv,hb,hb2,hn,hm⟩
 obtain⟨ht,hval⟩:=madeT_ok hv hb
 have hp:=made_ok hv
 obtain⟨hla,h15⟩:=made_late (l:=seeds) hv
 have hlate:U32 1073741824:=⟨by decide,by decide⟩
 have e4:Int.tmod most 4=most%4:=Int.tmod_eq_emod_of_nonneg hm.1
 obtain⟨s1,⟨gone,s2,s3⟩,s4,s5⟩:=trim_spec (most:=most%4) hval
 have how:=trim_ok (most:=most%4) hval ht
 have hwl:(trimT (madeT v seeds) (most%4)).1.length≤(madeT v seeds).1.length:=by rw[s3.len];exact cnt_le _
 have hnp:NTrim.pre (madeT v seeds) (most%4):=⟨ht,by omega⟩
 simp only[imp_self,true_and,esane,EMade.fn,NContext.fn,MHeaders.fn,KSome.fn,NInsert.fn,NTrim.fn,QCmp.fn,ret1,TreeRecovers.fn,Bool.not_true,e4]
 rw[i64w (n:=n) (by omega) (by omega),i64w (n:=most%4) (by omega) (by omega)]
 have hrT:trimT (madeT v seeds) (most%4)=recT v seeds most:=rfl
 rw[hrT] at s1 how hwl⊢
 obtain⟨cs,c1,c2,c3⟩:=valid_of s1
 have hpos:=c2.fit.2.1
 have k1:0≤Int.tmod n ((recT v seeds most).1.length:Int):=Int.tmod_nonneg _ hn.1
 have k2:Int.tmod n ((recT v seeds most).1.length:Int)<(recT v seeds most).1.length:=Int.tmod_lt_of_pos _ (by omega)
 have hctx:contextT (madeParams v) (recT v seeds most) (Int.tmod n ((recT v seeds most).1.length:Int))=(recC v seeds n most,0):=by
  rw[contextT,if_neg (by simp[s1]),if_neg (by omega)];rfl
 have hcg:=context_good (n:=Int.tmod n ((recT v seeds most).1.length:Int)) hp how
 rw[hctx] at hcg
 simp only[hctx]
 obtain⟨g1,g2⟩:=headers_ok hp (more.take 10) _ hcg (fun x hx=>hb2 x (List.mem_of_mem_take hx))
 have hrH:headersGo (madeParams v) (recC v seeds n most) (more.take 10)=recH v seeds more n most:=rfl
 have e10:more.take (Int.toNat 10)=more.take 10:=rfl
 have hchn:=headers_chn (p:=madeParams v) (more.take 10) (recC v seeds n most)
 simp only[e10]
 rw[hrH] at g1 g2 hchn⊢
 have hl10:(recH v seeds more n most).length≤10:=by rw[List.length_take] at g2;omega
 refine⟨trivial,fun _=>⟨⟨hv,hb⟩,by decide,hnp,by omega,⟨hp,how⟩,fun hq=>(by simp at hq),fun _=>⟨by show(0:Int)≤10;omega,⟨hp,hcg,fun x hx=>hb2 x (List.mem_of_mem_take hx),by rw[List.length_take];omega⟩,
  ⟨rfl,⟨by omega,by omega⟩,how,s1,by omega,(Int.tmod n ((recT v seeds most).1.length:Int)).toNat,by omega,hchn,.inl (by omega)⟩, ?_⟩⟩⟩
 rintro p t last i ⟨rfl,⟨i1,i2⟩,t1,t2,t3,m,t4,t5,t6⟩
 obtain⟨cv,_,v2,v3⟩:=valid_of t2
 have hbt:=first_lt v2.best
 have hbe:t.2.1.toNat=bestUp t.1 t.1.length:=by rw[v3,firstFn,Int.toNat_natCast]
 have hbi:0≤t.2.1∧t.2.1<t.1.length:=by rw[v3,firstFn];omega
 refine⟨fun hc=> ?_,fun hc=> ?_⟩
 ·have hc:i<(recH v seeds more n most).length:=of_decide_eq_true hc
  have hd:=drop_at hz i1 hc
  rw[hd] at t5
  obtain⟨t5,t7⟩:=t5
  have hh:=get_at hz g1 (i:=i.toNat) (by omega)
  generalize (recH v seeds more n most).getD i.toNat hz=h at*
  have hpre:InsPre (madeParams v) t h 1073741824:=⟨⟨hp,t1⟩,hh,hlate⟩
  have hok:=insert_ok hpre
  rw[i64w (n:=i+1) (by omega) (by omega)]
  refine⟨⟨i1,hc⟩,hpre,fun _=>trivial,fun hq=> ?_⟩
  rcases chn_at hp t2 (by omega) t4 t5 with e|⟨e,e1,e2⟩
  ·rw[e] at hq;cases hq
  rw[e] at hok
  have hx:NdOk (childFn (t.1.getD m zn) m h):=child_ok hh
  simp only[e]
  generalize childFn (t.1.getD m zn) m h=x at*
  have hlen:(t.1++[x]).length=t.1.length+1:=by rw[List.length_append,List.length_singleton]
  refine⟨fun hq=>(by simp at hq),fun _=>⟨hbi,⟨by omega,by omega⟩, ?_,fun hq=> ?_,fun _=>⟨⟨rfl,⟨by omega,by omega⟩,hok,e1,by show((t.1++[x]).length:Int)≤_;omega,t.1.length,by show t.1.length<(t.1++[x]).length;omega, ?_,.inr rfl⟩,by simp only[TreeRecovers.mes10];omega⟩⟩⟩
  ·rw[Int.toNat_natCast,getD_last]
   exact⟨hx.2.2,by rw[hbe];exact(get_at zn t1.1 hbt).2.2⟩
  ·rw[Int.toNat_natCast,getD_last,cmp_pos,Bool.cond_false_right,Bool.and_eq_true] at hq
   have h1:=of_decide_eq_true hq.1
   have h2:=hq.2
   rw[first_app _ _ v2.best,←v3,if_pos h1] at h2
   simp at h2
  ·show Chn (madeParams v) (atFn (madeParams v) (t.1++[x]) t.1.length) _
   rw[e2];exact t7
 ·refine⟨fun hq=> ?_,fun _=>hbi,fun hq=> ?_, ?_⟩
  ·have:=of_decide_eq_false hq;omega
  ·have:=of_decide_eq_false hq
   exact⟨(get_at zn t1.1 (by omega)).2.2,by rw[hbe];exact(get_at zn t1.1 hbt).2.2⟩
  ·by_cases hq:last<0
   ·rw[decide_eq_true hq];rfl
   ·rw[decide_eq_false hq]
    obtain rfl:last=m:=by omega
    rw[hbe,Int.toNat_natCast]
    have:=(bestUp_max t.1 t.1.length m t4).1
    exact decide_eq_true (cmpLe.2 this)
end Lc
