/- The law BranchSyncs: the proof of its condition. -/
import Derived.Test.YtkbnmdjmjjfdmaaBrD
set_option linter.unusedVariables false
set_option linter.unusedSimpArgs false
namespace Lc
open Go
set_option maxRecDepth 100000
noncomputable def synL (v:Int)(seeds:List Int)(n:Int):List (List Int):=BLocator.fn (madeT v seeds) (Int.tmod n ((madeT v seeds).1.length:Int))
noncomputable def synM (v:Int)(seeds:List Int)(n:Int):Int:=meetOf (madeT v seeds) (lineOf (madeT v seeds) (madeT v seeds).2.1) (synL v seeds n)
def BranchSyncs.pre (v:Int)(seeds:List Int)(n:Int):Prop:=(0≤v∧v≤255)∧Bytes seeds∧(0≤n∧n≤255)
def BranchSyncs.fn (v:Int)(seeds:List Int)(n:Int):Bool:=true
def BranchSyncs.inv9 (v:Int)(seeds:List Int)(n:Int)(p:Par)(t:Tre)(c:Cx)(i:Int):Prop:=
 p=madeParams v∧t=madeT v seeds∧0≤i∧i≤synM v seeds n∧c=atFn p t.1 ((lineOf t t.2.1).getD i.toNat 0).toNat
def BranchSyncs.mes9 (v:Int)(seeds:List Int)(n:Int)(p:Par)(t:Tre)(c:Cx)(i:Int):Nat:=(5000-i).toNat
def BranchSyncs.VC :Prop:=∀(x0:Int) (x1:(List Int)) (x2:Int),BranchSyncs.pre x0 x1 x2→LSane.pre∧(((!(LSane.fn))=true→(Ret1 false (BranchSyncs.fn x0 x1 x2)))∧((!(LSane.fn))=false→MParams.pre x0∧(let v7h:Par:=(hz,((List.replicate 4 (0:Int)),((0:Int),((0:Int),((0:Int),((0:Int),([],((0:Int),((0:Int),((0:Int),()))))))))))
 KSome.pre x1 (14:Int)∧MTree.pre (MParams.fn x0) (KSome.fn x1 (14:Int))∧(let v30:Int:=((MTree.fn (MParams.fn x0) (KSome.fn x1 (14:Int))).1.length:Int)
 v30≠0∧BLocator.pre (MTree.fn (MParams.fn x0) (KSome.fn x1 (14:Int))) (Int.tmod (IntKind.i64.wrap x2) v30)∧(let v34:(List (List Int)):=(BLocator.fn (MTree.fn (MParams.fn x0) (KSome.fn x1 (14:Int))) (Int.tmod (IntKind.i64.wrap x2) v30))
 VStart.pre (MParams.fn x0)∧(let v11h:Cx:=zcx
 BMain.pre (MTree.fn (MParams.fn x0) (KSome.fn x1 (14:Int)))∧(let v41:(List Int):=(BMain.fn (MTree.fn (MParams.fn x0) (KSome.fn x1 (14:Int))))
 (0≤(1:Int)∧(1:Int)≤(v41.length:Int)∧(v41.length:Int)≤(v41.length:Int))∧(let v42:(List Int):=((v41.drop (Int.toNat (1:Int))).take ((Int.toNat (v41.length:Int))-(Int.toNat (1:Int))))
 (BranchSyncs.inv9 x0 x1 x2 (MParams.fn x0) (MTree.fn (MParams.fn x0) (KSome.fn x1 (14:Int))) ((VStart.fn (MParams.fn x0)).1) (0:Int)∧∀(v7_1:Par) (v8:Tre) (v11_1:Cx) (v44:Int),BranchSyncs.inv9 x0 x1 x2 v7_1 v8 v11_1 v44→(((decide (v44<(v42.length:Int)))=true→(0≤v44∧v44<(v42.length:Int))∧(0≤(v42.getD (Int.toNat v44) (0:Int))∧(v42.getD (Int.toNat v44) (0:Int))<(v8.1.length:Int))∧(let v53:Int:=(v8.1.getD (Int.toNat (v42.getD (Int.toNat v44) (0:Int))) zn).2.2.2.1
 BMeet.pre v8 v34∧(0≤(BMeet.fn v8 v34)∧(BMeet.fn v8 v34)<(v8.1.length:Int))∧(let v61:Int:=(v8.1.getD (Int.toNat (BMeet.fn v8 v34)) zn).2.2.2.1
 (((decide (v53>v61))=true→BAfter.pre v8 v34 (2000:Int)∧VRun.pre v7_1 v11_1 (BAfter.fn v8 v34 (2000:Int)) (1073741824:Int)∧(let v83:Cx:=(VRun.fn v7_1 v11_1 (BAfter.fn v8 v34 (2000:Int)) (1073741824:Int)).1
 (let v84:Int:=(VRun.fn v7_1 v11_1 (BAfter.fn v8 v34 (2000:Int)) (1073741824:Int)).2.1
 (let v85:Int:=(VRun.fn v7_1 v11_1 (BAfter.fn v8 v34 (2000:Int)) (1073741824:Int)).2.2
 (let v15h:Cx:=zcx
 ((v85==(0:Int))=true→(v85==(0:Int))=true)∧((v85==(0:Int))=true→(v85==(0:Int))=true)∧((v85==(0:Int))=true→(v85==(0:Int))=true)∧((v85==(0:Int))=true→(v85==(0:Int))=true)∧((v85==(0:Int))=true→(v85==(0:Int))=true)∧((v85==(0:Int))=true→(0≤v8.2.1∧v8.2.1<(v8.1.length:Int)))∧((v85==(0:Int))=true→(v85==(0:Int))=true)∧((v85==(0:Int))=true→(v85==(0:Int))=true)∧((v85==(0:Int))=true→(v85==(0:Int))=true)∧((v85==(0:Int))=true→(v85==(0:Int))=true)∧((v85==(0:Int))=true→(v85==(0:Int))=true)∧(let v99:Bool:=(bif (v85==(0:Int)) then(b32 v83.2.1 (v8.1.getD (Int.toNat v8.2.1) zn).2.1) else false)
 (v99=true→v99=true)∧(v99=true→v99=true)∧(v99=true→v99=true)∧(v99=true→v99=true)∧(v99=true→(0≤v8.2.1∧v8.2.1<(v8.1.length:Int)))∧(v99=true→v99=true)∧(v99=true→v99=true)∧(v99=true→v99=true)∧(v99=true→v99=true)∧(v99=true→v99=true)∧(v99=true→v99=true)∧(v99=true→v99=true)∧(v99=true→v99=true)∧(let v113:Bool:=(bif v99 then(v84==(IntKind.i64.wrap ((v8.1.getD (Int.toNat v8.2.1) zn).2.2.2.1-v11_1.1))) else false)
 (Ret1 v113 (BranchSyncs.fn x0 x1 x2)))))))))∧((decide (v53>v61))=false→(0≤(v42.getD (Int.toNat v44) (0:Int))∧(v42.getD (Int.toNat v44) (0:Int))<(v8.1.length:Int))∧(let v71:Hdr:=(v8.1.getD (Int.toNat (v42.getD (Int.toNat v44) (0:Int))) zn).1
 VAdvance.pre v7_1 v11_1 v71∧(BranchSyncs.inv9 x0 x1 x2 v7_1 v8 ((VAdvance.fn v7_1 v11_1 v71).1) (IntKind.i64.wrap (v44+(1:Int)))∧BranchSyncs.mes9 x0 x1 x2 v7_1 v8 ((VAdvance.fn v7_1 v11_1 v71).1) (IntKind.i64.wrap (v44+(1:Int)))<BranchSyncs.mes9 x0 x1 x2 v7_1 v8 v11_1 v44)))))))∧((decide (v44<(v42.length:Int)))=false→BAfter.pre v8 v34 (2000:Int)∧VRun.pre v7_1 v11_1 (BAfter.fn v8 v34 (2000:Int)) (1073741824:Int)∧(let v83_1:Cx:=(VRun.fn v7_1 v11_1 (BAfter.fn v8 v34 (2000:Int)) (1073741824:Int)).1
 (let v84_1:Int:=(VRun.fn v7_1 v11_1 (BAfter.fn v8 v34 (2000:Int)) (1073741824:Int)).2.1
 (let v85_1:Int:=(VRun.fn v7_1 v11_1 (BAfter.fn v8 v34 (2000:Int)) (1073741824:Int)).2.2
 (let v15_1h:Cx:=zcx
 ((v85_1==(0:Int))=true→(v85_1==(0:Int))=true)∧((v85_1==(0:Int))=true→(v85_1==(0:Int))=true)∧((v85_1==(0:Int))=true→(v85_1==(0:Int))=true)∧((v85_1==(0:Int))=true→(v85_1==(0:Int))=true)∧((v85_1==(0:Int))=true→(v85_1==(0:Int))=true)∧((v85_1==(0:Int))=true→(0≤v8.2.1∧v8.2.1<(v8.1.length:Int)))∧((v85_1==(0:Int))=true→(v85_1==(0:Int))=true)∧((v85_1==(0:Int))=true→(v85_1==(0:Int))=true)∧((v85_1==(0:Int))=true→(v85_1==(0:Int))=true)∧((v85_1==(0:Int))=true→(v85_1==(0:Int))=true)∧((v85_1==(0:Int))=true→(v85_1==(0:Int))=true)∧(let v99_1:Bool:=(bif (v85_1==(0:Int)) then(b32 v83_1.2.1 (v8.1.getD (Int.toNat v8.2.1) zn).2.1) else false)
 (v99_1=true→v99_1=true)∧(v99_1=true→v99_1=true)∧(v99_1=true→v99_1=true)∧(v99_1=true→v99_1=true)∧(v99_1=true→(0≤v8.2.1∧v8.2.1<(v8.1.length:Int)))∧(v99_1=true→v99_1=true)∧(v99_1=true→v99_1=true)∧(v99_1=true→v99_1=true)∧(v99_1=true→v99_1=true)∧(v99_1=true→v99_1=true)∧(v99_1=true→v99_1=true)∧(v99_1=true→v99_1=true)∧(v99_1=true→v99_1=true)∧(let v113_1:Bool:=(bif v99_1 then(v84_1==(IntKind.i64.wrap ((v8.1.getD (Int.toNat v8.2.1) zn).2.2.2.1-v11_1.1))) else false)
 (Ret1 v113_1 (BranchSyncs.fn x0 x1 x2)))))))))))))))))))
theorem BranchSyncs.vc :BranchSyncs.VC:=by
 rintro v seeds n ⟨hv,hb,hn⟩
 obtain⟨ht,hval⟩:=madeT_ok hv hb
 have hp:=made_ok hv
 obtain⟨hla,h15⟩:=made_late (l:=seeds) hv
 obtain⟨cs,c1,c2,c3⟩:=valid_of hval
 have hpos:=c2.fit.2.1
 have hlate:U32 1073741824:=⟨by decide,by decide⟩
 have hs:=snd_of hval
 have hbn:Nod (madeT v seeds) (madeT v seeds).2.1:=hs.2.1
 have hg:=hgt_nn hs hbn
 have hbn2:=hbn.2
 have hll:=lineOf_len (madeT v seeds) (madeT v seeds).2.1
 have hT:treeFn (madeParams v) (seeds.take (Int.toNat 14))=madeT v seeds:=rfl
 simp only[imp_self,true_and,LSane.fn,MParams.fn,KSome.fn,MTree.fn,VStart.fn,VAdvance.fn,VRun.fn,BMain.fn,BMeet.fn,BAfter.fn,ret1,BranchSyncs.fn,Bool.not_true,hT,if_pos hs]
 rw[i64w (n:=n) (by omega) (by omega)]
 have hL:BLocator.fn (madeT v seeds) (Int.tmod n ((madeT v seeds).1.length:Int))=synL v seeds n:=rfl
 simp only[hL]
 have hM:meetOf (madeT v seeds) (lineOf (madeT v seeds) (madeT v seeds).2.1) (synL v seeds n)=synM v seeds n:=rfl
 have hmr:=meetOf_rng (madeT v seeds) (lineOf (madeT v seeds) (madeT v seeds).2.1) (by omega) (synL v seeds n)
 rw[hM] at hmr
 have hq1:0≤Int.tmod n ((madeT v seeds).1.length:Int):=Int.tmod_nonneg _ hn.1
 have hq2:Int.tmod n ((madeT v seeds).1.length:Int)<(madeT v seeds).1.length:=Int.tmod_lt_of_pos _ (by omega)
 have hlL:(synL v seeds n).length≤1000000000:=by
  have hk:=hgt_nn hs (n:=Int.tmod n ((madeT v seeds).1.length:Int)) ⟨hq1,hq2⟩
  unfold synL BLocator.fn
  rw[if_pos ⟨hs,hq1,hq2⟩,List.length_map]
  have:=(loc_facts ⟨(hgt (madeT v seeds) (Int.tmod n ((madeT v seeds).1.length:Int))).toNat,by omega⟩).1
  simp only at this
  rw[Int.toNat_of_nonneg hk.1] at this
  omega
 have hmain:((lineOf (madeT v seeds) (madeT v seeds).2.1).drop (Int.toNat 1)).take ((Int.toNat ((lineOf (madeT v seeds) (madeT v seeds).2.1).length:Int))-(Int.toNat 1))=(lineOf (madeT v seeds) (madeT v seeds).2.1).drop 1:=
  List.take_of_length_le (by rw[List.length_drop,Int.toNat_natCast];exact Nat.le_refl _)
 simp only[hmain,hM]
 have hroot:=line_root hs hbn
 have hbest:(lineOf (madeT v seeds) (madeT v seeds).2.1).getD (hgt (madeT v seeds) (madeT v seeds).2.1).toNat 0=(madeT v seeds).2.1:=by
  rw[lineOf_get (by omega),Nat.sub_self];rfl
 refine⟨trivial,fun _=>⟨hv,(show(0:Int)≤14 by omega),⟨hp,fun x hx=>hb x (List.mem_of_mem_take hx),by rw[List.length_take];show min 14 seeds.length≤1000;omega⟩,by omega,by show(madeT v seeds).1.length≤100;omega,hp,trivial,⟨by omega,by omega,by omega⟩,⟨rfl,rfl,by omega,by omega, ?_⟩, ?_⟩⟩
 ·rw[show Int.toNat 0=0 from rfl,hroot];rfl
 rintro p t c i ⟨rfl,rfl,k1,k2,rfl⟩
 obtain⟨m,rfl⟩:∃m:Nat,i=m:=⟨i.toNat,by omega⟩
 have hln:=fun(j:Nat) (hj:(j:Int)≤hgt (madeT v seeds) (madeT v seeds).2.1)=>lineOf_nod hs hbn hj
 have hdl:((lineOf (madeT v seeds) (madeT v seeds).2.1).drop 1).length=(hgt (madeT v seeds) (madeT v seeds).2.1).toNat:=by rw[List.length_drop,hll];omega
 have hdg:((lineOf (madeT v seeds) (madeT v seeds).2.1).drop 1).getD m 0=(lineOf (madeT v seeds) (madeT v seeds).2.1).getD (m+1) 0:=by
  rw[List.getD_eq_getElem?_getD,List.getElem?_drop,Nat.add_comm,←List.getD_eq_getElem?_getD]
 have hcg:∀j:Nat,(j:Int)≤hgt (madeT v seeds) (madeT v seeds).2.1→CGood (atFn (madeParams v) (madeT v seeds).1 ((lineOf (madeT v seeds) (madeT v seeds).2.1).getD j 0).toNat):=fun j hj=>by
  obtain⟨a,b⟩:=hln j hj
  exact at_good hp ht.1 c2.linked _ (by have:=a.1;have:=a.2;omega)
 have hho:∀x,x∈lineOf (madeT v seeds) (madeT v seeds).2.1→HdrOk (hdrAt (madeT v seeds) x):=fun x hx=>by
  obtain⟨j,hj,rfl⟩:=List.getElem_of_mem hx
  obtain⟨a,_⟩:=hln j (by omega)
  rw[List.getD_eq_getElem?_getD,List.getElem?_eq_getElem hj,Option.getD_some] at a
  exact(get_at zn ht.1 (by have:=a.1;have:=a.2;omega)).1
 simp only[Int.toNat_natCast,if_pos hs,hM,hdg]
 have fin:(m:Int)=synM v seeds n→BAfter.pre (madeT v seeds) (synL v seeds n) 2000∧
  RunPre (madeParams v) (atFn (madeParams v) (madeT v seeds).1 ((lineOf (madeT v seeds) (madeT v seeds).2.1).getD m 0).toNat) (afterOf (madeT v seeds) (synL v seeds n) 2000) 1073741824∧
  runFn (madeParams v) (atFn (madeParams v) (madeT v seeds).1 ((lineOf (madeT v seeds) (madeT v seeds).2.1).getD m 0).toNat) (afterOf (madeT v seeds) (synL v seeds n) 2000) 1073741824=
   (atFn (madeParams v) (madeT v seeds).1 (madeT v seeds).2.1.toNat,hgt (madeT v seeds) (madeT v seeds).2.1-m,0)∧
  b32 (atFn (madeParams v) (madeT v seeds).1 (madeT v seeds).2.1.toNat).2.1 ((madeT v seeds).1.getD (madeT v seeds).2.1.toNat zn).2.1=true∧
  (atFn (madeParams v) (madeT v seeds).1 ((lineOf (madeT v seeds) (madeT v seeds).2.1).getD m 0).toNat).1=m:=by
  intro hm
  obtain⟨a,a2⟩:=hln m (by omega)
  have a3:=a.1
  have a4:=a.2
  have hrest:restOf (madeT v seeds) (synL v seeds n)=(lineOf (madeT v seeds) (madeT v seeds).2.1).drop (m+1):=by
   rw[restOf,hM,←hm,show((m:Int)+1).toNat=m+1 by omega]
  have haf:afterOf (madeT v seeds) (synL v seeds n) 2000=((lineOf (madeT v seeds) (madeT v seeds).2.1).drop (m+1)).map (hdrAt (madeT v seeds)):=by
   rw[afterOf,if_pos hs,hrest,List.take_of_length_le (by rw[List.length_drop];show _≤2000;omega)]
  have hrl:=run_line c2 hs hla ((hgt (madeT v seeds) (madeT v seeds).2.1).toNat-m) m (by omega) 0
  rw[show m+((hgt (madeT v seeds) (madeT v seeds).2.1).toNat-m)=(hgt (madeT v seeds) (madeT v seeds).2.1).toNat by omega,hbest] at hrl
  have hf:=(room_ok (c2.room (by omega) ((lineOf (madeT v seeds) (madeT v seeds).2.1).getD m 0).toNat (by omega)).1).1
  refine⟨⟨hlL,by omega⟩,⟨hp,hcg m (by omega),fun h hh=> ?_, ?_,hlate⟩, ?_, ?_, ?_⟩
  ·rw[haf] at hh
   obtain⟨x,hx,rfl⟩:=List.mem_map.1 hh
   exact hho x (List.mem_of_mem_drop hx)
  ·rw[haf,List.length_map,List.length_drop];omega
  ·rw[haf,runFn,if_neg (by rw[hf];decide),hrl]
   congr 2
   omega
  ·rw[c2.hash (by have:=hbn.1;omega)];exact b32_self _
  ·rw[at_height c2 hs _ (by omega),Int.toNat_of_nonneg a3,a2]
 have hend:(m:Int)=synM v seeds n→((hgt (madeT v seeds) (madeT v seeds).2.1-(m:Int))==IntKind.i64.wrap (((madeT v seeds).1.getD (madeT v seeds).2.1.toNat zn).2.2.2.1-(m:Int)))=true:=by
  intro hm
  have e:((madeT v seeds).1.getD (madeT v seeds).2.1.toNat zn).2.2.2.1=hgt (madeT v seeds) (madeT v seeds).2.1:=rfl
  rw[e,i64w (by omega) (by omega),beq_iff_eq]
 refine⟨fun hc=> ?_,fun hc=> ?_⟩
 ·have hc:=of_decide_eq_true hc
  rw[hdl] at hc
  obtain⟨a,a2⟩:=hln (m+1) (by omega)
  obtain⟨b,b2⟩:=hln (synM v seeds n).toNat (by omega)
  have e1:((madeT v seeds).1.getD ((lineOf (madeT v seeds) (madeT v seeds).2.1).getD (m+1) 0).toNat zn).2.2.2.1=((m+1:Nat):Int):=a2
  have e2:((madeT v seeds).1.getD ((lineOf (madeT v seeds) (madeT v seeds).2.1).getD (synM v seeds n).toNat 0).toNat zn).2.2.2.1=(((synM v seeds n).toNat:Nat):Int):=b2
  simp only[e1,e2]
  refine⟨⟨k1,by omega⟩,⟨a.1,a.2⟩,hlL,⟨b.1,b.2⟩,fun hq=> ?_,fun hq=> ?_⟩
  ·have hq:=of_decide_eq_true hq
   have hm:(m:Int)=synM v seeds n:=by omega
   obtain⟨f1,f2,f3,f4,f5⟩:=fin hm
   have f6:=hend hm
   simp only[f3,f4,f5,f6]
   exact⟨f1,f2,fun _=>⟨hbn.1,hbn.2⟩,fun _=>⟨hbn.1,hbn.2⟩,rfl⟩
  ·have hq:=of_decide_eq_false hq
   obtain⟨l1,l2,l3,l4⟩:=line_node c2 hs (j:=m) (by omega)
   rw[i64w (by omega) (by omega)]
   refine⟨⟨a.1,a.2⟩,⟨hp,hcg m (by omega),(get_at zn ht.1 l2).1⟩,⟨rfl,rfl,by omega,by omega, ?_⟩,by simp only[BranchSyncs.mes9];omega⟩
   rw[show((m:Int)+1).toNat=m+1 by omega,l4];rfl
 ·have hc:=of_decide_eq_false hc
  rw[hdl] at hc
  have hm:(m:Int)=synM v seeds n:=by omega
  obtain⟨f1,f2,f3,f4,f5⟩:=fin hm
  have f6:=hend hm
  simp only[f3,f4,f5,f6]
  exact⟨f1,f2,fun _=>⟨hbn.1,hbn.2⟩,fun _=>⟨hbn.1,hbn.2⟩,rfl⟩
end Lc
