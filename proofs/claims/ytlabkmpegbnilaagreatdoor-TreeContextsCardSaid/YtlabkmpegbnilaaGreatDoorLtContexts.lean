/- The law TreeContexts: the proof of its condition. -/
import Derived.Test.YtlabkmpegbnilaaGreatDoorMades
set_option linter.unusedVariables false
set_option linter.unusedSimpArgs false
set_option maxRecDepth 100000
namespace Lc
open Go
theorem valid_find {p:Par}{t:Tre}(h:validT p t=true){i:Nat}(hi:i<t.1.length):findFn t.1 (t.1.getD i zn).2.1=i:=by
 obtain⟨cs,h1,h2,h3⟩:=valid_of h
 refine find_self hi (fun m hm=> ?_)
 exact(h2.step i (by omega) hi).1.2.2.1 m hm
def TreeContexts.pre (v:Int)(seeds:List Int)(n:Int)(h:List Int):Prop:=(0≤v∧v≤255)∧Bytes seeds
def TreeContexts.fn (v:Int)(seeds:List Int)(n:Int)(h:List Int):Bool:=true
def TreeContexts.inv5 (v:Int)(seeds:List Int)(n:Int)(h:List Int)(p:Par)(t:Tre)(i:Int):Prop:=0≤i∧i≤4∧p=madeParams v∧t=madeT v seeds
def TreeContexts.mes5 (v:Int)(seeds:List Int)(n:Int)(h:List Int)(p:Par)(t:Tre)(i:Int):Nat:=(4-i).toNat
def TreeContexts.inv13 (v:Int)(seeds:List Int)(n:Int)(h:List Int)(l:Int)(t:Tre)(i:Int):Prop:=0≤i∧i≤l∧t=madeT v seeds
def TreeContexts.mes13 (v:Int)(seeds:List Int)(n:Int)(h:List Int)(l:Int)(t:Tre)(i:Int):Nat:=(l-i).toNat
def TreeContexts.VC :Prop:=∀(x0:Int) (x1:(List Int)) (x2:Int) (x3:(List Int)),TreeContexts.pre x0 x1 x2 x3→ESane.pre∧(((!(ESane.fn))=true→(Ret1 false (TreeContexts.fn x0 x1 x2 x3)))∧((!(ESane.fn))=false→EMade.pre x0 x1∧(let v9h:Par:=(hz,((List.replicate 4 (0:Int)),((0:Int),((0:Int),((0:Int),((0:Int),([],((0:Int),((0:Int),((0:Int),()))))))))))
 (let v30:Int:=(IntKind.i64.wrap (((EMade.fn x0 x1).2.1.length:Int)-(1:Int)))
 (let v35:Int:=([x2,(0:Int),v30,((EMade.fn x0 x1).2.1.length:Int)].length:Int)
 (TreeContexts.inv5 x0 x1 x2 x3 ((EMade.fn x0 x1).1) ((EMade.fn x0 x1).2) (0:Int)∧∀(v9_1:Par) (v10:Tre) (v36:Int),TreeContexts.inv5 x0 x1 x2 x3 v9_1 v10 v36→(((decide (v36<v35))=true→(0≤v36∧v36<([x2,(0:Int),v30,((EMade.fn x0 x1).2.1.length:Int)].length:Int))∧(let v39:Int:=([x2,(0:Int),v30,((EMade.fn x0 x1).2.1.length:Int)].getD (Int.toNat v36) (0:Int))
 NContext.pre v9_1 v10 v39∧(let v13h:Cx:=zcx
 YContext.pre v9_1 v10 v39∧(let v15h:Cx:=zcx
 (let v56:Bool:=((NContext.fn v9_1 v10 v39).2 !=(YContext.fn v9_1 v10 v39).2)
 (v56=false→v56=false)∧(v56=false→v56=false)∧(v56=false→VSameContext.pre ((NContext.fn v9_1 v10 v39).1) ((YContext.fn v9_1 v10 v39).1))∧(v56=false→v56=false)∧(v56=false→v56=false)∧(let v62:Bool:=(bif v56 then true else(!(VSameContext.fn ((NContext.fn v9_1 v10 v39).1) ((YContext.fn v9_1 v10 v39).1))))
 ((v62=true→(Ret1 false (TreeContexts.fn x0 x1 x2 x3)))∧(v62=false→(TreeContexts.inv5 x0 x1 x2 x3 v9_1 v10 (IntKind.i64.wrap (v36+(1:Int)))∧TreeContexts.mes5 x0 x1 x2 x3 v9_1 v10 (IntKind.i64.wrap (v36+(1:Int)))<TreeContexts.mes5 x0 x1 x2 x3 v9_1 v10 v36)))))))))∧((decide (v36<v35))=false→(TreeContexts.inv13 x0 x1 x2 x3 (v10.1.length:Int) v10 (0:Int)∧∀(v10_1:Tre) (v67:Int),TreeContexts.inv13 x0 x1 x2 x3 (v10.1.length:Int) v10_1 v67→(((decide (v67<(v10.1.length:Int)))=true→(0≤v67∧v67<(v10_1.1.length:Int))∧(let v76:(List Int):=(v10_1.1.getD (Int.toNat v67) zn).2.1
 NFind.pre v10_1 v76∧((((NFind.fn v10_1 v76) !=v67)=true→(Ret1 false (TreeContexts.fn x0 x1 x2 x3)))∧(((NFind.fn v10_1 v76) !=v67)=false→(TreeContexts.inv13 x0 x1 x2 x3 (v10.1.length:Int) v10_1 (IntKind.i64.wrap (v67+(1:Int)))∧TreeContexts.mes13 x0 x1 x2 x3 (v10.1.length:Int) v10_1 (IntKind.i64.wrap (v67+(1:Int)))<TreeContexts.mes13 x0 x1 x2 x3 (v10.1.length:Int) v10_1 v67)))))∧((decide (v67<(v10.1.length:Int)))=false→NFind.pre v10_1 x3∧YFind.pre v10_1 x3∧(Ret1 ((NFind.fn v10_1 x3)==(YFind.fn v10_1 x3)) (TreeContexts.fn x0 x1 x2 x3)))))))))))))
theorem TreeContexts.vc :TreeContexts.VC:=by
 rintro v seeds n h ⟨hv,hb⟩
 obtain⟨ht,hval⟩:=madeT_ok hv hb
 have hp:=made_ok hv
 have hlen:=ht.2
 simp only[imp_self,true_and,esane,EMade.fn,NContext.fn,YContext.fn,VSameContext.fn,same_self,bne_self_eq_false,NFind.fn,YFind.fn,ret1,TreeContexts.fn,Bool.not_true,BEq.rfl]
 refine⟨trivial,fun _=>⟨⟨hv,hb⟩,⟨by omega,by omega,rfl,rfl⟩, ?_⟩⟩
 rintro p t i ⟨k1,k2,rfl,rfl⟩
 refine⟨fun hc=> ?_,fun hc=> ?_⟩
 ·have hc:i<4:=of_decide_eq_true hc
  rw[i64w (n:=i+1) (by omega) (by omega)]
  exact⟨⟨k1,hc⟩,⟨hp,ht⟩,⟨hp,ht⟩,fun _=>(context_good hp ht).2.2,fun hh=>(by simp at hh),fun _=>⟨⟨by omega,by omega,rfl,rfl⟩,by simp only[TreeContexts.mes5];omega⟩⟩
 ·refine⟨⟨by omega,by omega,rfl⟩, ?_⟩
  rintro t i ⟨k1,k2,rfl⟩
  refine⟨fun hc=> ?_,fun hc=>⟨hlen,hlen,trivial⟩⟩
  have hc:i<(madeT v seeds).1.length:=of_decide_eq_true hc
  rw[i64w (n:=i+1) (by omega) (by omega),valid_find hval (i:=i.toNat) (by omega)]
  refine⟨⟨k1,hc⟩,hlen,fun hq=> ?_,fun hq=>⟨⟨by omega,by omega,rfl⟩,by simp only[TreeContexts.mes13];omega⟩⟩
  rw[Int.toNat_of_nonneg k1] at hq
  simp at hq
end Lc
