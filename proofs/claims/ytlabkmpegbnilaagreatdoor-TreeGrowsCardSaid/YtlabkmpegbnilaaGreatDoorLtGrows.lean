/- The law TreeGrows: the proof of its condition. -/
import Derived.Test.YtlabkmpegbnilaaGreatDoorMades
import Derived.Test.YtlabkmpegbnilaaGreatDoorTreeJ
import Derived.Test.YtlabkmpegbnilaaGreatDoorTreeK
set_option linter.unusedVariables false
set_option linter.unusedSimpArgs false
set_option maxRecDepth 100000
namespace Lc
open Go
def TreeGrows.pre (v:Int)(seeds:List Int)(n s most:Int):Prop:=(0≤v∧v≤255)∧Bytes seeds∧(0≤n∧n≤255)∧(0≤s∧s≤255)∧(0≤most∧most≤255)
def TreeGrows.fn (v:Int)(seeds:List Int)(n s most:Int):Bool:=true
def TreeGrows.VC :Prop:=∀(x0:Int) (x1:(List Int)) (x2:Int) (x3:Int) (x4:Int),TreeGrows.pre x0 x1 x2 x3 x4→ESane.pre∧(((!(ESane.fn))=true→(Ret1 false (TreeGrows.fn x0 x1 x2 x3 x4)))∧((!(ESane.fn))=false→EMade.pre x0 x1∧(let v11h:Par:=(hz,((List.replicate 4 (0:Int)),((0:Int),((0:Int),((0:Int),((0:Int),([],((0:Int),((0:Int),((0:Int),()))))))))))
 ((EMade.fn x0 x1).2.1.length:Int)≠0∧(let v34:Int:=(Int.tmod (IntKind.i64.wrap x2) ((EMade.fn x0 x1).2.1.length:Int))
 NContext.pre ((EMade.fn x0 x1).1) ((EMade.fn x0 x1).2) v34∧(let v36:Cx:=(NContext.fn ((EMade.fn x0 x1).1) ((EMade.fn x0 x1).2) v34).1
 (let v37:Int:=(NContext.fn ((EMade.fn x0 x1).1) ((EMade.fn x0 x1).2) v34).2
 (let v13h:Cx:=zcx
 (((v37 !=(0:Int))=true→(Ret1 false (TreeGrows.fn x0 x1 x2 x3 x4)))∧((v37 !=(0:Int))=false→MMine.pre ((EMade.fn x0 x1).1) v36 (((List.replicate 32 (0:Int)).set 0 x3).set 1 (78:Int)) (IntKind.u32.wrap x3)∧(let v49:Hdr:=(MMine.fn ((EMade.fn x0 x1).1) v36 (((List.replicate 32 (0:Int)).set 0 x3).set 1 (78:Int)) (IntKind.u32.wrap x3))
 NInsert.pre ((EMade.fn x0 x1).1) ((EMade.fn x0 x1).2) v49 (1073741824:Int)∧(let v51:Tre:=(NInsert.fn ((EMade.fn x0 x1).1) ((EMade.fn x0 x1).2) v49 (1073741824:Int)).1
 (let v52:Int:=(NInsert.fn ((EMade.fn x0 x1).1) ((EMade.fn x0 x1).2) v49 (1073741824:Int)).2.1
 (let v53:Int:=(NInsert.fn ((EMade.fn x0 x1).1) ((EMade.fn x0 x1).2) v49 (1073741824:Int)).2.2
 (((v53 !=(0:Int))=true→((v53==(150:Int))=false→(v53==(150:Int))=false)∧((v53==(150:Int))=false→(v53==(150:Int))=false)∧(let v61:Bool:=(bif (v53==(150:Int)) then true else(v53==(121:Int)))
 (Ret1 v61 (TreeGrows.fn x0 x1 x2 x3 x4))))∧((v53 !=(0:Int))=false→(5:Int)≠0∧NTrim.pre v51 (IntKind.i64.wrap (Int.tmod x4 (5:Int)))∧NValid.pre ((EMade.fn x0 x1).1) v51∧((!(NValid.fn ((EMade.fn x0 x1).1) v51))=false→(!(NValid.fn ((EMade.fn x0 x1).1) v51))=false)∧((!(NValid.fn ((EMade.fn x0 x1).1) v51))=false→(!(NValid.fn ((EMade.fn x0 x1).1) v51))=false)∧((!(NValid.fn ((EMade.fn x0 x1).1) v51))=false→NValid.pre ((EMade.fn x0 x1).1) (NTrim.fn v51 (IntKind.i64.wrap (Int.tmod x4 (5:Int)))))∧((!(NValid.fn ((EMade.fn x0 x1).1) v51))=false→(!(NValid.fn ((EMade.fn x0 x1).1) v51))=false)∧((!(NValid.fn ((EMade.fn x0 x1).1) v51))=false→(!(NValid.fn ((EMade.fn x0 x1).1) v51))=false)∧(let v76:Bool:=(bif (!(NValid.fn ((EMade.fn x0 x1).1) v51)) then true else(!(NValid.fn ((EMade.fn x0 x1).1) (NTrim.fn v51 (IntKind.i64.wrap (Int.tmod x4 (5:Int)))))))
 (v76=false→v76=false)∧(v76=false→v76=false)∧(v76=false→v76=false)∧(v76=false→v76=false)∧(v76=false→v76=false)∧(let v83:Bool:=(bif v76 then true else(v52 !=((EMade.fn x0 x1).2.1.length:Int)))
 (v83=false→v83=false)∧(v83=false→NSide.pre (NTrim.fn v51 (IntKind.i64.wrap (Int.tmod x4 (5:Int)))))∧(v83=false→v83=false)∧(v83=false→(5:Int)≠0)∧(v83=false→v83=false)∧(v83=false→v83=false)∧(v83=false→v83=false)∧(v83=false→v83=false)∧(let v91:Bool:=(bif v83 then true else(decide ((NSide.fn (NTrim.fn v51 (IntKind.i64.wrap (Int.tmod x4 (5:Int)))))>(IntKind.i64.wrap (Int.tmod x4 (5:Int))))))
 ((v91=true→(Ret1 false (TreeGrows.fn x0 x1 x2 x3 x4)))∧(v91=false→(let v95:Int:=(NTrim.fn v51 (IntKind.i64.wrap (Int.tmod x4 (5:Int)))).2.1
 (0≤v95∧v95<((NTrim.fn v51 (IntKind.i64.wrap (Int.tmod x4 (5:Int)))).1.length:Int))∧(let v98:(List Int):=((NTrim.fn v51 (IntKind.i64.wrap (Int.tmod x4 (5:Int)))).1.getD (Int.toNat v95) zn).2.1
 (0≤v51.2.1∧v51.2.1<(v51.1.length:Int))∧(let v105:(List Int):=(v51.1.getD (Int.toNat v51.2.1) zn).2.1
 ((b32 v98 v105)=true→(b32 v98 v105)=true)∧((b32 v98 v105)=true→(b32 v98 v105)=true)∧((b32 v98 v105)=true→(b32 v98 v105)=true)∧((b32 v98 v105)=true→(b32 v98 v105)=true)∧((b32 v98 v105)=true→(b32 v98 v105)=true)∧((b32 v98 v105)=true→(b32 v98 v105)=true)∧((b32 v98 v105)=true→(0≤v51.2.1∧v51.2.1<(v51.1.length:Int)))∧((b32 v98 v105)=true→(b32 v98 v105)=true)∧((b32 v98 v105)=true→(b32 v98 v105)=true)∧((b32 v98 v105)=true→(b32 v98 v105)=true)∧((b32 v98 v105)=true→(b32 v98 v105)=true)∧((b32 v98 v105)=true→NSide.pre (NTrim.fn v51 (IntKind.i64.wrap (Int.tmod x4 (5:Int)))))∧((b32 v98 v105)=true→(b32 v98 v105)=true)∧((b32 v98 v105)=true→(b32 v98 v105)=true)∧((b32 v98 v105)=true→(b32 v98 v105)=true)∧((b32 v98 v105)=true→(b32 v98 v105)=true)∧((b32 v98 v105)=true→(b32 v98 v105)=true)∧(let v123:Bool:=(bif (b32 v98 v105) then(((NTrim.fn v51 (IntKind.i64.wrap (Int.tmod x4 (5:Int)))).1.length:Int)==(IntKind.i64.wrap ((IntKind.i64.wrap ((v51.1.getD (Int.toNat v51.2.1) zn).2.2.2.1+(1:Int)))+(NSide.fn (NTrim.fn v51 (IntKind.i64.wrap (Int.tmod x4 (5:Int)))))))) else false)
 (Ret1 v123 (TreeGrows.fn x0 x1 x2 x3 x4))))))))))))))))))))))))))
theorem TreeGrows.vc :TreeGrows.VC:=by
 rintro v seeds n s most ⟨hv,hb,hn,hs,hm⟩
 obtain⟨ht,hval⟩:=madeT_ok hv hb
 have hp:=made_ok hv
 obtain⟨hla,h15⟩:=made_late (l:=seeds) hv
 have htm:=made_time hv hb
 obtain⟨cs,c1,c2,c3⟩:=valid_of hval
 have hpos:=c2.fit.2.1
 have hlate:U32 1073741824:=⟨by decide,by decide⟩
 have hroot:HOk (((List.replicate 32 (0:Int)).set 0 s).set 1 (78:Int)):=⟨by simp,((Bytes.zeros 32).set 0 hs).set 1 (by omega)⟩
 have e5:Int.tmod most 5=most%5:=Int.tmod_eq_emod_of_nonneg hm.1
 simp only[imp_self,true_and,esane,EMade.fn,NContext.fn,MMine.fn,NInsert.fn,NTrim.fn,NValid.fn,NSide.fn,ret1,TreeGrows.fn,Bool.not_true,e5]
 rw[i64w (n:=n) (by omega) (by omega),i64w (n:=most%5) (by omega) (by omega),u32w (n:=s) (by omega) (by omega)]
 generalize hk:Int.tmod n ((madeT v seeds).1.length:Int)=k
 have k1:0≤k:=by rw[←hk];exact Int.tmod_nonneg _ hn.1
 have k2:k<(madeT v seeds).1.length:=by rw[←hk];exact Int.tmod_lt_of_pos _ (by omega)
 have hctx:contextT (madeParams v) (madeT v seeds) k=(atFn (madeParams v) (madeT v seeds).1 k.toNat,0):=by
  rw[contextT,if_neg (by simp[hval]),if_neg (by omega)]
 have hcg:=context_good (n:=k) hp ht
 rw[hctx] at hcg
 simp only[hctx]
 have hmo:HdrOk (mineFn (madeParams v) (atFn (madeParams v) (madeT v seeds).1 k.toNat) (((List.replicate 32 (0:Int)).set 0 s).set 1 (78:Int)) s):=mine_ok ⟨hp,hcg,hroot⟩
 have hmi:=mined_insert (root:=((List.replicate 32 (0:Int)).set 0 s).set 1 (78:Int)) hp rfl hval (by omega) htm (show k.toNat<(madeT v seeds).1.length by omega) hs
 generalize mineFn (madeParams v) (atFn (madeParams v) (madeT v seeds).1 k.toNat) (((List.replicate 32 (0:Int)).set 0 s).set 1 (78:Int)) s=h at*
 have hpre:InsPre (madeParams v) (madeT v seeds) h 1073741824:=⟨⟨hp,ht⟩,hmo,hlate⟩
 refine⟨trivial,fun _=>⟨⟨hv,hb⟩,by omega,⟨hp,ht⟩,fun hq=>(by simp at hq),fun _=>⟨⟨hp,hcg,hroot⟩,hpre,fun hq=> ?_,fun hq=> ?_⟩⟩⟩
 ·have hq:(insertT (madeParams v) (madeT v seeds) h 1073741824).2.2≠0:=by simpa using hq
  rcases hmi with e|e|e
  ·exact absurd e hq
  ·rw[e];rfl
  ·rw[e];rfl
 have he:(insertT (madeParams v) (madeT v seeds) h 1073741824).2.2=0:=by simpa using hq
 have hvu:=insert_valid hp he
 have hou:=insert_ok hpre
 have hlu:=insert_len he
 have hnum:(insertT (madeParams v) (madeT v seeds) h 1073741824).2.1=((madeT v seeds).1.length:Int):=by
  obtain⟨_,_,_,_,_,h6⟩:=insert_spec he
  rw[h6]
 rw[hnum]
 generalize (insertT (madeParams v) (madeT v seeds) h 1073741824).1=u at*
 obtain⟨s1,⟨gone,s2,s3⟩,s4,s5⟩:=trim_spec (most:=most%5) hvu
 have how:=trim_ok (most:=most%5) hvu hou
 have hord:=valid_ordered hvu
 have hordw:=valid_ordered s1
 obtain⟨cu,_,u2,u3⟩:=valid_of hvu
 have hb1:=hord.1
 have hb2:=hord.2.1
 have hph:=(path_height u2 u.2.1.toNat (by omega)).1
 have hside:sideT (trimT u (most%5))=(sideN (trimT u (most%5)):Int):=by rw[sideT,if_neg (by rw[ordered_iff.2 hordw];decide)]
 have hpl:=(path_height u2 u.2.1.toNat (by omega)).2
 have hwl:(trimT u (most%5)).1.length≤u.1.length:=by rw[s3.len];exact cnt_le _
 simp only[hvu,s1,hside,Bool.not_true,bne_self_eq_false,cond_false]
 have hh:b32 ((trimT u (most%5)).1.getD (trimT u (most%5)).2.1.toNat zn).2.1 (u.1.getD u.2.1.toNat zn).2.1=true:=by
  rw[s3.best,Int.toNat_natCast,(s3.parts (by omega) s2.best).2.1];exact b32_self _
 have hfin:(((trimT u (most%5)).1.length:Int)==IntKind.i64.wrap (IntKind.i64.wrap ((u.1.getD u.2.1.toNat zn).2.2.2.1+1)+(sideN (trimT u (most%5)):Int)))=true:=by
  rw[hph,i64w (n:=((pathFn u.1 u.2.1.toNat).length:Int)) (by omega) (by omega),i64w (by omega) (by omega),s5,beq_iff_eq]
  omega
 simp only[hh,hfin,cond_true]
 have hnp:NTrim.pre u (most%5):=⟨hou,by omega⟩
 have hsp:NSide.pre (trimT u (most%5)):=by show(trimT u (most%5)).1.length≤1000000;omega
 refine⟨by decide,hnp,⟨hp,hou⟩,fun _=>⟨hp,how⟩,fun _=>hsp,fun _=>by decide,fun hq=> ?_,fun _=>⟨⟨hordw.1,hordw.2.1⟩,⟨hb1,hb2⟩,fun _=>⟨hb1,hb2⟩,fun _=>hsp,trivial⟩⟩
 have hq:=of_decide_eq_true hq
 rw[s4] at hq
 omega
end Lc
