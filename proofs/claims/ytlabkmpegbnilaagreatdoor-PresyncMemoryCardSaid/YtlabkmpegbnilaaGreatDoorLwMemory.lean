/- The law PresyncMemory of chapter 17: its condition holds. -/
import Derived.Test.YtlabkmpegbnilaaGreatDoorFeeds
set_option linter.unusedVariables false
set_option linter.unusedSimpArgs false
set_option maxRecDepth 100000
namespace Lc
open Go
def PresyncMemory.pre (v:Int)(seeds salt:List Int)(lists:List (List Hdr))(order:List Int):Prop:=(0≤v∧v≤255)∧Bytes seeds∧HOk salt∧(∀l,l∈lists→∀h,h∈l→HdrOk h)∧Bytes order
def PresyncMemory.fn (v:Int)(seeds salt:List Int)(lists:List (List Hdr))(order:List Int):Bool:=true
def PresyncMemory.inv7 (v:Int)(seeds salt:List Int)(lists:List (List Hdr))(order:List Int)(p:Par)(s:Pst)(i:Int):Prop:=p=madeParams v∧SGood s∧0≤i∧i≤(order.take 8).length
def PresyncMemory.mes7 (v:Int)(seeds salt:List Int)(lists:List (List Hdr))(order:List Int)(p:Par)(s:Pst)(i:Int):Nat:=((order.take 8).length-i).toNat
def PresyncMemory.VC :Prop:=∀(x0:Int) (x1:(List Int)) (x2:(List Int)) (x3:(List (List Hdr))) (x4:(List Int)),PresyncMemory.pre x0 x1 x2 x3 x4→LSane.pre∧(((!(LSane.fn))=true→(Ret1 false (PresyncMemory.fn x0 x1 x2 x3 x4)))∧((!(LSane.fn))=false→(((decide ((x3.length:Int)>(4:Int)))=true→(Ret1 true (PresyncMemory.fn x0 x1 x2 x3 x4)))∧((decide ((x3.length:Int)>(4:Int)))=false→KSome.pre x1 (60:Int)∧LBegun.pre x0 (KSome.fn x1 (60:Int)) x2 (1:Int)∧(let v11h:Par:=(((0:Int),((List.replicate 32 (0:Int)),((List.replicate 32 (0:Int)),((0:Int),((0:Int),((0:Int),())))))),((List.replicate 4 (0:Int)),((0:Int),((0:Int),((0:Int),((0:Int),([],((0:Int),((0:Int),((0:Int),()))))))))))
 (let v12h:Pst:=((0:Int),((List.replicate 32 (0:Int)),((List.replicate 4 (0:Int)),(((0:Int),((List.replicate 32 (0:Int)),((0:Int),((0:Int),([],()))))),((List.replicate 4 (0:Int)),(((0:Int),((List.replicate 32 (0:Int)),((0:Int),((0:Int),([],()))))),((List.replicate 4 (0:Int)),((0:Int),([],([],()))))))))))
 KSome.pre x4 (8:Int)∧(PresyncMemory.inv7 x0 x1 x2 x3 x4 ((LBegun.fn x0 (KSome.fn x1 (60:Int)) x2 (1:Int)).1) ((LBegun.fn x0 (KSome.fn x1 (60:Int)) x2 (1:Int)).2.1) (0:Int)∧∀(v11_1:Par) (v12_1:Pst) (v34:Int),PresyncMemory.inv7 x0 x1 x2 x3 x4 v11_1 v12_1 v34→(((decide (v34<((KSome.fn x4 (8:Int)).length:Int)))=true→(0≤v34∧v34<((KSome.fn x4 (8:Int)).length:Int))∧(let v40:Int:=(IntKind.i64.wrap ((KSome.fn x4 (8:Int)).getD (Int.toNat v34) (0:Int)))
 (let v42:Int:=((LBegun.fn x0 (KSome.fn x1 (60:Int)) x2 (1:Int)).2.2.length:Int)
 (IntKind.i64.wrap (v42+(1:Int)))≠0∧(0≤(0:Int)∧(0:Int)≤(Int.tmod v40 (IntKind.i64.wrap (v42+(1:Int))))∧(Int.tmod v40 (IntKind.i64.wrap (v42+(1:Int))))≤((LBegun.fn x0 (KSome.fn x1 (60:Int)) x2 (1:Int)).2.2.length:Int))∧(let v45:(List Hdr):=(((LBegun.fn x0 (KSome.fn x1 (60:Int)) x2 (1:Int)).2.2.drop (Int.toNat (0:Int))).take ((Int.toNat (Int.tmod v40 (IntKind.i64.wrap (v42+(1:Int)))))-(Int.toNat (0:Int))))
 (5:Int)≠0∧(let v47:Int:=(Int.tmod ((KSome.fn x4 (8:Int)).getD (Int.toNat v34) (0:Int)) (5:Int))
 ((v47==(0:Int))=true→(v47==(0:Int))=true)∧((v47==(0:Int))=true→(v47==(0:Int))=true)∧((v47==(0:Int))=true→(v47==(0:Int))=true)∧(let v53:Bool:=(bif (v47==(0:Int)) then(decide ((x3.length:Int)>(0:Int))) else false)
 ((v53=true→(let v56:Int:=(IntKind.i64.wrap ((KSome.fn x4 (8:Int)).getD (Int.toNat v34) (0:Int)))
 (x3.length:Int)≠0∧(0≤(Int.tmod v56 (x3.length:Int))∧(Int.tmod v56 (x3.length:Int))<(x3.length:Int))∧(let v63:Int:=((x3.getD (Int.toNat (Int.tmod v56 (x3.length:Int))) []).length:Int)
 (((decide (v63>(200:Int)))=true→(Ret1 true (PresyncMemory.fn x0 x1 x2 x3 x4)))∧((decide (v63>(200:Int)))=false→PFeed.pre v11_1 v12_1 (x3.getD (Int.toNat (Int.tmod v56 (x3.length:Int))) []) (1073741824:Int)∧(let v69h:(List Hdr):=(PFeed.fn v11_1 v12_1 (x3.getD (Int.toNat (Int.tmod v56 (x3.length:Int))) []) (1073741824:Int)).2.1
 (let v70:Pst:=(PFeed.fn v11_1 v12_1 (x3.getD (Int.toNat (Int.tmod v56 (x3.length:Int))) []) (1073741824:Int)).1
 (let v72:Int:=(PFeed.fn v11_1 v12_1 (x3.getD (Int.toNat (Int.tmod v56 (x3.length:Int))) []) (1073741824:Int)).2.2
 PMemory.pre v70∧((decide ((PMemory.fn v70)>(1088:Int)))=false→(decide ((PMemory.fn v70)>(1088:Int)))=false)∧((decide ((PMemory.fn v70)>(1088:Int)))=false→(decide ((PMemory.fn v70)>(1088:Int)))=false)∧((decide ((PMemory.fn v70)>(1088:Int)))=false→(decide ((PMemory.fn v70)>(1088:Int)))=false)∧((decide ((PMemory.fn v70)>(1088:Int)))=false→(decide ((PMemory.fn v70)>(1088:Int)))=false)∧(let v81:Bool:=(bif (decide ((PMemory.fn v70)>(1088:Int))) then true else(decide ((v70.2.2.2.2.2.2.2.2.2.1.length:Int)>(64:Int))))
 ((v81=true→(Ret1 false (PresyncMemory.fn x0 x1 x2 x3 x4)))∧(v81=false→(PresyncMemory.inv7 x0 x1 x2 x3 x4 v11_1 v70 (IntKind.i64.wrap (v34+(1:Int)))∧PresyncMemory.mes7 x0 x1 x2 x3 x4 v11_1 v70 (IntKind.i64.wrap (v34+(1:Int)))<PresyncMemory.mes7 x0 x1 x2 x3 x4 v11_1 v12_1 v34))))))))))))∧(v53=false→(((decide ((v45.length:Int)>(200:Int)))=true→(Ret1 true (PresyncMemory.fn x0 x1 x2 x3 x4)))∧((decide ((v45.length:Int)>(200:Int)))=false→PFeed.pre v11_1 v12_1 v45 (1073741824:Int)∧PMemory.pre ((PFeed.fn v11_1 v12_1 v45 (1073741824:Int)).1)∧(let v74:Int:=(PMemory.fn ((PFeed.fn v11_1 v12_1 v45 (1073741824:Int)).1))
 ((decide (v74>(1088:Int)))=false→(decide (v74>(1088:Int)))=false)∧((decide (v74>(1088:Int)))=false→(decide (v74>(1088:Int)))=false)∧((decide (v74>(1088:Int)))=false→(decide (v74>(1088:Int)))=false)∧((decide (v74>(1088:Int)))=false→(decide (v74>(1088:Int)))=false)∧(let v81_1:Bool:=(bif (decide (v74>(1088:Int))) then true else(decide (((PFeed.fn v11_1 v12_1 v45 (1073741824:Int)).1.2.2.2.2.2.2.2.2.2.1.length:Int)>(64:Int))))
 ((v81_1=true→(Ret1 false (PresyncMemory.fn x0 x1 x2 x3 x4)))∧(v81_1=false→(PresyncMemory.inv7 x0 x1 x2 x3 x4 v11_1 ((PFeed.fn v11_1 v12_1 v45 (1073741824:Int)).1) (IntKind.i64.wrap (v34+(1:Int)))∧PresyncMemory.mes7 x0 x1 x2 x3 x4 v11_1 ((PFeed.fn v11_1 v12_1 v45 (1073741824:Int)).1) (IntKind.i64.wrap (v34+(1:Int)))<PresyncMemory.mes7 x0 x1 x2 x3 x4 v11_1 v12_1 v34)))))))))))))))∧((decide (v34<((KSome.fn x4 (8:Int)).length:Int)))=false→(Ret1 true (PresyncMemory.fn x0 x1 x2 x3 x4)))))))))))
theorem mem_step {p:Par}{s:Pst}{l:List Hdr}(hp:PGood p)(hs:SGood s)(hl:∀h,h∈l→HdrOk h)(hn:l.length≤200):
 FeedPre p s l 1073741824∧PMemory.pre (feedFn p s l 1073741824).1∧SGood (feedFn p s l 1073741824).1∧(bif decide (memFn (feedFn p s l 1073741824).1>1088) then true else decide (((feedFn p s l 1073741824).1.2.2.2.2.2.2.2.2.2.1.length:Int)>64))=false:=by
 have hf:=feed_pre (s:=s) hp hs hl (by omega)
 obtain⟨⟨f0,f1,f2⟩,_⟩:=few_feed hf
 refine⟨hf,⟨by omega,by omega⟩,f0, ?_⟩
 rw[decide_eq_false (by unfold memFn;omega),decide_eq_false (by omega)];rfl
theorem PresyncMemory.vc :PresyncMemory.VC:=by
 intro v seeds salt lists order ⟨h1,h2,h3,h4,h5⟩
 have hb60:Bytes (seeds.take (Int.toNat 60)):=h2.take _
 obtain⟨g1,g2⟩:=madeL_ok h1 hb60
 have hp:=made_ok h1
 simp only[imp_self,true_and,lsane,LBegun.fn,PFeed.fn,KSome.fn,PMemory.fn,ret1,PresyncMemory.fn]
 refine⟨trivial,fun h=>(by cases h),fun _=>⟨fun _=>trivial,fun hn=>⟨by show(0:Int)≤60;omega,⟨h1,hb60,h3,by omega,by omega⟩,by show(0:Int)≤8;omega,⟨rfl,madeS_good h1 h3,by omega,by omega⟩, ?_⟩⟩⟩
 have hn:¬(lists.length:Int)>4:=of_decide_eq_false hn
 rintro p s i ⟨rfl,k1,k2,k3⟩
 have e8:order.take (Int.toNat 8)=order.take 8:=rfl
 simp only[e8]
 refine⟨fun hc=> ?_,fun _=>trivial⟩
 have hc:i<(order.take 8).length:=of_decide_eq_true hc
 have h8:(order.take 8).length≤8:=by rw[List.length_take];omega
 have hb:=(h5.take 8).getD i.toNat
 generalize (order.take 8).getD i.toNat 0=k at*
 have ht5:∀n:Int,Int.tmod k n=k%n:=fun n=>Int.tmod_eq_emod_of_nonneg hb.1
 rw[i64w (n:=k) (by omega) (by omega),i64w (n:=((madeL v (seeds.take (Int.toNat 60))).length:Int)+1) (by omega) (by omega),i64w (n:=i+1) (by omega) (by omega)]
 simp only[ht5]
 have r1:=Int.emod_nonneg k (show((madeL v (seeds.take (Int.toNat 60))).length:Int)+1≠0 by omega)
 have r2:=Int.emod_lt_of_pos k (show 0<((madeL v (seeds.take (Int.toNat 60))).length:Int)+1 by omega)
 refine⟨⟨k2,hc⟩,by omega,⟨by omega,by omega,by omega⟩,by omega,fun hx=> ?_,fun hx=>⟨fun _=>trivial,fun hq=> ?_⟩⟩
 ·have hl0:0<lists.length:=by
   rw[Bool.cond_false_right,Bool.and_eq_true] at hx
   have:=of_decide_eq_true hx.2
   omega
  have q1:=Int.emod_nonneg k (show(lists.length:Int)≠0 by omega)
  have q2:=Int.emod_lt_of_pos k (show 0<(lists.length:Int) by omega)
  have hmem:lists.getD (k%(lists.length:Int)).toNat []∈lists:=by
   rw[List.getD_eq_getElem?_getD,List.getElem?_eq_getElem (by omega),Option.getD_some];exact List.getElem_mem _
  have hok:=h4 _ hmem
  generalize lists.getD (k%(lists.length:Int)).toNat []=l at*
  refine⟨by omega,⟨q1,q2⟩,fun _=>trivial,fun hq=> ?_⟩
  have hq:¬(l.length:Int)>200:=of_decide_eq_false hq
  obtain⟨s1,s2,s3,s4⟩:=mem_step hp k1 hok (by omega)
  rw[s4]
  exact⟨s1,s2,fun h=>(by cases h),fun _=>⟨⟨rfl,s3,by omega,by omega⟩,by simp only[PresyncMemory.mes7];omega⟩⟩
 ·have e:((madeL v (seeds.take (Int.toNat 60))).drop (Int.toNat 0)).take ((k%(((madeL v (seeds.take (Int.toNat 60))).length:Int)+1)).toNat-Int.toNat 0)=(madeL v (seeds.take (Int.toNat 60))).take (k%(((madeL v (seeds.take (Int.toNat 60))).length:Int)+1)).toNat:=rfl
  rw[e] at hq⊢
  obtain⟨s1,s2,s3,s4⟩:=mem_step (l:=(madeL v (seeds.take (Int.toNat 60))).take (k%(((madeL v (seeds.take (Int.toNat 60))).length:Int)+1)).toNat) hp k1 (fun h hh=>g1 h (List.mem_of_mem_take hh)) (by rw[List.length_take];omega)
  rw[s4]
  exact⟨s1,s2,fun h=>(by cases h),fun _=>⟨⟨rfl,s3,by omega,by omega⟩,by simp only[PresyncMemory.mes7];omega⟩⟩
end Lc
