/- The law TreeOrders: the proof of its condition. -/
import Derived.Test.YtlabkmpegbnilaaGreatDoorMades
import Derived.Test.YtlabkmpegbnilaaGreatDoorTreeL
set_option linter.unusedVariables false
set_option linter.unusedSimpArgs false
set_option maxRecDepth 100000
namespace Lc
open Go
def TreeOrders.pre (v:Int)(seeds keys:List Int):Prop:=(0≤v∧v≤255)∧Bytes seeds∧Bytes keys
def TreeOrders.fn (v:Int)(seeds keys:List Int):Bool:=true
def TreeOrders.inv7 (v:Int)(seeds keys:List Int)(p:Par)(t u:Tre)(ws:List Nd)(i:Int):Prop:=p=madeParams v∧t=madeT v seeds∧(0≤i∧i≤400)∧TreOk u∧OrdI p t u ws
def TreeOrders.mes7 (v:Int)(seeds keys:List Int)(p:Par)(t u:Tre)(ws:List Nd)(i:Int):Nat:=(400-i).toNat
def TreeOrders.inv22 (v:Int)(seeds keys:List Int)(l:List Nd)(n:Int)(a b:Nd)(c i:Int):Prop:=
 (0≤i∧i≤n)∧a.2.2.2.2.1=b.2.2.2.2.1∧(∃k j,k<l.length∧j<l.length∧a=l.getD k zn∧(l.getD j zn).2.2.2.2.1=a.2.2.2.2.1∧b.2.1=(l.getD j zn).2.1)∧c=(cnt (fun q=>w4beq (l.getD q zn).2.2.2.2.1 a.2.2.2.2.1) i.toNat:Nat)
def TreeOrders.mes22 (v:Int)(seeds keys:List Int)(l:List Nd)(n:Int)(a b:Nd)(c i:Int):Nat:=(n-i).toNat
def TreeOrders.VC :Prop:=∀(x0:Int) (x1:(List Int)) (x2:(List Int)),TreeOrders.pre x0 x1 x2→ESane.pre∧(((!(ESane.fn))=true→(Ret1 false (TreeOrders.fn x0 x1 x2)))∧((!(ESane.fn))=false→EMade.pre x0 x1∧(let v7h:Par:=(hz,((List.replicate 4 (0:Int)),((0:Int),((0:Int),((0:Int),((0:Int),([],((0:Int),((0:Int),((0:Int),()))))))))))
 NStart.pre ((EMade.fn x0 x1).1)∧(0≤(1:Int)∧(1:Int)≤((EMade.fn x0 x1).2.1.length:Int)∧((EMade.fn x0 x1).2.1.length:Int)≤((EMade.fn x0 x1).2.1.length:Int))∧(let v37:(List Nd):=(((EMade.fn x0 x1).2.1.drop (Int.toNat (1:Int))).take ((Int.toNat ((EMade.fn x0 x1).2.1.length:Int))-(Int.toNat (1:Int))))
 Room v37.length 160∧(TreeOrders.inv7 x0 x1 x2 ((EMade.fn x0 x1).1) ((EMade.fn x0 x1).2) ((NStart.fn ((EMade.fn x0 x1).1)).1) v37 (0:Int)∧∀(v7_1:Par) (v8:Tre) (v9:Tre) (v11:(List Nd)) (v12:Int),TreeOrders.inv7 x0 x1 x2 v7_1 v8 v9 v11 v12→((decide ((v11.length:Int)>(0:Int)))=true→(decide ((v11.length:Int)>(0:Int)))=true)∧((decide ((v11.length:Int)>(0:Int)))=true→(decide ((v11.length:Int)>(0:Int)))=true)∧(let v45:Bool:=(bif (decide ((v11.length:Int)>(0:Int))) then(decide (v12<(400:Int))) else false)
 ((v45=true→(((decide (v12<(x2.length:Int)))=true→(0≤v12∧v12<(x2.length:Int))∧(v11.length:Int)≠0∧(let v61:Int:=(Int.tmod (IntKind.i64.wrap (x2.getD (Int.toNat v12) (0:Int))) (v11.length:Int))
 (0≤v61∧v61<(v11.length:Int))∧(let v69:Hdr:=(v11.getD (Int.toNat v61) zn).1
 NInsert.pre v7_1 v9 v69 (1073741824:Int)∧(let v75:Bool:=((NInsert.fn v7_1 v9 v69 (1073741824:Int)).2.2==(151:Int))
 ((v75=true→(TreeOrders.inv7 x0 x1 x2 v7_1 v8 v9 v11 (IntKind.i64.wrap (v12+(1:Int)))∧TreeOrders.mes7 x0 x1 x2 v7_1 v8 v9 v11 (IntKind.i64.wrap (v12+(1:Int)))<TreeOrders.mes7 x0 x1 x2 v7_1 v8 v9 v11 v12))∧(v75=false→(let v77:Bool:=((NInsert.fn v7_1 v9 v69 (1073741824:Int)).2.2 !=(0:Int))
 ((v77=true→(Ret1 false (TreeOrders.fn x0 x1 x2)))∧(v77=false→(0≤(0:Int)∧(0:Int)≤v61∧v61=v61∧v61≤(v11.length:Int))∧(0≤(IntKind.i64.wrap (v61+(1:Int)))∧(IntKind.i64.wrap (v61+(1:Int)))≤(v11.length:Int)∧(v11.length:Int)≤(v11.length:Int))∧(let v86:(List Nd):=((v11.drop (Int.toNat (IntKind.i64.wrap (v61+(1:Int))))).take ((Int.toNat (v11.length:Int))-(Int.toNat (IntKind.i64.wrap (v61+(1:Int))))))
 Room (((v11.drop (Int.toNat (0:Int))).take ((Int.toNat v61)-(Int.toNat (0:Int)))).length+v86.length) 160∧(let v87:(List Nd):=(((v11.drop (Int.toNat (0:Int))).take ((Int.toNat v61)-(Int.toNat (0:Int))))++v86)
 (let v87_1h:(List Nd):=(((v11.drop (Int.toNat (0:Int))).take ((Int.toNat v61)-(Int.toNat (0:Int))))++v86)
 (TreeOrders.inv7 x0 x1 x2 v7_1 v8 ((NInsert.fn v7_1 v9 v69 (1073741824:Int)).1) v87 (IntKind.i64.wrap (v12+(1:Int)))∧TreeOrders.mes7 x0 x1 x2 v7_1 v8 ((NInsert.fn v7_1 v9 v69 (1073741824:Int)).1) v87 (IntKind.i64.wrap (v12+(1:Int)))<TreeOrders.mes7 x0 x1 x2 v7_1 v8 v9 v11 v12)))))))))))))∧((decide (v12<(x2.length:Int)))=false→(v11.length:Int)≠0∧(0≤(Int.tmod v12 (v11.length:Int))∧(Int.tmod v12 (v11.length:Int))<(v11.length:Int))∧(let v69_1:Hdr:=(v11.getD (Int.toNat (Int.tmod v12 (v11.length:Int))) zn).1
 NInsert.pre v7_1 v9 v69_1 (1073741824:Int)∧(let v75_1:Bool:=((NInsert.fn v7_1 v9 v69_1 (1073741824:Int)).2.2==(151:Int))
 ((v75_1=true→(TreeOrders.inv7 x0 x1 x2 v7_1 v8 v9 v11 (IntKind.i64.wrap (v12+(1:Int)))∧TreeOrders.mes7 x0 x1 x2 v7_1 v8 v9 v11 (IntKind.i64.wrap (v12+(1:Int)))<TreeOrders.mes7 x0 x1 x2 v7_1 v8 v9 v11 v12))∧(v75_1=false→(let v77_1:Bool:=((NInsert.fn v7_1 v9 v69_1 (1073741824:Int)).2.2 !=(0:Int))
 ((v77_1=true→(Ret1 false (TreeOrders.fn x0 x1 x2)))∧(v77_1=false→(0≤(0:Int)∧(0:Int)≤(Int.tmod v12 (v11.length:Int))∧(Int.tmod v12 (v11.length:Int))=(Int.tmod v12 (v11.length:Int))∧(Int.tmod v12 (v11.length:Int))≤(v11.length:Int))∧(let v85:Int:=(IntKind.i64.wrap ((Int.tmod v12 (v11.length:Int))+(1:Int)))
 (0≤v85∧v85≤(v11.length:Int)∧(v11.length:Int)≤(v11.length:Int))∧(let v86_1:(List Nd):=((v11.drop (Int.toNat v85)).take ((Int.toNat (v11.length:Int))-(Int.toNat v85)))
 Room (((v11.drop (Int.toNat (0:Int))).take ((Int.toNat (Int.tmod v12 (v11.length:Int)))-(Int.toNat (0:Int)))).length+v86_1.length) 160∧(let v87_2:(List Nd):=(((v11.drop (Int.toNat (0:Int))).take ((Int.toNat (Int.tmod v12 (v11.length:Int)))-(Int.toNat (0:Int))))++v86_1)
 (let v87_3h:(List Nd):=(((v11.drop (Int.toNat (0:Int))).take ((Int.toNat (Int.tmod v12 (v11.length:Int)))-(Int.toNat (0:Int))))++v86_1)
 (TreeOrders.inv7 x0 x1 x2 v7_1 v8 ((NInsert.fn v7_1 v9 v69_1 (1073741824:Int)).1) v87_2 (IntKind.i64.wrap (v12+(1:Int)))∧TreeOrders.mes7 x0 x1 x2 v7_1 v8 ((NInsert.fn v7_1 v9 v69_1 (1073741824:Int)).1) v87_2 (IntKind.i64.wrap (v12+(1:Int)))<TreeOrders.mes7 x0 x1 x2 v7_1 v8 v9 v11 v12)))))))))))))))∧(v45=false→(((decide ((v11.length:Int)>(0:Int)))=true→(Ret1 true (TreeOrders.fn x0 x1 x2)))∧((decide ((v11.length:Int)>(0:Int)))=false→(0≤v8.2.1∧v8.2.1<(v8.1.length:Int))∧(let v96:Nd:=(v8.1.getD (Int.toNat v8.2.1) zn)
 (0≤v9.2.1∧v9.2.1<(v9.1.length:Int))∧(let v102:Nd:=(v9.1.getD (Int.toNat v9.2.1) zn)
 (let v17h:Nd:=zn
 (let v18h:Nd:=zn
 (TreeOrders.inv22 x0 x1 x2 v8.1 (v8.1.length:Int) v96 v102 (0:Int) (0:Int)∧∀(v17_1:Nd) (v18_1:Nd) (v19:Int) (v106:Int),TreeOrders.inv22 x0 x1 x2 v8.1 (v8.1.length:Int) v17_1 v18_1 v19 v106→(((decide (v106<(v8.1.length:Int)))=true→(0≤v106∧v106<(v8.1.length:Int))∧(let v109:Nd:=(v8.1.getD (Int.toNat v106) zn)
 (let v21h:Nd:=zn
 (((w4beq v109.2.2.2.2.1 v17_1.2.2.2.2.1)=true→(TreeOrders.inv22 x0 x1 x2 v8.1 (v8.1.length:Int) v17_1 v18_1 (IntKind.i64.wrap (v19+(1:Int))) (IntKind.i64.wrap (v106+(1:Int)))∧TreeOrders.mes22 x0 x1 x2 v8.1 (v8.1.length:Int) v17_1 v18_1 (IntKind.i64.wrap (v19+(1:Int))) (IntKind.i64.wrap (v106+(1:Int)))<TreeOrders.mes22 x0 x1 x2 v8.1 (v8.1.length:Int) v17_1 v18_1 v19 v106))∧((w4beq v109.2.2.2.2.1 v17_1.2.2.2.2.1)=false→(TreeOrders.inv22 x0 x1 x2 v8.1 (v8.1.length:Int) v17_1 v18_1 v19 (IntKind.i64.wrap (v106+(1:Int)))∧TreeOrders.mes22 x0 x1 x2 v8.1 (v8.1.length:Int) v17_1 v18_1 v19 (IntKind.i64.wrap (v106+(1:Int)))<TreeOrders.mes22 x0 x1 x2 v8.1 (v8.1.length:Int) v17_1 v18_1 v19 v106))))))∧((decide (v106<(v8.1.length:Int)))=false→(let v122:Bool:=(w4beq v17_1.2.2.2.2.1 v18_1.2.2.2.2.1)
 (v122=true→v122=true)∧(v122=true→v122=true)∧((v122=true∧(decide (v19>(1:Int)))=false)→(v122=true∧(decide (v19>(1:Int)))=false))∧((v122=true∧(decide (v19>(1:Int)))=false)→(v122=true∧(decide (v19>(1:Int)))=false))∧((v122=true∧(decide (v19>(1:Int)))=false)→(v122=true∧(decide (v19>(1:Int)))=false))∧((v122=true∧(decide (v19>(1:Int)))=false)→(v122=true∧(decide (v19>(1:Int)))=false))∧(v122=true→v122=true)∧(v122=true→((decide (v19>(1:Int)))=false→(v122=true∧(decide (v19>(1:Int)))=false)))∧(v122=true→v122=true)∧(let v133:Bool:=(bif v122 then(bif (decide (v19>(1:Int))) then true else(b32 v17_1.2.1 v18_1.2.1)) else false)
 (Ret1 v133 (TreeOrders.fn x0 x1 x2)))))))))))))))))))))
theorem tail_one (l:List Nd):((l.drop (Int.toNat 1)).take ((Int.toNat (l.length:Int))-(Int.toNat 1)))=l.drop 1:=by
 rw[Int.toNat_natCast]
 exact List.take_of_length_le (by rw[List.length_drop];exact Nat.le_refl _)
theorem cut_one (l:List Nd){k:Int}(h0:0≤k):((l.drop (Int.toNat 0)).take ((Int.toNat k)-(Int.toNat 0)))++((l.drop (Int.toNat (k+1))).take ((Int.toNat (l.length:Int))-(Int.toNat (k+1))))=l.take k.toNat++l.drop (k.toNat+1):=by
 rw[Int.toNat_natCast,show(k+1).toNat=k.toNat+1 by omega]
 congr 1
 exact List.take_of_length_le (by rw[List.length_drop];exact Nat.le_refl _)
theorem cnt_two {p:Nat→Bool}{n i j:Nat}(hi:i<n)(hj:j<n)(hij:i≠j)(h1:p i=true)(h2:p j=true):2≤cnt p n:=by
 have a:=cnt_less (p:=p) (q:=fun q=>p q&&decide (q≠i)) (k:=i) n hi h1 (by simp) (fun q hq=>by simp[hq])
 have b:=cnt_less (p:=fun q=>p q&&decide (q≠i)) (q:=fun q=>(p q&&decide (q≠i))&&decide (q≠j)) (k:=j) n hj (by simp[h2,Ne.symm hij]) (by simp) (fun q hq=>by simp[hq])
 omega
theorem TreeOrders.vc :TreeOrders.VC:=by
 rintro v seeds keys ⟨hv,hb,hkb⟩
 obtain⟨ht,hval⟩:=madeT_ok hv hb
 have hp:=made_ok hv
 obtain⟨hla,h15⟩:=made_late (l:=seeds) hv
 obtain⟨cs,c1,c2,c3⟩:=valid_of hval
 have hpos:=c2.fit.2.1
 have hlate:U32 1073741824:=⟨by decide,by decide⟩
 simp only[imp_self,true_and,esane,EMade.fn,NStart.fn,NInsert.fn,ret1,TreeOrders.fn,Bool.not_true,tail_one]
 refine⟨trivial,fun _=>⟨⟨hv,hb⟩,hp,⟨by omega,by omega,by omega⟩,room_of (by rw[List.length_drop];omega) (by omega),⟨rfl,rfl,⟨by omega,by omega⟩,startT_ok hp,ord_first hval (start_valid (made_valid hv))⟩, ?_⟩⟩
 rintro p t u ws i ⟨rfl,rfl,⟨i1,i2⟩,hu,ho⟩
 have hwl:=ho.len
 refine⟨fun hc=> ?_,fun hc=> ?_⟩
 ·rw[Bool.cond_false_right,Bool.and_eq_true] at hc
  have hc1:=of_decide_eq_true hc.1
  have hc2:i<400:=of_decide_eq_true hc.2
  rw[i64w (n:=i+1) (by omega) (by omega)]
  have hmes:∀t u ws t' u' ws' p p',TreeOrders.mes7 v seeds keys p t u ws (i+1)<TreeOrders.mes7 v seeds keys p' t' u' ws' i:=fun _ _ _ _ _ _ _ _=>by simp only[TreeOrders.mes7];omega
  have main:∀k:Int,0≤k→k<ws.length→NInsert.pre (madeParams v) u (ws.getD k.toNat zn).1 1073741824∧
   ((insertT (madeParams v) u (ws.getD k.toNat zn).1 1073741824).2.2=151∨((insertT (madeParams v) u (ws.getD k.toNat zn).1 1073741824).2.2=0∧
     TreeOrders.inv7 v seeds keys (madeParams v) (madeT v seeds) (insertT (madeParams v) u (ws.getD k.toNat zn).1 1073741824).1 (ws.take k.toNat++ws.drop (k.toNat+1)) (i+1))):=by
   intro k k0 k1
   have hm:ws.getD k.toNat zn∈ws:=get_at zn (P:=fun x=>x∈ws) (fun x hx=>hx) (by omega)
   obtain⟨j,j0,j1,hj⟩:=ho.wait _ hm
   have hok:HdrOk (ws.getD k.toNat zn).1:=by rw[hj];exact(get_at zn ht.1 j1).1
   have hpre:InsPre (madeParams v) u (ws.getD k.toNat zn).1 1073741824:=⟨⟨hp,hu⟩,hok,hlate⟩
   refine⟨hpre, ?_⟩
   rcases ord_step hp hval hla (by omega) ho (k:=k.toNat) (by omega) with h|⟨h1,h2⟩
   ·exact .inl h
   ·exact .inr ⟨h1,rfl,rfl,⟨by omega,by omega⟩,insert_ok hpre,h2⟩
  have hkeep:TreeOrders.inv7 v seeds keys (madeParams v) (madeT v seeds) u ws (i+1):=⟨rfl,rfl,⟨by omega,by omega⟩,hu,ho⟩
  refine⟨fun hk=> ?_,fun hk=> ?_⟩
  ·have hk:i<keys.length:=of_decide_eq_true hk
   have hkk:=get_at 0 hkb (i:=i.toNat) (by omega)
   rw[i64w (n:=keys.getD i.toNat 0) (by omega) (by omega)]
   have q1:0≤Int.tmod (keys.getD i.toNat 0) (ws.length:Int):=Int.tmod_nonneg _ hkk.1
   have q2:Int.tmod (keys.getD i.toNat 0) (ws.length:Int)<ws.length:=Int.tmod_lt_of_pos _ (by omega)
   generalize Int.tmod (keys.getD i.toNat 0) (ws.length:Int)=k at*
   obtain⟨m1,m2⟩:=main k q1 q2
   rw[i64w (n:=k+1) (by omega) (by omega)]
   simp only[cut_one ws q1]
   refine⟨⟨i1,hk⟩,by omega,⟨q1,q2⟩,m1,fun _=>⟨hkeep,hmes _ _ _ _ _ _ _ _⟩,fun hq=> ?_⟩
   rcases m2 with m2|⟨m2,m3⟩
   ·rw[m2] at hq;cases hq
   refine⟨fun hq2=>(by rw[m2] at hq2;cases hq2),fun _=>⟨⟨by omega,by omega,by omega⟩,⟨by omega,by omega,by omega⟩,room_of ?_ (by omega),m3,hmes _ _ _ _ _ _ _ _⟩⟩
   rw[List.length_take,List.length_take,List.length_drop,List.length_drop];omega
  ·have q1:0≤Int.tmod i (ws.length:Int):=Int.tmod_nonneg _ i1
   have q2:Int.tmod i (ws.length:Int)<ws.length:=Int.tmod_lt_of_pos _ (by omega)
   generalize Int.tmod i (ws.length:Int)=k at*
   obtain⟨m1,m2⟩:=main k q1 q2
   rw[i64w (n:=k+1) (by omega) (by omega)]
   simp only[cut_one ws q1]
   refine⟨by omega,⟨q1,q2⟩,m1,fun _=>⟨hkeep,hmes _ _ _ _ _ _ _ _⟩,fun hq=> ?_⟩
   rcases m2 with m2|⟨m2,m3⟩
   ·rw[m2] at hq;cases hq
   refine⟨fun hq2=>(by rw[m2] at hq2;cases hq2),fun _=>⟨⟨by omega,by omega,by omega⟩,⟨by omega,by omega,by omega⟩,room_of ?_ (by omega),m3,hmes _ _ _ _ _ _ _ _⟩⟩
   rw[List.length_take,List.length_take,List.length_drop,List.length_drop];omega
 ·refine⟨fun _=>trivial,fun hq=> ?_⟩
  have hq:=of_decide_eq_false hq
  have hws:ws=[]:=List.eq_nil_of_length_eq_zero (by omega)
  subst hws
  obtain⟨e1,j,e2,e3,e4⟩:=ord_end hval ht hu ho
  have hord:=valid_ordered' hval
  have hordu:=valid_ordered' ho.valid
  refine⟨hord,hordu,⟨⟨by omega,by omega⟩,e1,⟨(madeT v seeds).2.1.toNat,j,by omega,e2,rfl,e3,e4⟩,rfl⟩, ?_⟩
  rintro a b c i ⟨⟨k1,k2⟩,w1,⟨k,j,w2,w3,rfl,w4,w5⟩,rfl⟩
  refine⟨fun hc=> ?_,fun hc=> ?_⟩
  ·have hc:i<(madeT v seeds).1.length:=of_decide_eq_true hc
   have hcl:=cnt_le (p:=fun q=>w4beq ((madeT v seeds).1.getD q zn).2.2.2.2.1 ((madeT v seeds).1.getD k zn).2.2.2.2.1) i.toNat
   rw[i64w (n:=i+1) (by omega) (by omega),i64w (by omega) (by omega)]
   have hmes:∀l a b c l' a' b' c',TreeOrders.mes22 v seeds keys l ((madeT v seeds).1.length:Int) a b c (i+1)<TreeOrders.mes22 v seeds keys l' ((madeT v seeds).1.length:Int) a' b' c' i:=fun _ _ _ _ _ _ _ _=>by simp only[TreeOrders.mes22];omega
   refine⟨⟨k1,hc⟩,fun hq=>⟨⟨⟨by omega,by omega⟩,w1,⟨k,j,w2,w3,rfl,w4,w5⟩, ?_⟩,hmes _ _ _ _ _ _ _ _⟩,fun hq=>⟨⟨⟨by omega,by omega⟩,w1,⟨k,j,w2,w3,rfl,w4,w5⟩, ?_⟩,hmes _ _ _ _ _ _ _ _⟩⟩
   ·rw[show(i+1).toNat=i.toNat+1 by omega,cnt,if_pos hq];omega
   ·rw[show(i+1).toNat=i.toNat+1 by omega,cnt,if_neg (by rw[hq];decide)];omega
  ·have hc:¬i<(madeT v seeds).1.length:=of_decide_eq_false hc
   refine⟨fun a b=>⟨a,b⟩, ?_⟩
   rw[show w4beq ((madeT v seeds).1.getD k zn).2.2.2.2.1 b.2.2.2.2.1=true from (w4beq_iff _ _).2 w1]
   by_cases hkj:k=j
   ·subst hkj
    rw[w5,b32_self,Bool.cond_true_right,Bool.or_true];rfl
   ·have h2:=cnt_two (p:=fun q=>w4beq ((madeT v seeds).1.getD q zn).2.2.2.2.1 ((madeT v seeds).1.getD k zn).2.2.2.2.1) (n:=i.toNat) (show k<i.toNat by omega) (show j<i.toNat by omega) hkj ((w4beq_iff _ _).2 rfl) ((w4beq_iff _ _).2 w4)
    rw[decide_eq_true (show((cnt _ i.toNat:Nat):Int)>1 by omega)];rfl
end Lc
