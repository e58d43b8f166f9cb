/- The tree of headers: trees with some side nodes less: the function of the program as a plain function, and the proof of its condition. -/
import Derived.Test.YtlhdieoemhjjiaaGreatDoorTrees
import Derived.Test.YtlhdieoemhjjiaaGreatDoorRulings
set_option linter.unusedVariables false
set_option linter.unusedSimpArgs false
set_option maxRecDepth 100000
namespace Lc
open Go
def kidB (l:List Nd)(gone:List Bool)(i j:Nat):Bool:=decide (0<j)&& !gone.getD j false&&decide ((l.getD j zn).2.2.1.toNat=i)
def kidsN (l:List Nd)(gone:List Bool)(i:Nat):Nat:=cnt (kidB l gone i) l.length
def candB (t:Tre)(gone:List Bool)(i:Nat):Bool:= !(marksT t).getD i false&& !gone.getD i false&&decide (kidsN t.1 gone i=0)
def leastUp (t:Tre)(gone:List Bool):Nat→Int
 |0=> -1
 |i+1=>if candB t gone i=true∧(leastUp t gone i<0∨¬N4 (t.1.getD (leastUp t gone i).toNat zn).2.2.2.2.1<N4 (t.1.getD i zn).2.2.2.2.1) then(i:Int) else leastUp t gone i
def leastT (t:Tre)(gone:List Bool):Nat:=(leastUp t gone t.1.length).toNat
def trimGo (t:Tre):Nat→List Bool→List Bool
 |0,gone=>gone
 |k+1,gone=>trimGo t k (gone.set (leastT t gone) true)
def goneT (t:Tre)(most:Int):List Bool:=trimGo t (sideN t-(max most 0).toNat) (List.replicate t.1.length false)
noncomputable def trimT (t:Tre)(most:Int):Tre:=if orderedT t=false then t else withoutT t (goneT t most)
def leftB (t:Tre)(gone:List Bool)(i:Nat):Bool:= !(marksT t).getD i false&& !gone.getD i false
theorem least_cand {t:Tre}{gone:List Bool}:∀i,(leastUp t gone i= -1∧∀j,j<i→candB t gone j=false)∨∃k:Nat,k<i∧leastUp t gone i=k∧candB t gone k=true
 |0=> .inl ⟨rfl,fun j h=>by omega⟩
 |i+1=>by
  rw[leastUp]
  by_cases h:candB t gone i=true∧(leastUp t gone i<0∨¬N4 (t.1.getD (leastUp t gone i).toNat zn).2.2.2.2.1<N4 (t.1.getD i zn).2.2.2.2.1)
  ·rw[if_pos h]
   exact .inr ⟨i,by omega,rfl,h.1⟩
  ·rw[if_neg h]
   rcases least_cand (t:=t) (gone:=gone) i with⟨h1,h2⟩|⟨k,h1,h2,h3⟩
   ·refine .inl ⟨h1,fun j hj=> ?_⟩
    by_cases e:j=i
    ·subst e
     cases hq:candB t gone j with
     |false=>rfl
     |true=>exact absurd ⟨hq,.inl (by omega)⟩ h
    ·exact h2 j (by omega)
   ·exact .inr ⟨k,by omega,h2,h3⟩
structure TrimI (t:Tre)(gone:List Bool):Prop where
 ord:orderedP t
 len:gone.length=t.1.length
 keep:∀i,i<t.1.length→(marksT t).getD i false=true→gone.getD i false=false
theorem mark_zero {t:Tre}(h:orderedP t):(marksT t).getD 0 false=true:=by
 rw[marks_get (by have:=h.1;have:=h.2.1;omega)]
 exact(path_up h.2.2.2 _ (by have:=h.1;have:=h.2.1;omega)).1
theorem mark_up {t:Tre}(h:orderedP t){j:Nat}(h0:0<j)(hj:j<t.1.length)(hm:(marksT t).getD j false=true):(marksT t).getD (t.1.getD j zn).2.2.1.toNat false=true:=by
 obtain⟨p1,p2⟩:=h.2.2.2 j h0 hj
 rw[marks_get hj] at hm
 rw[marks_get (by omega)]
 exact(path_up h.2.2.2 _ (by have:=h.1;have:=h.2.1;omega)).2 j hm h0
theorem cand_ex {t:Tre}{gone:List Bool}(h:TrimI t gone)(hpos:0<cnt (leftB t gone) t.1.length):∃k,k<t.1.length∧candB t gone k=true:=by
 have key:∀d n,n+d=t.1.length→n<t.1.length→leftB t gone n=true→∃k,k<t.1.length∧candB t gone k=true:=by
  intro d
  induction d using Nat.strongRecOn with
  |_ d ih=>
   intro n hn hlt hl
   by_cases hk:kidsN t.1 gone n=0
   ·refine⟨n,hlt, ?_⟩
    unfold candB
    unfold leftB at hl
    rw[hl,hk];rfl
   ·obtain⟨j,hj,hb⟩:=cnt_pos _ (Nat.pos_of_ne_zero hk)
    simp only[kidB,Bool.and_eq_true,decide_eq_true_eq,Bool.not_eq_true'] at hb
    obtain⟨⟨b1,b2⟩,b3⟩:=hb
    obtain⟨p1,p2⟩:=h.ord.2.2.2 j b1 hj
    refine ih (t.1.length-j) (by omega) j (by omega) hj ?_
    unfold leftB
    have:(marksT t).getD j false=false:=by
     cases hq:(marksT t).getD j false with
     |false=>rfl
     |true=>
      have:=mark_up h.ord b1 hj hq
      rw[b3] at this
      unfold leftB at hl
      rw[this] at hl;cases hl
    rw[this,b2];rfl
 obtain⟨n,h1,h2⟩:=cnt_pos _ hpos
 exact key (t.1.length-n) n (by omega) h1 h2
theorem least_ok {t:Tre}{gone:List Bool}(h:TrimI t gone)(hpos:0<cnt (leftB t gone) t.1.length):
 leastUp t gone t.1.length=(leastT t gone:Nat)∧leastT t gone<t.1.length∧candB t gone (leastT t gone)=true∧0<leastT t gone:=by
 rcases least_cand (t:=t) (gone:=gone) t.1.length with⟨h1,h2⟩|⟨k,h1,h2,h3⟩
 ·obtain⟨k,g1,g2⟩:=cand_ex h hpos
  rw[h2 k g1] at g2;cases g2
 ·have e:leastT t gone=k:=by rw[leastT,h2,Int.toNat_natCast]
  rw[e]
  refine⟨h2,h1,h3,Nat.pos_of_ne_zero (fun hz=> ?_)⟩
  subst hz
  simp only[candB,Bool.and_eq_true,Bool.not_eq_true'] at h3
  rw[mark_zero h.ord] at h3
  exact absurd h3.1.1 (by decide)
theorem TrimI.next {t:Tre}{gone:List Bool}(h:TrimI t gone)(hpos:0<cnt (leftB t gone) t.1.length):
 TrimI t (gone.set (leastT t gone) true)∧cnt (leftB t gone) t.1.length=cnt (leftB t (gone.set (leastT t gone) true)) t.1.length+1∧
 (∀i,i<t.1.length→kidsN t.1 gone i=kidsN t.1 (gone.set (leastT t gone) true) i+if i=(t.1.getD (leastT t gone) zn).2.2.1.toNat then 1 else 0):=by
 obtain⟨h1,h2,h3,h4⟩:=least_ok h hpos
 generalize leastT t gone=k at*
 have hk:=h3
 simp only[candB,Bool.and_eq_true,Bool.not_eq_true'] at hk
 obtain⟨⟨c1,c2⟩,c3⟩:=hk
 have hset:∀j,j≠k→(gone.set k true).getD j false=gone.getD j false:=fun j hj=>by rw[gget_set,if_neg (by omega)]
 have hself:(gone.set k true).getD k false=true:=by rw[gget_set,if_pos ⟨rfl,by rw[h.len];exact h2⟩]
 refine⟨⟨h.ord,by rw[List.length_set];exact h.len,fun i hi hm=> ?_⟩, ?_,fun i hi=> ?_⟩
 ·rw[hset i (fun e=>by rw[e,c1] at hm;cases hm)];exact h.keep i hi hm
 ·refine cnt_less (k:=k) _ h2 (by unfold leftB;rw[c1,c2];rfl) (by unfold leftB;rw[hself];simp) (fun j hj=> ?_)
  unfold leftB;rw[hset j hj]
 ·by_cases e:i=(t.1.getD k zn).2.2.1.toNat
  ·rw[if_pos e]
   refine cnt_less (k:=k) _ h2 ?_ ?_ (fun j hj=> ?_)
   ·unfold kidB;rw[c2,decide_eq_true h4,decide_eq_true e.symm];rfl
   ·unfold kidB;rw[hself];simp
   ·unfold kidB;rw[hset j hj]
  ·rw[if_neg e]
   refine cnt_same _ (fun j hj=> ?_)
   by_cases ej:j=k
   ·subst ej
    unfold kidB
    rw[show decide ((t.1.getD j zn).2.2.1.toNat=i)=false from decide_eq_false (fun h=>e h.symm),Bool.and_false,Bool.and_false]
   ·unfold kidB;rw[hset j ej]
def NTrim.pre (t:Tre)(most:Int):Prop:=TreOk t∧t.1.length≤5000
noncomputable def NTrim.fn (t:Tre)(most:Int):Tre:=trimT t most
def kidsI (t:Tre)(kids:List Int)(gone:List Bool):Prop:=kids.length=t.1.length∧∀i,i<t.1.length→kids.getD i 0=(kidsN t.1 gone i:Nat)
def kidU (l:List Nd)(m i j:Nat):Bool:=decide (0<j)&&decide (j≤m)&&decide ((l.getD j zn).2.2.1.toNat=i)
theorem kidU_yes {l:List Nd}{m i j:Nat}(h1:0<j)(h2:j≤m)(h3:(l.getD j zn).2.2.1.toNat=i):kidU l m i j=true:=by
 unfold kidU;rw[decide_eq_true h1,decide_eq_true h2,decide_eq_true h3];rfl
theorem kidU_no {l:List Nd}{m i j:Nat}(h:¬(0<j∧j≤m∧(l.getD j zn).2.2.1.toNat=i)):kidU l m i j=false:=by
 cases hq:kidU l m i j with
 |false=>rfl
 |true=>
  unfold kidU at hq
  simp only[Bool.and_eq_true,decide_eq_true_eq] at hq
  exact absurd ⟨hq.1.1,hq.1.2,hq.2⟩ h
def NTrim.inv6 (t:Tre)(most:Int)(z:Tre)(kids:List Int)(i:Int):Prop:=
 0≤i∧i+1≤t.1.length∧kids.length=t.1.length∧∀q,q<t.1.length→kids.getD q 0=(cnt (kidU t.1 i.toNat q) t.1.length:Nat)
def NTrim.mes6 (t:Tre)(most:Int)(z:Tre)(kids:List Int)(i:Int):Nat:=(t.1.length-i).toNat
def NTrim.inv11 (t:Tre)(most:Int)(z:Tre)(side:Int)(kids:List Int)(gone:List Bool):Prop:=
 TrimI t gone∧kidsI t kids gone∧side=(cnt (leftB t gone) t.1.length:Nat)∧goneT t most=trimGo t (side.toNat-(max most 0).toNat) gone
def NTrim.mes11 (t:Tre)(most:Int)(z:Tre)(side:Int)(kids:List Int)(gone:List Bool):Nat:=side.toNat
def NTrim.inv15 (t:Tre)(most s:Int)(z:Tre)(kids:List Int)(gone:List Bool)(a i:Int):Prop:=
 NTrim.inv11 t most z s kids gone∧0≤i∧i≤t.1.length∧a=leastUp t gone i.toNat
def NTrim.mes15 (t:Tre)(most s:Int)(z:Tre)(kids:List Int)(gone:List Bool)(a i:Int):Nat:=(t.1.length-i).toNat
def NTrim.VC :Prop:=∀(x0:Tre) (x1:Int),NTrim.pre x0 x1→NOrdered.pre x0∧(((!(NOrdered.fn x0))=true→NCopied.pre x0∧(Ret1 (NCopied.fn x0) (NTrim.fn x0 x1)))∧((!(NOrdered.fn x0))=false→NChain.pre x0∧(0≤(x0.1.length:Int)∧(x0.1.length:Int)≤(x0.1.length:Int))∧Room ((x0.1.length:Int)).toNat 8∧(0≤(1:Int)∧(1:Int)≤(x0.1.length:Int)∧(x0.1.length:Int)≤(x0.1.length:Int))∧(let v29:(List Nd):=((x0.1.drop (Int.toNat (1:Int))).take ((Int.toNat (x0.1.length:Int))-(Int.toNat (1:Int))))
 (NTrim.inv6 x0 x1 zt (List.replicate ((x0.1.length:Int)).toNat (0:Int)) (0:Int)∧∀(v4:Tre) (v7:(List Int)) (v31:Int),NTrim.inv6 x0 x1 v4 v7 v31→(((decide (v31<(v29.length:Int)))=true→(0≤v31∧v31<(v29.length:Int))∧(let v34:Nd:=(v29.getD (Int.toNat v31) zn)
 (let v9h:Nd:=zn
 (0≤v34.2.2.1∧v34.2.2.1<(v7.length:Int))∧(let v40:Int:=(IntKind.i64.wrap ((v7.getD (Int.toNat v34.2.2.1) (0:Int))+(1:Int)))
 (0≤v34.2.2.1∧v34.2.2.1<(v7.length:Int))∧(NTrim.inv6 x0 x1 v4 (v7.set (Int.toNat v34.2.2.1) v40) (IntKind.i64.wrap (v31+(1:Int)))∧NTrim.mes6 x0 x1 v4 (v7.set (Int.toNat v34.2.2.1) v40) (IntKind.i64.wrap (v31+(1:Int)))<NTrim.mes6 x0 x1 v4 v7 v31)))))∧((decide (v31<(v29.length:Int)))=false→(0≤(x0.1.length:Int)∧(x0.1.length:Int)≤(x0.1.length:Int))∧Room ((x0.1.length:Int)).toNat 1∧(NTrim.inv11 x0 x1 v4 ((NChain.fn x0).2) v7 (List.replicate ((x0.1.length:Int)).toNat false)∧∀(v4_1:Tre) (v6:Int) (v7_1:(List Int)) (v10:(List Bool)),NTrim.inv11 x0 x1 v4_1 v6 v7_1 v10→(((decide (v6>(if(0:Int)>x1 then(0:Int) else x1)))=true→(NTrim.inv15 x0 x1 v6 v4_1 v7_1 v10 (-1:Int) (0:Int)∧∀(v4_2:Tre) (v7_2:(List Int)) (v10_1:(List Bool)) (v11:Int) (v56:Int),NTrim.inv15 x0 x1 v6 v4_2 v7_2 v10_1 v11 v56→(((decide (v56<(x0.1.length:Int)))=true→(0≤v56∧v56<((NChain.fn x0).1.length:Int))∧(((NChain.fn x0).1.getD (Int.toNat v56) false)=false→((NChain.fn x0).1.getD (Int.toNat v56) false)=false)∧(((NChain.fn x0).1.getD (Int.toNat v56) false)=false→((NChain.fn x0).1.getD (Int.toNat v56) false)=false)∧(((NChain.fn x0).1.getD (Int.toNat v56) false)=false→(0≤v56∧v56<(v10_1.length:Int)))∧(((NChain.fn x0).1.getD (Int.toNat v56) false)=false→((NChain.fn x0).1.getD (Int.toNat v56) false)=false)∧(((NChain.fn x0).1.getD (Int.toNat v56) false)=false→((NChain.fn x0).1.getD (Int.toNat v56) false)=false)∧(let v68:Bool:=(bif ((NChain.fn x0).1.getD (Int.toNat v56) false) then true else(v10_1.getD (Int.toNat v56) false))
 (v68=false→v68=false)∧(v68=false→v68=false)∧(v68=false→(0≤v56∧v56<(v7_2.length:Int)))∧(v68=false→v68=false)∧(v68=false→v68=false)∧(v68=false→v68=false)∧(let v75:Bool:=(bif v68 then true else(decide ((v7_2.getD (Int.toNat v56) (0:Int))>(0:Int))))
 ((v75=true→(NTrim.inv15 x0 x1 v6 v4_2 v7_2 v10_1 v11 (IntKind.i64.wrap (v56+(1:Int)))∧NTrim.mes15 x0 x1 v6 v4_2 v7_2 v10_1 v11 (IntKind.i64.wrap (v56+(1:Int)))<NTrim.mes15 x0 x1 v6 v4_2 v7_2 v10_1 v11 v56))∧(v75=false→((decide (v11<(0:Int)))=false→(decide (v11<(0:Int)))=false)∧((decide (v11<(0:Int)))=false→(decide (v11<(0:Int)))=false)∧((decide (v11<(0:Int)))=false→(decide (v11<(0:Int)))=false)∧((decide (v11<(0:Int)))=false→(0≤v11∧v11<(x0.1.length:Int)))∧((decide (v11<(0:Int)))=false→(decide (v11<(0:Int)))=false)∧((decide (v11<(0:Int)))=false→(decide (v11<(0:Int)))=false)∧((decide (v11<(0:Int)))=false→(decide (v11<(0:Int)))=false)∧((decide (v11<(0:Int)))=false→(decide (v11<(0:Int)))=false)∧((decide (v11<(0:Int)))=false→(decide (v11<(0:Int)))=false)∧((decide (v11<(0:Int)))=false→(0≤v56∧v56<(x0.1.length:Int)))∧((decide (v11<(0:Int)))=false→(decide (v11<(0:Int)))=false)∧((decide (v11<(0:Int)))=false→(decide (v11<(0:Int)))=false)∧((decide (v11<(0:Int)))=false→(decide (v11<(0:Int)))=false)∧((decide (v11<(0:Int)))=false→(decide (v11<(0:Int)))=false)∧((decide (v11<(0:Int)))=false→NLess.pre ((x0.1.getD (Int.toNat v11) zn).2.2.2.2.1) ((x0.1.getD (Int.toNat v56) zn).2.2.2.2.1))∧((decide (v11<(0:Int)))=false→(decide (v11<(0:Int)))=false)∧((decide (v11<(0:Int)))=false→(decide (v11<(0:Int)))=false)∧(let v93:Bool:=(bif (decide (v11<(0:Int))) then true else(!(NLess.fn ((x0.1.getD (Int.toNat v11) zn).2.2.2.2.1) ((x0.1.getD (Int.toNat v56) zn).2.2.2.2.1))))
 ((v93=true→(NTrim.inv15 x0 x1 v6 v4_2 v7_2 v10_1 v56 (IntKind.i64.wrap (v56+(1:Int)))∧NTrim.mes15 x0 x1 v6 v4_2 v7_2 v10_1 v56 (IntKind.i64.wrap (v56+(1:Int)))<NTrim.mes15 x0 x1 v6 v4_2 v7_2 v10_1 v11 v56))∧(v93=false→(NTrim.inv15 x0 x1 v6 v4_2 v7_2 v10_1 v11 (IntKind.i64.wrap (v56+(1:Int)))∧NTrim.mes15 x0 x1 v6 v4_2 v7_2 v10_1 v11 (IntKind.i64.wrap (v56+(1:Int)))<NTrim.mes15 x0 x1 v6 v4_2 v7_2 v10_1 v11 v56)))))))))∧((decide (v56<(x0.1.length:Int)))=false→(0≤v11∧v11<(v10_1.length:Int))∧(0≤v11∧v11<(x0.1.length:Int))∧(let v105:Int:=(x0.1.getD (Int.toNat v11) zn).2.2.1
 (0≤v105∧v105<(v7_2.length:Int))∧(let v108:Int:=(IntKind.i64.wrap ((v7_2.getD (Int.toNat v105) (0:Int))-(1:Int)))
 (0≤v105∧v105<(v7_2.length:Int))∧(NTrim.inv11 x0 x1 v4_2 (IntKind.i64.wrap (v6-(1:Int))) (v7_2.set (Int.toNat v105) v108) (v10_1.set (Int.toNat v11) true)∧NTrim.mes11 x0 x1 v4_2 (IntKind.i64.wrap (v6-(1:Int))) (v7_2.set (Int.toNat v105) v108) (v10_1.set (Int.toNat v11) true)<NTrim.mes11 x0 x1 v4_1 v6 v7_1 v10)))))))∧((decide (v6>(if(0:Int)>x1 then(0:Int) else x1)))=false→NWithout.pre x0 v10∧(Ret1 (NWithout.fn x0 v10) (NTrim.fn x0 x1)))))))))))
theorem max_if (most:Int):(if(0:Int)>most then(0:Int) else most)=max most 0:=by split<;>omega
theorem NTrim.vc :NTrim.VC:=by
 rintro t most ⟨ht,hl⟩
 simp only[imp_self,true_and,Bool.cond_true_left,NOrdered.fn,NCopied.fn,NTrim.fn,NWithout.fn,NLess.fn,ret1,max_if]
 refine⟨(show t.1.length≤1000000000 by omega),fun h=>⟨hl, ?_⟩,fun h=> ?_⟩
 ·rw[trimT,if_pos (by simpa using h)]
 have hb:orderedT t=true:=by simpa using h
 have ho:=ordered_iff.1 hb
 have h1l:1≤t.1.length:=by have:=ho.1;have:=ho.2.1;omega
 simp only[tail_len t.1 h1l]
 refine⟨⟨ho,by omega⟩,⟨by omega,by omega⟩,room_of (by omega) (by omega),⟨by omega,by omega,by omega⟩,⟨by omega,by omega,by simp,fun q hq=> ?_⟩, ?_⟩
 ·rw[cnt_zero _ (fun j hj=>kidU_no (fun h=>by have:=h.1;have:=h.2.1;omega))]
  rw[List.getD_eq_getElem?_getD,List.getElem?_replicate,if_pos (by omega)];rfl
 rintro z kids i ⟨k1,k2,k3,k4⟩
 refine⟨fun hc=> ?_,fun hc=> ?_⟩
 ·have hc:=of_decide_eq_true hc
  rw[tail_get t.1 (i:=i.toNat) (by omega),i64w (n:=i+1) (by omega) (by omega)]
  obtain⟨p1,p2⟩:=ho.2.2.2 (i.toNat+1) (by omega) (by omega)
  have hq:=k4 (t.1.getD (i.toNat+1) zn).2.2.1.toNat (by omega)
  have hcl:=cnt_le (p:=kidU t.1 i.toNat (t.1.getD (i.toNat+1) zn).2.2.1.toNat) t.1.length
  rw[hq,i64w (by omega) (by omega)]
  refine⟨⟨k1,by omega⟩,⟨p1,by omega⟩,⟨p1,by omega⟩,⟨by omega,by omega,by rw[List.length_set];exact k3,fun q hq2=> ?_⟩,by simp only[NTrim.mes6];omega⟩
  rw[gget_set,show(i+1).toNat=i.toNat+1 by omega]
  have hne:∀j,j≠i.toNat+1→kidU t.1 (i.toNat+1) q j=kidU t.1 i.toNat q j:=fun j hj=>by
   unfold kidU
   rw[show decide (j≤i.toNat+1)=decide (j≤i.toNat) from decide_eq_decide.2 (by omega)]
  by_cases e:(t.1.getD (i.toNat+1) zn).2.2.1.toNat=q
  ·rw[if_pos ⟨e,by omega⟩,e]
   have:=cnt_less (p:=kidU t.1 (i.toNat+1) q) (q:=kidU t.1 i.toNat q) (k:=i.toNat+1) t.1.length (by omega) (kidU_yes (by omega) (Nat.le_refl _) e) (kidU_no (fun h=>by have:=h.2.1;omega)) hne
   omega
  ·rw[if_neg (by omega),k4 q hq2]
   rw[cnt_same (p:=kidU t.1 i.toNat q) (q:=kidU t.1 (i.toNat+1) q) t.1.length (fun j hj=> ?_)]
   by_cases ej:j=i.toNat+1
   ·subst ej;rw[kidU_no (fun h=>by have:=h.2.1;omega),kidU_no (fun h=>e h.2.2)]
   ·exact(hne j ej).symm
 have hc:=of_decide_eq_false hc
 have hgone0:∀j,(List.replicate ((t.1.length:Int)).toNat false).getD j false=false:=fun j=>by
  rw[List.getD_eq_getElem?_getD,List.getElem?_replicate];split<;>rfl
 refine⟨⟨by omega,by omega⟩,room_of (by omega) (by omega),⟨⟨ho,by simp,fun j hj hm=>hgone0 j⟩,⟨k3,fun q hq=> ?_⟩, ?_, ?_⟩, ?_⟩
 ·rw[k4 q hq,kidsN]
  congr 1
  refine cnt_same _ (fun j hj=> ?_)
  unfold kidU kidB
  rw[hgone0 j,show decide (j≤i.toNat)=true from decide_eq_true (by omega)];rfl
 ·show((sideN t:Nat):Int)=_
  rw[sideN]
  congr 1
  refine cnt_same _ (fun j hj=> ?_)
  unfold leftB
  rw[hgone0 j];simp
 ·show goneT t most=trimGo t ((sideN t:Int).toNat-_) _
  rw[goneT,Int.toNat_natCast,Int.toNat_natCast]
 rintro z2 side kids2 gone ⟨q1,q2,rfl,q4⟩
 have hcl:=cnt_le (p:=leftB t gone) t.1.length
 rw[i64w (by omega) (by omega)]
 refine⟨fun hc2=> ?_,fun hc2=> ?_⟩
 ·have hc2:=of_decide_eq_true hc2
  have hpos:0<cnt (leftB t gone) t.1.length:=by omega
  refine⟨⟨⟨q1,q2,rfl,q4⟩,by omega,by omega,rfl⟩, ?_⟩
  rintro z3 kids3 gone3 a i ⟨⟨r1,r2,r3,r4⟩,r5,r6,rfl⟩
  refine⟨fun hc3=> ?_,fun hc3=> ?_⟩
  ·have hc3:i<t.1.length:=of_decide_eq_true hc3
   have hi:i.toNat<t.1.length:=by omega
   rw[i64w (n:=i+1) (by omega) (by omega)]
   have e1:(i+1).toNat=i.toNat+1:=by omega
   have hkid:=r2.2 i.toNat hi
   have hmes:∀z k g a z' k' g' a',NTrim.mes15 t most (cnt (leftB t gone) t.1.length:Nat) z k g a (i+1)<NTrim.mes15 t most (cnt (leftB t gone) t.1.length:Nat) z' k' g' a' i:=fun _ _ _ _ _ _ _ _=>by simp only[NTrim.mes15];omega
   have hbase:NTrim.inv11 t most z3 (cnt (leftB t gone) t.1.length:Nat) kids3 gone3:=⟨r1,r2,r3,r4⟩
   have hcand:candB t gone3 i.toNat=(!((marksT t).getD i.toNat false||gone3.getD i.toNat false||decide (kids3.getD i.toNat 0>0))):=by
    unfold candB
    rw[hkid,Bool.not_or,Bool.not_or]
    congr 1
    rw[←decide_not,decide_eq_decide];omega
   have hap:=least_cand (t:=t) (gone:=gone3) i.toNat
   refine⟨⟨r5,by show _<((marksT t).length:Int);rw[marks_len];exact hc3⟩,fun _=>⟨r5,by rw[r1.len];exact hc3⟩,fun _=>⟨r5,by rw[r2.1];exact hc3⟩,fun hs=>⟨⟨hbase,by omega,by omega, ?_⟩,hmes _ _ _ _ _ _ _ _⟩,fun hs=>⟨fun hn=> ?_,fun _=>⟨r5,hc3⟩,fun hn=> ?_,fun hy=>⟨⟨hbase,by omega,by omega, ?_⟩,hmes _ _ _ _ _ _ _ _⟩,fun hy=>⟨⟨hbase,by omega,by omega, ?_⟩,hmes _ _ _ _ _ _ _ _⟩⟩⟩
   ·rw[e1,leastUp,if_neg]
    rintro⟨hx,_⟩
    rw[hcand] at hx
    have hs:((marksT t).getD i.toNat false||gone3.getD i.toNat false||decide (kids3.getD i.toNat 0>0))=true:=hs
    rw[hs] at hx;cases hx
   ·have hn:=of_decide_eq_false hn
    rcases hap with⟨h1,_⟩|⟨k,h1,h2,_⟩<;>omega
   ·have hn:=of_decide_eq_false hn
    refine⟨(get_at zn ht.1 ?_).2.2,(get_at zn ht.1 hi).2.2⟩
    rcases hap with⟨h1,_⟩|⟨k,h1,h2,_⟩<;>omega
   ·have hs:((marksT t).getD i.toNat false||gone3.getD i.toNat false||decide (kids3.getD i.toNat 0>0))=false:=hs
    rw[e1,leastUp,if_pos]
    ·exact(Int.toNat_of_nonneg r5).symm
    ·refine⟨by rw[hcand,hs];rfl, ?_⟩
     simp only[Bool.or_eq_true,decide_eq_true_eq,Bool.not_eq_true',decide_eq_false_iff_not] at hy
     exact hy
   ·rw[e1,leastUp,if_neg]
    rintro⟨_,hx⟩
    simp only[Bool.or_eq_false_iff,decide_eq_false_iff_not,Bool.not_eq_false',decide_eq_true_eq] at hy
    rcases hx with hx|hx
    ·exact hy.1 hx
    ·exact hx hy.2
  ·have hc3:¬i<t.1.length:=of_decide_eq_false hc3
   have e:i.toNat=t.1.length:=by omega
   have hpos3:0<cnt (leftB t gone3) t.1.length:=by omega
   obtain⟨g1,g2,g3,g4⟩:=least_ok r1 hpos3
   obtain⟨n1,n2,n3⟩:=r1.next hpos3
   obtain⟨p1,p2⟩:=ho.2.2.2 _ g4 g2
   rw[e,g1,Int.toNat_natCast]
   have hkp:=r2.2 (t.1.getD (leastT t gone3) zn).2.2.1.toNat (by omega)
   have hkn:=n3 (t.1.getD (leastT t gone3) zn).2.2.1.toNat (by omega)
   rw[if_pos rfl] at hkn
   have hkle:=cnt_le (p:=kidB t.1 gone3 (t.1.getD (leastT t gone3) zn).2.2.1.toNat) t.1.length
   have hkle:kidsN t.1 gone3 (t.1.getD (leastT t gone3) zn).2.2.1.toNat≤t.1.length:=hkle
   rw[hkp,i64w (n:=((kidsN t.1 gone3 _:Nat):Int)-1) (by omega) (by omega)]
   refine⟨⟨by omega,by rw[r1.len];omega⟩,⟨by omega,by omega⟩,⟨p1,by rw[r2.1];omega⟩,⟨p1,by rw[r2.1];omega⟩,⟨n1,⟨by rw[List.length_set];exact r2.1,fun q hq=> ?_⟩,by omega, ?_⟩,by simp only[NTrim.mes11];omega⟩
   ·rw[gget_set]
    by_cases eq:(t.1.getD (leastT t gone3) zn).2.2.1.toNat=q
    ·rw[if_pos ⟨eq,by rw[r2.1];omega⟩]
     subst eq
     omega
    ·rw[if_neg (by omega),r2.2 q hq,n3 q hq,if_neg (fun h=>eq h.symm)];rfl
   ·rw[r4,show((cnt (leftB t gone) t.1.length:Nat):Int).toNat-(max most 0).toNat=(((cnt (leftB t gone) t.1.length:Nat):Int)-1).toNat-(max most 0).toNat+1 by omega,trimGo]
 ·have hc2:=of_decide_eq_false hc2
  refine⟨⟨ho,q1.len,by omega⟩, ?_⟩
  rw[trimT,if_neg (by rw[hb];decide),q4,show((cnt (leftB t gone) t.1.length:Nat):Int).toNat-(max most 0).toNat=0 by omega,trimGo]
end Lc
set_option maxRecDepth 100000
namespace Lc
open Go
theorem step_app {p:Par}{l r:List Nd}{cs:List Cx}{i:Nat}(h:i<l.length):(stepOk p (l++r) cs i↔stepOk p l cs i)∧(stepOk p l cs i→nextC p (l++r) cs i=nextC p l cs i):=by
 have e:(l++r).getD i zn=l.getD i zn:=getD_app zn h
 have key:∀j,j<l.length→(l++r).getD j zn=l.getD j zn:=fun j hj=>getD_app zn hj
 constructor
 ·unfold stepOk
  rw[e]
  constructor
  ·rintro⟨h1,h2,h3,h4,h5⟩
   exact⟨h1,h2,fun j hj=>by rw[←key j (by omega)];exact h3 j hj,h4,by have q:=key (l.getD i zn).2.2.1.toNat (by omega);rw[q] at h5;exact h5⟩
  ·rintro⟨h1,h2,h3,h4,h5⟩
   exact⟨h1,h2,fun j hj=>by rw[key j (by omega)];exact h3 j hj,h4,by have q:=key (l.getD i zn).2.2.1.toNat (by omega);rw[q];exact h5⟩
 ·intro _;unfold nextC;rw[e]
theorem ctxGo_app {p:Par}{l r:List Nd}:∀(k:Nat) (cs:List Cx),cs.length+k≤l.length→ctxGo p (l++r) k cs=ctxGo p l k cs
 |0,cs,_=>rfl
 |k+1,cs,h=>by
  obtain⟨h1,h2⟩:=step_app (p:=p) (r:=r) (cs:=cs) (show cs.length<l.length by omega)
  by_cases hs:stepOk p l cs cs.length
  ·rw[ctxGo_yes (by omega) (h1.2 hs),ctxGo_yes (by omega) hs,h2 hs]
   exact ctxGo_app k _ (by rw[List.length_append,List.length_singleton];omega)
  ·rw[ctxGo_no (by omega) (fun q=>hs (h1.1 q)),ctxGo_no (by omega) hs]
theorem ctxGo_more {p:Par}{l:List Nd}:∀(k:Nat) (cs cs':List Cx),ctxGo p l k cs=some cs'→stepOk p l cs' cs'.length→ctxGo p l (k+1) cs=some (cs'++[nextC p l cs' cs'.length])
 |0,cs,cs',h,hs=>by
  rw[ctxGo,Option.some.injEq] at h
  subst h
  rw[ctxGo_yes (by omega) hs];rfl
 |k+1,cs,cs',h,hs=>by
  by_cases hq:stepOk p l cs cs.length
  ·rw[ctxGo_yes (by omega) hq] at h⊢
   exact ctxGo_more k _ cs' h hs
  ·rw[ctxGo_no (by omega) hq] at h;cases h
theorem check_time {p:Par}{c:Cx}{h:Hdr}{now:Int}(hp:PGood p)(hc:checkFn p c h now=0):checkFn p c h h.2.2.2.1=0:=by
 have hu:=hp.2.2.1.1
 unfold checkFn at hc⊢
 split at hc
 ·rename_i hr;omega
 rename_i hr
 rw[if_neg hr]
 split at hc
 ·exact absurd hc (by decide)
 rename_i hr
 rw[if_neg hr]
 split at hc
 ·exact absurd hc (by decide)
 rename_i hr
 rw[if_neg hr]
 split at hc
 ·rename_i hr;omega
 rename_i hr
 rw[if_neg hr]
 split at hc
 ·exact absurd hc (by decide)
 rename_i hr
 rw[if_neg hr]
 split at hc
 ·exact absurd hc (by decide)
 rename_i hr
 rw[if_neg hr]
 split at hc
 ·exact absurd hc (by decide)
 rename_i hr
 rw[if_neg hr,if_neg (show¬h.2.2.2.1+p.2.2.2.2.1<h.2.2.2.1 by omega)]
 split at hc
 ·exact absurd hc (by decide)
 exact hc
theorem insert_spec {p:Par}{t:Tre}{h:Hdr}{now:Int}(he:(insertT p t h now).2.2=0):
 validT p t=true∧findFn t.1 (hashH h)<0∧0≤findFn t.1 h.2.1∧checkFn p (atFn p t.1 (findFn t.1 h.2.1).toNat) h now=0∧t.1.length≠4096∧
 insertT p t h now=((t.1++[insNode p t h],firstFn (t.1++[insNode p t h]),()),(t.1.length:Int),0):=by
 unfold insertT at he⊢
 split at he
 ·exact absurd he (by decide)
 rename_i h1
 split at he
 ·exact absurd he (by decide)
 rename_i h2
 split at he
 ·exact absurd he (by decide)
 rename_i h3
 split at he
 ·rename_i h4;exact absurd he h4
 rename_i h4
 split at he
 ·exact absurd he (by decide)
 rename_i h5
 rw[if_neg h1,if_neg h2,if_neg h3,if_neg h4,if_neg h5]
 exact⟨by simpa using h1,by omega,by omega,by simpa using h4,h5,rfl⟩
theorem insert_valid {p:Par}{t:Tre}{h:Hdr}{now:Int}(hp:PGood p)(he:(insertT p t h now).2.2=0):validT p (insertT p t h now).1=true:=by
 obtain⟨h1,h2,h3,h4,h5,h6⟩:=insert_spec he
 rw[h6]
 obtain⟨cs,c1,c2⟩:=validT_iff.1 h1
 have hv:=valid_ctx c1
 have hlen:=hv.fit.2.2.1
 have hpos:=hv.fit.2.1
 have hk:=find_lt h3
 have hfit:fitT p (t.1++[insNode p t h]):=⟨hv.fit.1,by rw[List.length_append,List.length_singleton];omega,by rw[List.length_append,List.length_singleton];omega,by rw[getD_app zn (by omega)];exact hv.fit.2.2.2⟩
 rw[ctxAll_fit hv.fit,←ctxGo_app (r:=[insNode p t h]) _ _ (by rw[List.length_singleton];omega)] at c1
 have hx:(t.1++[insNode p t h]).getD cs.length zn=insNode p t h:=by rw[hv.len,getD_last]
 have hs:stepOk p (t.1++[insNode p t h]) cs cs.length:=by
  unfold stepOk
  rw[hx,hv.len]
  refine⟨h3,by show findFn t.1 h.2.1<_;omega,fun j hj e=> ?_, ?_, ?_⟩
  ·rw[getD_app zn hj] at e
   rcases find_spec t.1 (hashH h) with⟨_,f2⟩|⟨j',_,f2,_⟩
   ·exact get_at zn (P:=fun n=>n.2.1≠hashH h) f2 hj e
   ·omega
  ·show checkFn p (cs.getD (findFn t.1 h.2.1).toNat zcx) h h.2.2.2.1=0
   rw[hv.at _ hk]
   exact check_time hp h4
  ·show insNode p t h=childFn ((t.1++[insNode p t h]).getD (findFn t.1 h.2.1).toNat zn) (findFn t.1 h.2.1) h
   rw[getD_app zn hk];rfl
 have hall:=ctxGo_more _ _ _ c1 hs
 refine validT_iff.2 ⟨cs++[nextC p (t.1++[insNode p t h]) cs cs.length], ?_,rfl⟩
 show ctxAll p (t.1++[insNode p t h])=_
 rw[ctxAll_fit hfit]
 show ctxGo p (t.1++[insNode p t h]) ((t.1++[insNode p t h]).length-1) _=_
 rw[List.length_append,List.length_singleton,show t.1.length+1-1=t.1.length-1+1 by omega]
 exact hall
theorem start_valid {p:Par}(h:validFn p=true):validT p (startT p).1=true:=by
 rw[startT_fit h]
 refine validT_iff.2 ⟨[(startFn p).1], ?_, ?_⟩
 ·have hf:fitT p [startN p]:=⟨h,by simp,by simp,rfl⟩
  show ctxAll p [startN p]=_
  rw[ctxAll_fit hf];rfl
 ·show(0:Int)=firstFn [startN p]
  unfold firstFn
  rw[List.length_singleton,bestUp_one];rfl
def rootT (s i:Int):List Int:=((List.replicate 32 (0:Int)).set 0 s).set 1 (IntKind.u8.wrap i)
def backT (s n:Int):Int:=max (n-1-(if s%4=0 then s/16 else 0)) 0
noncomputable def mineT (p:Par)(t:Tre)(s i:Int):Hdr:=mineFn p (contextT p t (backT s t.1.length)).1 (rootT s i) (secFn s)
noncomputable def treeStep (p:Par)(t:Tre)(s i:Int):Tre:=
 if(contextT p t (backT s t.1.length)).2≠0 then t else if(insertT p t (mineT p t s i) 1073741824).2.2=0 then(insertT p t (mineT p t s i) 1073741824).1 else t
noncomputable def treeGo (p:Par):Tre→Int→List Int→Tre
 |t,_,[]=>t
 |t,i,s::r=>treeGo p (treeStep p t s i) (i+1) r
noncomputable def treeFn (p:Par)(seeds:List Int):Tre:=treeGo p (startT p).1 0 seeds
theorem u8rT (x:Int):0≤IntKind.u8.wrap x∧IntKind.u8.wrap x≤255:=by
 rw[show IntKind.u8.wrap x=x%256 from rfl];omega
theorem rootT_ok {s i:Int}(h:0≤s∧s≤255):HOk (rootT s i):=⟨by simp[rootT],((Bytes.zeros 32).set 0 h).set 1 (u8rT i)⟩
theorem mineT_ok {p:Par}{t:Tre}{s i:Int}(hp:PGood p)(ht:TreOk t)(hs:0≤s∧s≤255):HdrOk (mineT p t s i):=mine_ok ⟨hp,context_good hp ht,rootT_ok hs⟩
theorem step_ok {p:Par}{t:Tre}{s i:Int}(hp:PGood p)(ht:TreOk t)(hs:0≤s∧s≤255):TreOk (treeStep p t s i):=by
 unfold treeStep
 split
 ·exact ht
 split
 ·exact insert_ok ⟨⟨hp,ht⟩,mineT_ok hp ht hs,⟨by decide,by decide⟩⟩
 ·exact ht
theorem step_valid {p:Par}{t:Tre}{s i:Int}(hp:PGood p)(hv:validT p t=true):validT p (treeStep p t s i)=true:=by
 unfold treeStep
 split
 ·exact hv
 split
 ·rename_i he;exact insert_valid hp he
 ·exact hv
def MTree.pre (p:Par)(l:List Int):Prop:=PGood p∧Bytes l∧l.length≤1000
noncomputable def MTree.fn (p:Par)(l:List Int):Tre:=treeFn p l
def MTree.inv3 (p:Par)(l:List Int)(z t:Tre)(i:Int):Prop:=0≤i∧i≤l.length∧TreOk t∧treeFn p l=treeGo p t i (l.drop i.toNat)
def MTree.mes3 (p:Par)(l:List Int)(z t:Tre)(i:Int):Nat:=(l.length-i).toNat
def MTree.VC :Prop:=∀(x0:Par) (x1:(List Int)),MTree.pre x0 x1→YStart.pre x0∧(MTree.inv3 x0 x1 zt ((YStart.fn x0).1) (0:Int)∧∀(v4:Tre) (v5:Tre) (v21:Int),MTree.inv3 x0 x1 v4 v5 v21→(((decide (v21<(x1.length:Int)))=true→(0≤v21∧v21<(x1.length:Int))∧(16:Int)≠0∧(let v27:Int:=(IntKind.u8.wrap (Int.tdiv (x1.getD (Int.toNat v21) (0:Int)) (16:Int)))
 (4:Int)≠0∧(let v31:Bool:=((Int.tmod (x1.getD (Int.toNat v21) (0:Int)) (4:Int)) !=(0:Int))
 ((v31=true→(let v40:Int:=(IntKind.i64.wrap ((IntKind.i64.wrap ((v5.1.length:Int)-(1:Int)))-(0:Int)))
 YContext.pre x0 v5 (if v40>(0:Int) then v40 else(0:Int))∧(let v43:Cx:=(YContext.fn x0 v5 (if v40>(0:Int) then v40 else(0:Int))).1
 (let v44:Int:=(YContext.fn x0 v5 (if v40>(0:Int) then v40 else(0:Int))).2
 (let v10h:Cx:=zcx
 (((v44 !=(0:Int))=true→(MTree.inv3 x0 x1 v4 v5 (IntKind.i64.wrap (v21+(1:Int)))∧MTree.mes3 x0 x1 v4 v5 (IntKind.i64.wrap (v21+(1:Int)))<MTree.mes3 x0 x1 v4 v5 v21))∧((v44 !=(0:Int))=false→(let v55:(List Int):=(((List.replicate 32 (0:Int)).set 0 (x1.getD (Int.toNat v21) (0:Int))).set 1 (IntKind.u8.wrap v21))
 MSec.pre (x1.getD (Int.toNat v21) (0:Int))∧MMine.pre x0 v43 v55 (MSec.fn (x1.getD (Int.toNat v21) (0:Int)))∧(let v58:Hdr:=(MMine.fn x0 v43 v55 (MSec.fn (x1.getD (Int.toNat v21) (0:Int))))
 YInsert.pre x0 v5 v58 (1073741824:Int)∧((((YInsert.fn x0 v5 v58 (1073741824:Int)).2.2==(0:Int))=true→(MTree.inv3 x0 x1 v4 ((YInsert.fn x0 v5 v58 (1073741824:Int)).1) (IntKind.i64.wrap (v21+(1:Int)))∧MTree.mes3 x0 x1 v4 ((YInsert.fn x0 v5 v58 (1073741824:Int)).1) (IntKind.i64.wrap (v21+(1:Int)))<MTree.mes3 x0 x1 v4 v5 v21))∧(((YInsert.fn x0 v5 v58 (1073741824:Int)).2.2==(0:Int))=false→(MTree.inv3 x0 x1 v4 v5 (IntKind.i64.wrap (v21+(1:Int)))∧MTree.mes3 x0 x1 v4 v5 (IntKind.i64.wrap (v21+(1:Int)))<MTree.mes3 x0 x1 v4 v5 v21))))))))))))∧(v31=false→(let v40_1:Int:=(IntKind.i64.wrap ((IntKind.i64.wrap ((v5.1.length:Int)-(1:Int)))-(IntKind.i64.wrap v27)))
 YContext.pre x0 v5 (if v40_1>(0:Int) then v40_1 else(0:Int))∧(let v43_1:Cx:=(YContext.fn x0 v5 (if v40_1>(0:Int) then v40_1 else(0:Int))).1
 (let v44_1:Int:=(YContext.fn x0 v5 (if v40_1>(0:Int) then v40_1 else(0:Int))).2
 (let v10_1h:Cx:=zcx
 (((v44_1 !=(0:Int))=true→(MTree.inv3 x0 x1 v4 v5 (IntKind.i64.wrap (v21+(1:Int)))∧MTree.mes3 x0 x1 v4 v5 (IntKind.i64.wrap (v21+(1:Int)))<MTree.mes3 x0 x1 v4 v5 v21))∧((v44_1 !=(0:Int))=false→(let v55_1:(List Int):=(((List.replicate 32 (0:Int)).set 0 (x1.getD (Int.toNat v21) (0:Int))).set 1 (IntKind.u8.wrap v21))
 MSec.pre (x1.getD (Int.toNat v21) (0:Int))∧MMine.pre x0 v43_1 v55_1 (MSec.fn (x1.getD (Int.toNat v21) (0:Int)))∧(let v58_1:Hdr:=(MMine.fn x0 v43_1 v55_1 (MSec.fn (x1.getD (Int.toNat v21) (0:Int))))
 YInsert.pre x0 v5 v58_1 (1073741824:Int)∧(let v64:Bool:=((YInsert.fn x0 v5 v58_1 (1073741824:Int)).2.2==(0:Int))
 ((v64=true→(MTree.inv3 x0 x1 v4 ((YInsert.fn x0 v5 v58_1 (1073741824:Int)).1) (IntKind.i64.wrap (v21+(1:Int)))∧MTree.mes3 x0 x1 v4 ((YInsert.fn x0 v5 v58_1 (1073741824:Int)).1) (IntKind.i64.wrap (v21+(1:Int)))<MTree.mes3 x0 x1 v4 v5 v21))∧(v64=false→(MTree.inv3 x0 x1 v4 v5 (IntKind.i64.wrap (v21+(1:Int)))∧MTree.mes3 x0 x1 v4 v5 (IntKind.i64.wrap (v21+(1:Int)))<MTree.mes3 x0 x1 v4 v5 v21)))))))))))))))))∧((decide (v21<(x1.length:Int)))=false→(Ret1 v5 (MTree.fn x0 x1)))))
theorem MTree.vc :MTree.VC:=by
 rintro p l ⟨hp,hb,hl⟩
 simp only[YStart.fn,YContext.fn,MSec.fn,MMine.fn,YInsert.fn,MTree.fn,ret1]
 refine⟨hp,⟨by omega,by omega,startT_ok hp,rfl⟩, ?_⟩
 rintro z t i ⟨k1,k2,k3,k4⟩
 refine⟨fun hc=> ?_,fun hc=> ?_⟩
 ·have hc:i<l.length:=of_decide_eq_true hc
  rw[drop_int k1 hc,treeGo] at k4
  have hs:0≤l.getD i.toNat 0∧l.getD i.toNat 0≤255:=get_at 0 hb (by omega)
  generalize l.getD i.toNat 0=s at*
  have htl:=k3.2
  rw[i64w (n:=i+1) (by omega) (by omega),Int.tdiv_eq_ediv_of_nonneg hs.1,Int.tmod_eq_emod_of_nonneg hs.1]
  have hmes:∀z t z' t',MTree.mes3 p l z t (i+1)<MTree.mes3 p l z' t' i:=fun _ _ _ _=>by simp only[MTree.mes3];omega
  have hstep:∀u,u=treeStep p t s i→MTree.inv3 p l z u (i+1):=fun u hu=>by
   subst hu;exact⟨by omega,by omega,step_ok hp k3 hs,k4⟩
  have main:∀k:Int,k=backT s t.1.length→∀{A:Prop},(YContext.pre p t k→(((contextT p t k).2 !=0)=true→MTree.inv3 p l z t (i+1))→(((contextT p t k).2 !=0)=false→
   MMine.pre p (contextT p t k).1 (rootT s i) (secFn s)∧YInsert.pre p t (mineFn p (contextT p t k).1 (rootT s i) (secFn s)) 1073741824∧
   (((insertT p t (mineFn p (contextT p t k).1 (rootT s i) (secFn s)) 1073741824).2.2==0)=true→MTree.inv3 p l z (insertT p t (mineFn p (contextT p t k).1 (rootT s i) (secFn s)) 1073741824).1 (i+1))∧
   (((insertT p t (mineFn p (contextT p t k).1 (rootT s i) (secFn s)) 1073741824).2.2==0)=false→MTree.inv3 p l z t (i+1)))→A)→A:=by
   rintro k rfl A hA
   refine hA ⟨hp,k3⟩ (fun hq=>hstep _ ?_) (fun hq=>⟨⟨hp,context_good hp k3,rootT_ok hs⟩,⟨⟨hp,k3⟩,mineT_ok hp k3 hs,⟨by decide,by decide⟩⟩,fun he=>hstep _ ?_,fun he=>hstep _ ?_⟩)
   ·rw[treeStep,if_pos (by simpa using hq)]
   ·rw[treeStep,if_neg (by simpa using hq),if_pos (by simpa[mineT] using he)];rfl
   ·rw[treeStep,if_neg (by simpa using hq),if_neg (by simpa[mineT] using he)]
  refine⟨⟨k1,hc⟩,by decide,by decide,fun hm=> ?_,fun hm=> ?_⟩
  ·have hm:¬s%4=0:=by simpa using hm
   refine main _ ?_ (fun a1 a2 a3=>⟨a1,fun hq=>⟨a2 hq,hmes _ _ _ _⟩,fun hq=>⟨hs,(a3 hq).1,(a3 hq).2.1,fun he=>⟨(a3 hq).2.2.1 he,hmes _ _ _ _⟩,fun he=>⟨(a3 hq).2.2.2 he,hmes _ _ _ _⟩⟩⟩)
   rw[i64w (n:=(t.1.length:Int)-1) (by omega) (by omega),i64w (by omega) (by omega),backT,if_neg hm]
   split<;>omega
  ·have hm:s%4=0:=by simpa using hm
   refine main _ ?_ (fun a1 a2 a3=>⟨a1,fun hq=>⟨a2 hq,hmes _ _ _ _⟩,fun hq=>⟨hs,(a3 hq).1,(a3 hq).2.1,fun he=>⟨(a3 hq).2.2.1 he,hmes _ _ _ _⟩,fun he=>⟨(a3 hq).2.2.2 he,hmes _ _ _ _⟩⟩⟩)
   rw[u8w (by omega) (by omega),i64w (n:=(t.1.length:Int)-1) (by omega) (by omega),i64w (n:=s/16) (by omega) (by omega),i64w (by omega) (by omega),backT,if_pos hm]
   split<;>omega
 ·have hc:¬i<l.length:=of_decide_eq_false hc
  rw[k4,List.drop_eq_nil_of_le (by omega),treeGo]
theorem treeGo_ok {p:Par}(hp:PGood p):∀(l:List Int) (t:Tre) (i:Int),Bytes l→TreOk t→validT p t=true→TreOk (treeGo p t i l)∧validT p (treeGo p t i l)=true
 |[],t,i,_,h1,h2=>⟨h1,h2⟩
 |s::r,t,i,hb,h1,h2=>treeGo_ok hp r _ _ (fun x hx=>hb x (List.mem_cons_of_mem _ hx)) (step_ok hp h1 (hb s (by simp))) (step_valid hp h2)
theorem treeFn_ok {p:Par}{l:List Int}(hp:PGood p)(hv:validFn p=true)(hb:Bytes l):TreOk (treeFn p l)∧validT p (treeFn p l)=true:=
 treeGo_ok hp l _ _ hb (startT_ok hp) (start_valid hv)
def EMade.pre (v:Int)(l:List Int):Prop:=(0≤v∧v≤255)∧Bytes l
noncomputable def madeT (v:Int)(l:List Int):Tre:=treeFn (madeParams v) (l.take 14)
noncomputable def EMade.fn (v:Int)(l:List Int):Par×Tre:=(madeParams v,madeT v l)
def EMade.VC :Prop:=∀(x0:Int) (x1:(List Int)),EMade.pre x0 x1→(let v4h:Par:=(hz,((List.replicate 4 (0:Int)),((0:Int),((0:Int),((0:Int),((0:Int),([],((0:Int),((0:Int),((0:Int),()))))))))))
 MParams.pre x0∧(let v6h:Par:=(hz,((List.replicate 4 (0:Int)),((0:Int),((0:Int),((0:Int),((0:Int),([],((0:Int),((0:Int),((0:Int),()))))))))))
 KSome.pre x1 (14:Int)∧MTree.pre (MParams.fn x0) (KSome.fn x1 (14:Int))∧(Ret2 (MParams.fn x0) (MTree.fn (MParams.fn x0) (KSome.fn x1 (14:Int))) (EMade.fn x0 x1))))
theorem EMade.vc :EMade.VC:=by
 rintro v l ⟨hv,hb⟩
 simp only[MParams.fn,KSome.fn,MTree.fn,EMade.fn,ret2]
 refine⟨hv,(show(0:Int)≤14 by omega),⟨made_ok hv,fun x hx=>hb x (List.mem_of_mem_take hx), ?_⟩,rfl⟩
 show(l.take 14).length≤1000
 rw[List.length_take];omega
theorem madeT_ok {v:Int}{l:List Int}(hv:0≤v∧v≤255)(hb:Bytes l):TreOk (madeT v l)∧validT (madeParams v) (madeT v l)=true:=
 treeFn_ok (made_ok hv) (made_valid hv) (fun x hx=>hb x (List.mem_of_mem_take hx))
end Lc
set_option maxRecDepth 100000
namespace Lc
open Go
def gh :List Int:=[61,203,117,189,137,197,20,104,21,221,192,209,215,49,76,183,70,25,253,247,43,253,106,115,55,132,161,91,255,182,29,187]
def gen0 :Hdr:=(1,List.replicate 32 0,List.replicate 32 0,1000,545259519,0,())
def mh (n:Int):Hdr:=(1,gh,rootS 1,1036,545259519,n,())
theorem gen_hash :hashH gen0=gh:=by
 have e1:sum (encH gen0)=[28,135,173,55,143,147,150,49,24,127,13,173,157,52,1,21,121,31,32,137,14,92,255,16,5,126,65,136,242,106,50,185]:=by rw[sum_comp];kernel_rfl
 have e2:sum [28,135,173,55,143,147,150,49,24,127,13,173,157,52,1,21,121,31,32,137,14,92,255,16,5,126,65,136,242,106,50,185]=gh:=by rw[sum_comp];kernel_rfl
 rw[hashH,e1,e2]
theorem hash0 :hashH (mh 0)=[136,253,64,129,251,114,82,164,44,177,59,141,39,93,14,177,155,249,155,143,89,32,169,157,255,122,3,3,121,253,29,219]:=by
 have e1:sum (encH (mh 0))=[136,248,196,146,106,203,247,111,158,80,49,84,54,56,60,45,131,56,77,37,179,226,100,111,94,222,95,222,56,130,225,117]:=by rw[sum_comp];kernel_rfl
 have e2:sum [136,248,196,146,106,203,247,111,158,80,49,84,54,56,60,45,131,56,77,37,179,226,100,111,94,222,95,222,56,130,225,117]=[136,253,64,129,251,114,82,164,44,177,59,141,39,93,14,177,155,249,155,143,89,32,169,157,255,122,3,3,121,253,29,219]:=by rw[sum_comp];kernel_rfl
 rw[hashH,e1,e2]
theorem hash1 :hashH (mh 1)=[232,83,189,73,105,201,214,202,160,218,32,129,208,250,127,163,209,31,175,207,138,163,146,115,73,102,194,20,191,89,104,243]:=by
 have e1:sum (encH (mh 1))=[77,108,233,63,78,181,114,26,6,112,218,179,202,104,95,212,246,16,72,61,74,141,131,88,119,38,199,89,109,148,245,15]:=by rw[sum_comp];kernel_rfl
 have e2:sum [77,108,233,63,78,181,114,26,6,112,218,179,202,104,95,212,246,16,72,61,74,141,131,88,119,38,199,89,109,148,245,15]=[232,83,189,73,105,201,214,202,160,218,32,129,208,250,127,163,209,31,175,207,138,163,146,115,73,102,194,20,191,89,104,243]:=by rw[sum_comp];kernel_rfl
 rw[hashH,e1,e2]
theorem hash2 :hashH (mh 2)=[94,117,70,5,196,155,206,103,191,196,206,212,71,197,78,159,69,32,147,71,24,143,231,174,226,173,72,157,189,247,168,73]:=by
 have e1:sum (encH (mh 2))=[235,10,146,118,54,210,76,167,159,75,115,168,148,242,143,255,124,76,156,225,127,141,206,20,155,232,14,32,179,180,172,236]:=by rw[sum_comp];kernel_rfl
 have e2:sum [235,10,146,118,54,210,76,167,159,75,115,168,148,242,143,255,124,76,156,225,127,141,206,20,155,232,14,32,179,180,172,236]=[94,117,70,5,196,155,206,103,191,196,206,212,71,197,78,159,69,32,147,71,24,143,231,174,226,173,72,157,189,247,168,73]:=by rw[sum_comp];kernel_rfl
 rw[hashH,e1,e2]
def c0 :Cx:=(0,gh,545259519,1000,[1000],())
theorem start0 :startFn (madeParams 0)=(c0,0):=by
 rw[startFn,if_neg (by rw[made_valid (by omega)];simp)]
 have:(madeParams 0).1=gen0:=rfl
 rw[this,gen_hash];rfl
theorem next0 :nextFn (madeParams 0) c0=(545259519,0):=by decide+kernel
theorem room0 :roomFn (madeParams 0) c0=0:=by decide+kernel
theorem mine_1 :mineFn (madeParams 0) c0 (rootS 1) (secFn 1)=mh 2:=by
 have e0:mine0 (madeParams 0) c0 (rootS 1) (secFn 1)=mh 0:=by
  unfold mine0
  rw[next0];decide+kernel
 have i0:incN (mh 0)=mh 1:=rfl
 have i1:incN (mh 1)=mh 2:=rfl
 rw[mineFn,e0,next0]
 rw[show(20000:Nat)=19999+1 from rfl,mineGo_succ,hash0,if_neg (by decide+kernel),i0]
 rw[show(19999:Nat)=19998+1 from rfl,mineGo_succ,hash1,if_neg (by decide+kernel),i1]
 rw[show(19998:Nat)=19997+1 from rfl,mineGo_succ,hash2,if_pos (by decide+kernel)]
theorem check_1 :checkFn (madeParams 0) c0 (mh 2) 1073741824=0:=by
 unfold checkFn
 rw[hash2,room0,next0]
 decide+kernel
def h2L :List Int:=[94,117,70,5,196,155,206,103,191,196,206,212,71,197,78,159,69,32,147,71,24,143,231,174,226,173,72,157,189,247,168,73]
def h20L :List Int:=[109,68,194,236,25,32,209,112,175,152,30,230,29,152,68,141,247,185,75,173,10,206,142,216,123,230,234,117,232,105,30,128]
def mq (n:Int):Hdr:=(1,gh,rootT 20 1,1081,545259519,n,())
def mh20 :Hdr:=mq 4
theorem hashq0 :hashH (mq 0)=[190,89,224,129,97,89,83,154,180,111,171,178,217,51,168,83,76,252,242,252,140,140,240,101,28,134,31,98,72,132,20,68]:=by
 have e1:sum (encH (mq 0))=[121,91,201,181,96,122,50,84,130,243,36,102,83,100,45,56,153,150,84,85,180,130,105,80,200,175,55,191,181,250,111,251]:=by rw[sum_comp];kernel_rfl
 have e2:sum [121,91,201,181,96,122,50,84,130,243,36,102,83,100,45,56,153,150,84,85,180,130,105,80,200,175,55,191,181,250,111,251]=[190,89,224,129,97,89,83,154,180,111,171,178,217,51,168,83,76,252,242,252,140,140,240,101,28,134,31,98,72,132,20,68]:=by rw[sum_comp];kernel_rfl
 rw[hashH,e1,e2]
theorem hashq1 :hashH (mq 1)=[204,247,171,208,95,8,207,61,184,49,128,201,39,98,59,230,246,242,108,68,195,26,198,180,15,187,11,95,246,36,215,241]:=by
 have e1:sum (encH (mq 1))=[213,195,209,116,179,33,29,20,145,120,5,50,18,212,27,67,7,33,120,117,175,235,124,111,203,87,153,190,111,253,1,180]:=by rw[sum_comp];kernel_rfl
 have e2:sum [213,195,209,116,179,33,29,20,145,120,5,50,18,212,27,67,7,33,120,117,175,235,124,111,203,87,153,190,111,253,1,180]=[204,247,171,208,95,8,207,61,184,49,128,201,39,98,59,230,246,242,108,68,195,26,198,180,15,187,11,95,246,36,215,241]:=by rw[sum_comp];kernel_rfl
 rw[hashH,e1,e2]
theorem hashq2 :hashH (mq 2)=[215,189,206,56,81,85,94,100,145,145,87,201,183,12,241,156,193,162,80,173,110,24,110,198,44,49,19,22,217,148,199,232]:=by
 have e1:sum (encH (mq 2))=[16,150,174,77,115,54,184,81,185,15,172,203,11,211,64,146,193,80,99,86,99,241,62,142,209,167,54,247,186,23,33,108]:=by rw[sum_comp];kernel_rfl
 have e2:sum [16,150,174,77,115,54,184,81,185,15,172,203,11,211,64,146,193,80,99,86,99,241,62,142,209,167,54,247,186,23,33,108]=[215,189,206,56,81,85,94,100,145,145,87,201,183,12,241,156,193,162,80,173,110,24,110,198,44,49,19,22,217,148,199,232]:=by rw[sum_comp];kernel_rfl
 rw[hashH,e1,e2]
theorem hashq3 :hashH (mq 3)=[135,197,125,151,50,135,41,69,169,33,58,213,35,23,132,1,70,43,228,46,65,198,198,200,147,165,91,5,227,225,154,96]:=by
 have e1:sum (encH (mq 3))=[178,238,185,126,11,63,70,240,63,42,129,15,107,247,155,255,36,243,195,249,154,237,42,17,84,9,136,175,208,135,235,218]:=by rw[sum_comp];kernel_rfl
 have e2:sum [178,238,185,126,11,63,70,240,63,42,129,15,107,247,155,255,36,243,195,249,154,237,42,17,84,9,136,175,208,135,235,218]=[135,197,125,151,50,135,41,69,169,33,58,213,35,23,132,1,70,43,228,46,65,198,198,200,147,165,91,5,227,225,154,96]:=by rw[sum_comp];kernel_rfl
 rw[hashH,e1,e2]
theorem hashq4 :hashH (mq 4)=[109,68,194,236,25,32,209,112,175,152,30,230,29,152,68,141,247,185,75,173,10,206,142,216,123,230,234,117,232,105,30,128]:=by
 have e1:sum (encH (mq 4))=[40,142,254,31,163,96,209,197,103,11,12,150,20,131,50,15,157,224,6,94,106,207,196,128,168,43,19,169,141,143,50,156]:=by rw[sum_comp];kernel_rfl
 have e2:sum [40,142,254,31,163,96,209,197,103,11,12,150,20,131,50,15,157,224,6,94,106,207,196,128,168,43,19,169,141,143,50,156]=[109,68,194,236,25,32,209,112,175,152,30,230,29,152,68,141,247,185,75,173,10,206,142,216,123,230,234,117,232,105,30,128]:=by rw[sum_comp];kernel_rfl
 rw[hashH,e1,e2]
theorem hash20 :hashH mh20=h20L:=hashq4
theorem mine_20 :mineFn (madeParams 0) c0 (rootT 20 1) (secFn 20)=mh20:=by
 have e0:mine0 (madeParams 0) c0 (rootT 20 1) (secFn 20)=mq 0:=by
  unfold mine0
  rw[next0];decide+kernel
 have i0:incN (mq 0)=mq 1:=rfl
 have i1:incN (mq 1)=mq 2:=rfl
 have i2:incN (mq 2)=mq 3:=rfl
 have i3:incN (mq 3)=mq 4:=rfl
 rw[mineFn,e0,next0]
 rw[show(20000:Nat)=19999+1 from rfl,mineGo_succ,hashq0,if_neg (by decide+kernel),i0]
 rw[show(19999:Nat)=19998+1 from rfl,mineGo_succ,hashq1,if_neg (by decide+kernel),i1]
 rw[show(19998:Nat)=19997+1 from rfl,mineGo_succ,hashq2,if_neg (by decide+kernel),i2]
 rw[show(19997:Nat)=19996+1 from rfl,mineGo_succ,hashq3,if_neg (by decide+kernel),i3]
 rw[show(19996:Nat)=19995+1 from rfl,mineGo_succ,hashq4,if_pos (by decide+kernel)];rfl
theorem check_20 :checkFn (madeParams 0) c0 mh20 1073741824=0:=by
 unfold checkFn
 rw[hash20,room0,next0]
 decide+kernel
def w0 :List Int:=bitsWork 545259519
theorem w0_lt :N4 w0<N4 (totFn w0 w0):=by decide+kernel
def n0 :Nd:=(gen0,gh,-1,0,w0,())
def n1 :Nd:=(mh 2,h2L,0,1,totFn w0 w0,())
def n2 :Nd:=(mh20,h20L,0,1,totFn w0 w0,())
theorem startN0 :startN (madeParams 0)=n0:=by
 show(gen0,hashH gen0,(-1:Int),(0:Int),bitsWork 545259519,())=n0
 rw[gen_hash];rfl
theorem startT0 :startT (madeParams 0)=(([n0],0,()),0):=by rw[startT_fit (made_valid (by omega)),startN0]
theorem hashm2 :hashH (mh 2)=h2L:=hash2
theorem ctx0 {l:List Nd}{b:Int}(hv:validT (madeParams 0) (l,b,())=true)(hl:0<l.length):contextT (madeParams 0) (l,b,()) 0=(c0,0):=by
 rw[contextT,if_neg (by simp[hv]),if_neg (by show¬((0:Int)<0∨(l.length:Int)≤0);omega)]
 show(atFn (madeParams 0) l 0,(0:Int))=_
 rw[at_zero,start0]
theorem ins0 {l:List Nd}{b:Int}{h:Hdr}(hv:validT (madeParams 0) (l,b,())=true)(hl:0<l.length)(h4:l.length<4096)(h0:l.getD 0 zn=n0)(hf:findFn l (hashH h)= -1)(hg:findFn l h.2.1=0)
 (hc:checkFn (madeParams 0) c0 h 1073741824=0):insertT (madeParams 0) (l,b,()) h 1073741824=((l++[childFn n0 0 h],firstFn (l++[childFn n0 0 h]),()),(l.length:Int),0):=by
 have hi:insNode (madeParams 0) (l,b,()) h=childFn n0 0 h:=by
  show childFn (l.getD (findFn l h.2.1).toNat zn) (findFn l h.2.1) h=_
  rw[hg]
  show childFn (l.getD 0 zn) 0 h=_
  rw[h0]
 have ha:atFn (madeParams 0) l (findFn l h.2.1).toNat=c0:=by
  rw[hg]
  show atFn (madeParams 0) l 0=c0
  rw[at_zero,start0]
 rw[insertT,if_neg (by simp[hv]),if_neg (show¬0≤findFn l (hashH h) by omega),if_neg (show¬findFn l h.2.1<0 by omega),hi]
 show(if checkFn (madeParams 0) (atFn (madeParams 0) l (findFn l h.2.1).toNat) h 1073741824≠0 then _ else if l.length=4096 then _ else _)=_
 rw[ha,hc,if_neg (by decide),if_neg (by omega)]
theorem tree1 :treeStep (madeParams 0) ([n0],0,()) 1 0=([n0,n1],1,()):=by
 have hv:validT (madeParams 0) ([n0],0,())=true:=by have:=start_valid (made_valid (v:=0) (by omega));rwa [startT0] at this
 have hc:=ctx0 hv (by simp)
 have hm:mineT (madeParams 0) ([n0],0,()) 1 0=mh 2:=by
  unfold mineT
  show mineFn (madeParams 0) (contextT (madeParams 0) ([n0],0,()) 0).1 (rootT 1 0) (secFn 1)=_
  rw[hc];exact mine_1
 have hi:=ins0 (h:=mh 2) hv (by simp) (by simp) rfl (by rw[hashm2];decide+kernel) (by decide+kernel) check_1
 have hn:childFn n0 0 (mh 2)=n1:=by unfold childFn;rw[hashm2];rfl
 rw[hn] at hi
 have hf:firstFn ([n0]++[n1])=1:=by
  rw[first_app _ _ (by simp)]
  show(if N4 w0<N4 (totFn w0 w0) then(1:Int) else _)=1
  rw[if_pos w0_lt]
 rw[hf] at hi
 rw[treeStep,if_neg (show¬(contextT (madeParams 0) ([n0],0,()) (backT 1 (([n0]:List Nd).length:Int))).2≠0 by rw[show backT 1 (([n0]:List Nd).length:Int)=0 from rfl,hc];decide),hm,hi,if_pos rfl];rfl
theorem valid1 :validT (madeParams 0) ([n0,n1],1,())=true:=by
 have hv:validT (madeParams 0) ([n0],0,())=true:=by have:=start_valid (made_valid (v:=0) (by omega));rwa [startT0] at this
 have:=step_valid (s:=1) (i:=0) (made_ok (v:=0) (by omega)) hv
 rwa [tree1] at this
theorem tree2 :treeStep (madeParams 0) ([n0,n1],1,()) 20 1=([n0,n1,n2],1,()):=by
 have hc:=ctx0 valid1 (by simp)
 have hm:mineT (madeParams 0) ([n0,n1],1,()) 20 1=mh20:=by
  unfold mineT
  show mineFn (madeParams 0) (contextT (madeParams 0) ([n0,n1],1,()) 0).1 (rootT 20 1) (secFn 20)=_
  rw[hc];exact mine_20
 have hi:=ins0 (h:=mh20) valid1 (by simp) (by simp) rfl (by rw[hash20];decide+kernel) (by decide+kernel) check_20
 have hn:childFn n0 0 mh20=n2:=by unfold childFn;rw[hash20];rfl
 rw[hn] at hi
 have h1:firstFn [n0,n1]=1:=by
  rw[show[n0,n1]=[n0]++[n1] from rfl,first_app _ _ (by simp)]
  show(if N4 w0<N4 (totFn w0 w0) then(1:Int) else _)=1
  rw[if_pos w0_lt]
 have hf:firstFn ([n0,n1]++[n2])=1:=by
  rw[first_app _ _ (by simp),h1]
  show(if N4 (totFn w0 w0)<N4 (totFn w0 w0) then(2:Int) else 1)=1
  rw[if_neg (by omega)]
 rw[hf] at hi
 rw[treeStep,if_neg (show¬(contextT (madeParams 0) ([n0,n1],1,()) (backT 20 (([n0,n1]:List Nd).length:Int))).2≠0 by rw[show backT 20 (([n0,n1]:List Nd).length:Int)=0 from rfl,hc];decide),hm,hi,if_pos rfl];rfl
theorem tree_sane :treeFn (madeParams 0) [1,20]=([n0,n1,n2],1,()):=by
 rw[treeFn,startT0,treeGo,tree1,treeGo]
 show treeGo (madeParams 0) (treeStep (madeParams 0) ([n0,n1],1,()) 20 1) _ []=_
 rw[tree2,treeGo]
theorem ord_sane :orderedP ([n0,n1,n2],1,()):=by
 refine⟨by decide,by decide,rfl,fun j h1 h2=> ?_⟩
 have h2:j<3:=h2
 obtain rfl|rfl:j=1∨j=2:=by omega
 ·exact⟨by decide,by decide⟩
 ·exact⟨by decide,by decide⟩
theorem side_sane :sideN ([n0,n1,n2],1,())=1:=by decide+kernel
theorem trim_sane :(withoutT ([n0,n1,n2],1,()) (goneT ([n0,n1,n2],1,()) 0)).1.length=2:=by decide+kernel
theorem find_sane :findFn [n0,n1,n2] h20L=2:=by decide+kernel
def ESane.pre :Prop:=True
def ESane.fn :Bool:=true
def ESane.VC :Prop:=ESane.pre→MParams.pre (0:Int)∧(let v1h:Par:=(hz,((List.replicate 4 (0:Int)),((0:Int),((0:Int),((0:Int),((0:Int),([],((0:Int),((0:Int),((0:Int),()))))))))))
 MTree.pre (MParams.fn (0:Int)) [(1:Int),(20:Int)]∧NTrim.pre (MTree.fn (MParams.fn (0:Int)) [(1:Int),(20:Int)]) (0:Int)∧(let v9:Tre:=(NTrim.fn (MTree.fn (MParams.fn (0:Int)) [(1:Int),(20:Int)]) (0:Int))
 (let v12:Int:=((MTree.fn (MParams.fn (0:Int)) [(1:Int),(20:Int)]).1.length:Int)
 ((v12==(3:Int))=true→(v12==(3:Int))=true)∧((v12==(3:Int))=true→(v12==(3:Int))=true)∧((v12==(3:Int))=true→(v12==(3:Int))=true)∧(let v18:Bool:=(bif (v12==(3:Int)) then((MTree.fn (MParams.fn (0:Int)) [(1:Int),(20:Int)]).2.1==(1:Int)) else false)
 (v18=true→v18=true)∧(v18=true→NSide.pre (MTree.fn (MParams.fn (0:Int)) [(1:Int),(20:Int)]))∧(v18=true→v18=true)∧(v18=true→v18=true)∧(let v23:Bool:=(bif v18 then((NSide.fn (MTree.fn (MParams.fn (0:Int)) [(1:Int),(20:Int)]))==(1:Int)) else false)
 (v23=true→v23=true)∧(v23=true→v23=true)∧(v23=true→v23=true)∧(v23=true→v23=true)∧((bif v23 then((v9.1.length:Int)==(2:Int)) else false)=true→(bif v23 then((v9.1.length:Int)==(2:Int)) else false)=true)∧((bif v23 then((v9.1.length:Int)==(2:Int)) else false)=true→(bif v23 then((v9.1.length:Int)==(2:Int)) else false)=true)∧((bif v23 then((v9.1.length:Int)==(2:Int)) else false)=true→NValid.pre (MParams.fn (0:Int)) (MTree.fn (MParams.fn (0:Int)) [(1:Int),(20:Int)]))∧((bif v23 then((v9.1.length:Int)==(2:Int)) else false)=true→(bif v23 then((v9.1.length:Int)==(2:Int)) else false)=true)∧(let v34:Bool:=(bif (bif v23 then((v9.1.length:Int)==(2:Int)) else false) then(NValid.fn (MParams.fn (0:Int)) (MTree.fn (MParams.fn (0:Int)) [(1:Int),(20:Int)])) else false)
 (v34=true→v34=true)∧(v34=true→v34=true)∧(v34=true→(0≤(2:Int)∧(2:Int)<((MTree.fn (MParams.fn (0:Int)) [(1:Int),(20:Int)]).1.length:Int)))∧(v34=true→v34=true)∧(v34=true→v34=true)∧(v34=true→v34=true)∧(v34=true→v34=true)∧(v34=true→NFind.pre (MTree.fn (MParams.fn (0:Int)) [(1:Int),(20:Int)]) (((MTree.fn (MParams.fn (0:Int)) [(1:Int),(20:Int)]).1.getD (Int.toNat (2:Int)) zn).2.1))∧(v34=true→v34=true)∧(v34=true→v34=true)∧(let v44:Bool:=(bif v34 then((NFind.fn (MTree.fn (MParams.fn (0:Int)) [(1:Int),(20:Int)]) (((MTree.fn (MParams.fn (0:Int)) [(1:Int),(20:Int)]).1.getD (Int.toNat (2:Int)) zn).2.1))==(2:Int)) else false)
 (Ret1 v44 ESane.fn))))))))
theorem ESane.vc :ESane.VC:=by
 intro _
 have hg:=made_ok (v:=0) (by omega)
 have hb:Bytes [(1:Int),20]:=fun x hx=>by simp at hx;omega
 obtain⟨ht,hv⟩:=treeFn_ok hg (made_valid (v:=0) (by omega)) hb
 rw[tree_sane] at ht hv
 have hord:=ordered_iff.2 ord_sane
 have htr:((trimT ([n0,n1,n2],1,()) 0).1.length:Int)=2:=by
  rw[trimT,if_neg (by rw[hord];decide),trim_sane];rfl
 have hsd:sideT ([n0,n1,n2],1,())=1:=by
  rw[sideT,if_neg (by rw[hord];decide),side_sane];rfl
 simp only[imp_self,true_and,MParams.fn,MTree.fn,tree_sane,NTrim.fn,NSide.fn,NValid.fn,NFind.fn,htr,hsd,hv,ret1]
 refine⟨⟨by omega,by omega⟩,⟨hg,hb,by decide⟩,⟨ht,by decide⟩,fun _=>(show 3≤1000000 by decide),fun _=>⟨hg,ht⟩,fun _=>⟨by decide,by decide⟩,fun _=>ht.2, ?_⟩
 show(bif _ then findFn [n0,n1,n2] h20L==2 else false)=true
 rw[find_sane];rfl
attribute [irreducible] ESane.fn
theorem esane :ESane.fn=true:=by unfold ESane.fn;rfl
end Lc
namespace Lc
open Go
def KTree.pre (t:Tre)(n:Int):Prop:=True
def KTree.fn (t:Tre)(n:Int):Bool:=decide ((t.1.length:Int)≤n)
def KTree.VC :Prop:=∀(x0:Tre) (x1:Int),KTree.pre x0 x1→(Ret1 (decide ((x0.1.length:Int)≤x1)) (KTree.fn x0 x1))
theorem KTree.vc :KTree.VC:=fun t n _=>rfl
end Lc
