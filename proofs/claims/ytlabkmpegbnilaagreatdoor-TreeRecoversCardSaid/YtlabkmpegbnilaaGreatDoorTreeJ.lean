/- The tree of headers: a trimmed valid tree is valid, with the same best header, and its side nodes are counted. -/
import Derived.Test.YtlabkmpegbnilaaGreatDoorTreeI
import Derived.Test.YtlabkmpegbnilaaGreatDoorTrees
set_option linter.unusedVariables false
set_option linter.unusedSimpArgs false
set_option maxRecDepth 100000
namespace Lc
open Go
theorem ctxGo_back {p:Par}{l:List Nd}{cs:List Cx}(hs:∀i,0<i→i<cs.length→stepOk p l cs i∧cs.getD i zcx=nextC p l cs i):∀k m,0<m→m+k=cs.length→ctxGo p l k (cs.take m)=some cs
 |0,m,_,h=>by rw[ctxGo,List.take_of_length_le (by omega)]
 |k+1,m,h0,h=>by
  have hl:(cs.take m).length=m:=by rw[List.length_take];omega
  obtain⟨s1,s2⟩:=hs m h0 (by omega)
  obtain⟨e1,e2⟩:=step_ext (cs':=cs.take m) (fun j hj=>(getD_take zcx cs m j hj).symm) s1
  rw[ctxGo_yes (by omega) (by rw[hl];exact e1),hl,←e2,←s2]
  have:cs.take m++[cs.getD m zcx]=cs.take (m+1):=by
   rw[List.take_add_one,List.getD_eq_getElem?_getD,List.getElem?_eq_getElem (show m<cs.length by omega)];rfl
  rw[this]
  exact ctxGo_back hs k (m+1) (by omega) (by omega)
theorem valid_back {p:Par}{t:Tre}{cs:List Cx}(h:Valid15 p t cs)(hb:t.2.1=firstFn t.1):validT p t=true:=by
 have hpos:=h.fit.2.1
 have hlen:=h.len
 refine validT_iff.2 ⟨cs, ?_,hb⟩
 rw[ctxAll_fit h.fit]
 have:=ctxGo_back (p:=p) (l:=t.1) (cs:=cs) (fun i a b=>h.step i a (by omega)) (t.1.length-1) 1 (by omega) (by omega)
 have e:cs.take 1=[(startFn p).1]:=by
  rw[←h.zero,List.getD_eq_getElem?_getD,List.getElem?_eq_getElem (show 0<cs.length by omega),Option.getD_some]
  obtain⟨c,r,rfl⟩:∃c r,cs=c::r:=by
   cases cs with
   |nil=>simp at hlen;omega
   |cons c r=>exact⟨c,r,rfl⟩
  rfl
 rwa [e] at this
theorem valid_ordered {p:Par}{t:Tre}(h:validT p t=true):orderedP t:=by
 obtain⟨cs,_,hv,hb⟩:=valid_of h
 have:=first_lt hv.best
 refine⟨by rw[hb,firstFn];omega,by rw[hb,firstFn];omega, ?_,hv.linked⟩
 rw[hv.fit.2.2.2];rfl
structure PartI (t:Tre)(gone:List Bool):Prop where
 ord:orderedP t
 zero:gone.getD 0 false=false
 best:gone.getD t.2.1.toNat false=false
 up:∀j,0<j→j<t.1.length→gone.getD j false=false→gone.getD (t.1.getD j zn).2.2.1.toNat false=false
def keptN (gone:List Bool)(i:Nat):Nat:=cnt (fun j=> !gone.getD j false) i
theorem kept_yes {gone:List Bool}{i:Nat}(h:gone.getD i false=false):keptN gone (i+1)=keptN gone i+1:=by
 rw[keptN,cnt,h];rfl
theorem kept_no {gone:List Bool}{i:Nat}(h:gone.getD i false=true):keptN gone (i+1)=keptN gone i:=by
 rw[keptN,cnt,h];rfl
theorem kept_mono {gone:List Bool}:∀{i k:Nat},i≤k→keptN gone i≤keptN gone k
 |i,0,h=>by have:i=0:=by omega
            subst this;exact Nat.le_refl _
 |i,k+1,h=>by
  by_cases e:i=k+1
  ·rw[e];exact Nat.le_refl _
  ·have:=kept_mono (gone:=gone) (i:=i) (k:=k) (by omega)
   cases hq:gone.getD k false with
   |false=>rw[kept_yes hq];omega
   |true=>rw[kept_no hq];omega
theorem kept_lt {gone:List Bool}{i k:Nat}(h:i<k)(hi:gone.getD i false=false):keptN gone i<keptN gone k:=by
 have:=kept_mono (gone:=gone) (i:=i+1) (k:=k) (by omega)
 rw[kept_yes hi] at this;omega
def reN (l:List Nd)(gone:List Bool)(j:Nat):Nd:=if 0<j then((l.getD j zn).1,(l.getD j zn).2.1,(keptN gone (l.getD j zn).2.2.1.toNat:Int),(l.getD j zn).2.2.2) else l.getD j zn
theorem wUp_spec {t:Tre}{gone:List Bool}(h:PartI t gone):∀i,i≤t.1.length→(wUp t.1 gone i).1.length=keptN gone i∧
 (∀j,j<i→gone.getD j false=false→(wUp t.1 gone i).2.getD j 0=(keptN gone j:Int)∧(wUp t.1 gone i).1.getD (keptN gone j) zn=reN t.1 gone j)∧
 (∀m,m<keptN gone i→∃j,j<i∧gone.getD j false=false∧keptN gone j=m)
 |0,_=>⟨rfl,fun j hj=>by omega,fun m hm=>absurd hm (Nat.not_lt_zero m)⟩
 |i+1,hi=>by
  obtain⟨h1,h2,h3⟩:=wUp_spec h i (by omega)
  have hlen:=wUp_len t.1 gone i
  rw[wUp]
  cases hq:gone.getD i false with
  |true=>
   rw[if_pos rfl,kept_no hq]
   refine⟨h1,fun j hj hg=>h2 j ?_ hg,fun m hm=> ?_⟩
   ·have:j≠i:=fun e=>by rw[e,hq] at hg;cases hg
    omega
   ·obtain⟨j,a,b,c⟩:=h3 m hm
    exact⟨j,by omega,b,c⟩
  |false=>
   rw[if_neg (by simp),kept_yes hq]
   have hset:∀j,((wUp t.1 gone i).2.set i (keptN gone i:Int)).getD j 0=if i=j then(keptN gone i:Int) else(wUp t.1 gone i).2.getD j 0:=fun j=>by
    rw[gget_set]
    by_cases e:i=j
    ·rw[if_pos ⟨e,by omega⟩,if_pos e]
    ·rw[if_neg (fun h=>e h.1),if_neg e]
   refine⟨by rw[List.length_append,h1];rfl,fun j hj hg=> ?_,fun m hm=> ?_⟩
   ·dsimp only
    rw[h1,hset]
    by_cases e:i=j
    ·subst e
     rw[if_pos rfl]
     refine⟨rfl, ?_⟩
     rw[←h1,getD_last,h1,reN]
     by_cases h0:0<i
     ·obtain⟨p1,p2⟩:=h.ord.2.2.2 i h0 (by omega)
      have hu:=h.up i h0 (by omega) hq
      rw[if_pos h0,if_pos h0,hset,if_neg (by omega),(h2 _ (by omega) hu).1]
     ·rw[if_neg h0,if_neg h0]
    ·rw[if_neg e]
     obtain⟨a,b⟩:=h2 j (by omega) hg
     refine⟨a, ?_⟩
     rw[getD_app zn (by rw[h1];exact kept_lt (by omega) hg),b]
   ·by_cases e:m=keptN gone i
    ·exact⟨i,by omega,hq,e.symm⟩
    ·obtain⟨j,a,b,c⟩:=h3 m (by omega)
     exact⟨j,by omega,b,c⟩
theorem kept_zero (gone:List Bool):keptN gone 0=0:=rfl
structure WoutI (t w:Tre)(gone:List Bool):Prop where
 len:w.1.length=keptN gone t.1.length
 node:∀j,j<t.1.length→gone.getD j false=false→keptN gone j<w.1.length∧w.1.getD (keptN gone j) zn=reN t.1 gone j
 from':∀m,m<w.1.length→∃j,j<t.1.length∧gone.getD j false=false∧keptN gone j=m
 best:w.2.1=(keptN gone t.2.1.toNat:Int)
theorem wout {t:Tre}{gone:List Bool}(h:PartI t gone):WoutI t (withoutT t gone) gone:=by
 obtain⟨h1,h2,h3⟩:=wUp_spec h t.1.length (Nat.le_refl _)
 have hb:=h.ord.1
 have hb2:=h.ord.2.1
 refine⟨h1,fun j hj hg=>⟨?_,(h2 j hj hg).2⟩,fun m hm=>h3 m (by rw[←h1];exact hm),(h2 _ (by omega) h.best).1⟩
 show _<(wUp t.1 gone t.1.length).1.length
 rw[h1];exact kept_lt hj hg
theorem WoutI.par {t w:Tre}{gone:List Bool}(hw:WoutI t w gone)(h:PartI t gone){j:Nat}(j0:0<j)(j1:j<t.1.length)(hg:gone.getD j false=false):
 0<keptN gone j∧(w.1.getD (keptN gone j) zn).2.2.1=(keptN gone (t.1.getD j zn).2.2.1.toNat:Int)∧keptN gone (t.1.getD j zn).2.2.1.toNat<keptN gone j:=by
 obtain⟨p1,p2⟩:=h.ord.2.2.2 j j0 j1
 refine⟨by have:=kept_lt (gone:=gone) j0 h.zero;omega, ?_,kept_lt (by omega) (h.up j j0 j1 hg)⟩
 rw[(hw.node j j1 hg).2,reN,if_pos j0]
theorem WoutI.linked {t w:Tre}{gone:List Bool}(hw:WoutI t w gone)(h:PartI t gone):Linked w.1:=by
 intro m m0 m1
 obtain⟨j,a,b,rfl⟩:=hw.from' m m1
 have j0:0<j:=Nat.pos_of_ne_zero (fun e=>by rw[e,kept_zero] at m0;omega)
 obtain⟨_,q1,q2⟩:=hw.par h j0 a b
 rw[q1];omega
theorem WoutI.at {p:Par}{t w:Tre}{gone:List Bool}(hw:WoutI t w gone)(h:PartI t gone):∀j,j<t.1.length→gone.getD j false=false→atFn p w.1 (keptN gone j)=atFn p t.1 j:=by
 intro j
 induction j using Nat.strongRecOn with
 |_ j ih=>
  intro j1 hg
  by_cases h0:j=0
  ·subst h0;rw[kept_zero];rfl
  ·obtain⟨p1,p2⟩:=h.ord.2.2.2 j (by omega) j1
   obtain⟨q0,q1,q2⟩:=hw.par h (by omega) j1 hg
   rw[at_step (hw.linked h) q0 (hw.node j j1 hg).1,q1,Int.toNat_natCast,ih _ (by omega) (by omega) (h.up j (by omega) j1 hg),at_step h.ord.2.2.2 (by omega) j1,(hw.node j j1 hg).2,reN,if_pos (by omega)]
theorem WoutI.parts {t w:Tre}{gone:List Bool}(hw:WoutI t w gone){j:Nat}(j1:j<t.1.length)(hg:gone.getD j false=false):
 (w.1.getD (keptN gone j) zn).1=(t.1.getD j zn).1∧(w.1.getD (keptN gone j) zn).2.1=(t.1.getD j zn).2.1∧(w.1.getD (keptN gone j) zn).2.2.2=(t.1.getD j zn).2.2.2:=by
 rw[(hw.node j j1 hg).2,reN]
 split
 ·exact⟨rfl,rfl,rfl⟩
 ·exact⟨rfl,rfl,rfl⟩
theorem child_eq {n m:Nd}{k q:Int}{h:Hdr}(e:n.2.2.2=m.2.2.2):(h,hashH h,q,(childFn m k h).2.2.2)=childFn n q h:=by
 unfold childFn;rw[e]
theorem without_valid {p:Par}{t:Tre}{gone:List Bool}(hv:validT p t=true)(h:PartI t gone):validT p (withoutT t gone)=true:=by
 have hw:=wout h
 generalize withoutT t gone=w at*
 obtain⟨cs,_,h2,h3⟩:=valid_of hv
 have hlk:=hw.linked h
 have hpos:=h2.fit.2.1
 obtain⟨z1,z2⟩:=hw.node 0 (by omega) h.zero
 rw[kept_zero] at z1 z2
 have hle:w.1.length≤t.1.length:=by rw[hw.len];exact cnt_le _
 have hcs:∀m,m<w.1.length→((List.range w.1.length).map (fun m=>atFn p w.1 m)).getD m zcx=atFn p w.1 m:=fun m hm=>by
  rw[List.getD_eq_getElem?_getD,List.getElem?_map,List.getElem?_range hm];rfl
 refine valid_back (cs:=(List.range w.1.length).map (fun m=>atFn p w.1 m)) ⟨⟨h2.fit.1,by omega,by have:=h2.fit.2.2.1;omega,by rw[z2,reN,if_neg (by omega)];exact h2.fit.2.2.2⟩,by simp,by rw[hcs 0 z1];rfl,fun m m0 m1=> ?_⟩ ?_
 ·obtain⟨j,j1,hg,rfl⟩:=hw.from' m m1
  have j0:0<j:=Nat.pos_of_ne_zero (fun e=>by rw[e,kept_zero] at m0;omega)
  obtain⟨_,q1,q2⟩:=hw.par h j0 j1 hg
  obtain⟨p1,p2⟩:=h2.linked j j0 j1
  have hu:=h.up j j0 j1 hg
  obtain⟨a1,a2,a3⟩:=hw.parts j1 hg
  obtain⟨b1,b2,b3⟩:=hw.parts (j:=(t.1.getD j zn).2.2.1.toNat) (by omega) hu
  obtain⟨s,sn⟩:=h2.step j j0 j1
  have hctx:=hw.at h (p:=p) (t.1.getD j zn).2.2.1.toNat (by omega) hu
  constructor
  ·refine⟨by omega,by omega,fun m' hm'=> ?_, ?_, ?_⟩
   ·obtain⟨j',j1',hg',rfl⟩:=hw.from' m' (by omega)
    have hjj:j'<j:=by
     rcases Nat.lt_or_ge j' j with hq|hq
     ·exact hq
     ·have:=kept_mono (gone:=gone) hq;omega
    obtain⟨_,c2,_⟩:=hw.parts j1' hg'
    rw[c2,a2];exact s.2.2.1 j' hjj
   ·rw[q1,Int.toNat_natCast,hcs _ (by omega),hctx,a1,←h2.at _ (by omega)];exact s.2.2.2.1
   ·rw[q1,Int.toNat_natCast,a1,←child_eq (m:=t.1.getD (t.1.getD j zn).2.2.1.toNat zn) (k:=(t.1.getD j zn).2.2.1) b3,←s.2.2.2.2]
    refine Prod.ext a1 (Prod.ext ?_ (Prod.ext q1 a3))
    rw[a2];exact(node_child h2 j0 j1).1
  ·rw[hcs _ m1,nextC,at_step hlk m0 m1,hcs]
   omega
 ·have hb:=h.ord.1
  have hb2:=h.ord.2.1
  obtain⟨k1,_⟩:=hw.node t.2.1.toNat (by omega) h.best
  have hwk:∀j,j<t.1.length→gone.getD j false=false→wk w.1 (keptN gone j)=wk t.1 j:=fun j j1 hg=>by
   unfold wk;rw[(hw.parts j1 hg).2.2]
  rw[hw.best,firstFn,bestUp_only k1 (fun m m1=> ?_)]
  obtain⟨j,j1,hg,rfl⟩:=hw.from' m m1
  rw[hwk j j1 hg,hwk _ (by omega) h.best]
  have hbe:t.2.1.toNat=bestUp t.1 t.1.length:=by rw[h3,firstFn,Int.toNat_natCast]
  rw[hbe]
  obtain⟨m1,m2⟩:=bestUp_max t.1 t.1.length j j1
  refine⟨m1,fun hlt=>m2 ?_⟩
  rcases Nat.lt_or_ge j (bestUp t.1 t.1.length) with hq|hq
  ·exact hq
  ·have:=kept_mono (gone:=gone) hq;omega
theorem WoutI.path {t w:Tre}{gone:List Bool}(hw:WoutI t w gone)(h:PartI t gone):∀j,j<t.1.length→gone.getD j false=false→(pathFn w.1 (keptN gone j)).length=(pathFn t.1 j).length:=by
 intro j
 induction j using Nat.strongRecOn with
 |_ j ih=>
  intro j1 hg
  by_cases h0:j=0
  ·subst h0;rw[kept_zero];rfl
  ·obtain⟨p1,p2⟩:=h.ord.2.2.2 j (by omega) j1
   obtain⟨q0,q1,q2⟩:=hw.par h (by omega) j1 hg
   rw[path_step (hw.linked h) q0 (hw.node j j1 hg).1,q1,Int.toNat_natCast,List.length_cons,ih _ (by omega) (by omega) (h.up j (by omega) j1 hg),path_step h.ord.2.2.2 (by omega) j1,List.length_cons]
theorem path_height {p:Par}{t:Tre}{cs:List Cx}(h:Valid15 p t cs):∀n,n<t.1.length→(t.1.getD n zn).2.2.2.1+1=(pathFn t.1 n).length∧(pathFn t.1 n).length≤n+1:=by
 intro n
 induction n using Nat.strongRecOn with
 |_ n ih=>
  intro hn
  by_cases h0:n=0
  ·subst h0;rw[h.fit.2.2.2,path_zero];exact⟨rfl,Nat.le_refl _⟩
  ·obtain⟨s,_⟩:=h.step n (by omega) hn
   have s1:=s.1
   have s2:=s.2.1
   obtain⟨i1,i2⟩:=ih (t.1.getD n zn).2.2.1.toNat (by omega) (by omega)
   have hh:(t.1.getD n zn).2.2.2.1=IntKind.i64.wrap ((t.1.getD (t.1.getD n zn).2.2.1.toNat zn).2.2.2.1+1):=congrArg (fun n:Nd=>n.2.2.2.1) s.2.2.2.2
   have hle:=h.fit.2.2.1
   rw[path_step h.linked (by omega) hn,List.length_cons,hh,i64w (by omega) (by omega)]
   exact⟨by omega,by omega⟩
theorem TrimI.part {t:Tre}{gone:List Bool}(h:TrimI t gone)(hu:∀j,0<j→j<t.1.length→gone.getD j false=false→gone.getD (t.1.getD j zn).2.2.1.toNat false=false):PartI t gone:=by
 have hb:=h.ord.1
 have hb2:=h.ord.2.1
 refine⟨h.ord,h.keep 0 (by omega) (mark_zero h.ord),h.keep _ (by omega) ?_,hu⟩
 rw[marks_get (by omega)]
 by_cases hz:t.2.1.toNat=0
 ·rw[hz,path_zero];simp
 ·rw[path_step h.ord.2.2.2 (by omega) (by omega)];simp
theorem cnt_none {p:Nat→Bool}:∀n,cnt p n=0→∀j,j<n→p j=false
 |0,_,j,hj=>by omega
 |n+1,h,j,hj=>by
  rw[cnt] at h
  by_cases e:j=n
  ·subst e
   cases hq:p j with
   |false=>rfl
   |true=>rw[hq] at h;simp at h
  ·exact cnt_none n (by omega) j (by omega)
theorem trim_go {t:Tre}:∀(k:Nat) (gone:List Bool),TrimI t gone→(∀j,0<j→j<t.1.length→gone.getD j false=false→gone.getD (t.1.getD j zn).2.2.1.toNat false=false)→k≤cnt (leftB t gone) t.1.length→
 TrimI t (trimGo t k gone)∧PartI t (trimGo t k gone)∧cnt (leftB t (trimGo t k gone)) t.1.length+k=cnt (leftB t gone) t.1.length
 |0,gone,h,hu,_=>⟨h,h.part hu,rfl⟩
 |k+1,gone,h,hu,hk=>by
  obtain⟨n1,n2,_⟩:=h.next (by omega)
  obtain⟨_,l2,l3,l4⟩:=least_ok h (by omega)
  rw[trimGo]
  have hset:∀j,(gone.set (leastT t gone) true).getD j false=false→gone.getD j false=false∧j≠leastT t gone:=fun j hj=>by
   rw[gget_set] at hj
   by_cases e:leastT t gone=j
   ·rw[if_pos ⟨e,by rw[h.len];omega⟩] at hj;cases hj
   ·rw[if_neg (fun q=>e q.1)] at hj;exact⟨hj,fun q=>e q.symm⟩
  have hu':∀j,0<j→j<t.1.length→(gone.set (leastT t gone) true).getD j false=false→(gone.set (leastT t gone) true).getD (t.1.getD j zn).2.2.1.toNat false=false:=fun j j0 j1 hj=>by
   obtain⟨a,b⟩:=hset j hj
   have hp:=hu j j0 j1 a
   rw[gget_set]
   by_cases e:leastT t gone=(t.1.getD j zn).2.2.1.toNat
   ·have hk:=l3
    simp only[candB,Bool.and_eq_true,decide_eq_true_eq] at hk
    have:=cnt_none _ hk.2 j j1
    unfold kidB at this
    rw[decide_eq_true j0,a,decide_eq_true e.symm] at this
    cases this
   ·rw[if_neg (fun q=>e q.1)];exact hp
  obtain⟨r1,r2,r3⟩:=trim_go k _ n1 hu' (by omega)
  exact⟨r1,r2,by omega⟩
theorem trim_first {t:Tre}(ho:orderedP t):TrimI t (List.replicate t.1.length false)∧(∀j,(List.replicate t.1.length false).getD j false=false)∧cnt (leftB t (List.replicate t.1.length false)) t.1.length=sideN t:=by
 have hgone0:∀j,(List.replicate t.1.length false).getD j false=false:=fun j=>by
  rw[List.getD_eq_getElem?_getD,List.getElem?_replicate];split<;>rfl
 refine⟨⟨ho,by simp,fun j hj hm=>hgone0 j⟩,hgone0, ?_⟩
 rw[sideN]
 refine cnt_same _ (fun j hj=> ?_)
 unfold leftB
 rw[hgone0 j];simp
theorem trim_spec {p:Par}{t:Tre}{most:Int}(hv:validT p t=true):validT p (trimT t most)=true∧(∃gone,PartI t gone∧WoutI t (trimT t most) gone)∧sideN (trimT t most)=min (sideN t) (max most 0).toNat∧
 (trimT t most).1.length=(pathFn t.1 t.2.1.toNat).length+sideN (trimT t most):=by
 have ho:=valid_ordered hv
 obtain⟨h1,h2,h3⟩:=trim_first ho
 have he:trimT t most=withoutT t (goneT t most):=by rw[trimT,if_neg (by rw[ordered_iff.2 ho];decide)]
 obtain⟨g1,g2,g3⟩:=trim_go (sideN t-(max most 0).toNat) _ h1 (fun j _ _ _=>h2 _) (by omega)
 have hw:=wout g2
 have hvw:=without_valid hv g2
 have hg:trimGo t (sideN t-(max most 0).toNat) (List.replicate t.1.length false)=goneT t most:=rfl
 rw[hg] at g1 g2 g3 hw hvw
 have hb:=ho.1
 have hb2:=ho.2.1
 have hs1:=side_path ho
 have how:=valid_ordered hvw
 have hs2:=side_path how
 have hpl:=hw.path g2 t.2.1.toNat (by omega) g2.best
 rw[hw.best,Int.toNat_natCast,hpl,hw.len] at hs2
 have hc:∀n,n≤t.1.length→keptN (goneT t most) n=cnt (fun i=>(marksT t).getD i false) n+cnt (leftB t (goneT t most)) n:=by
  intro n
  induction n with
  |zero=>intro _;rfl
  |succ n ih=>
   intro hn
   have:=ih (by omega)
   rw[keptN] at this⊢
   rw[cnt,cnt,cnt,this]
   unfold leftB
   cases hm:(marksT t).getD n false with
   |true=>rw[g1.keep n (by omega) hm];simp only[Bool.not_false,Bool.not_true,Bool.false_and,if_true,Bool.false_eq_true,if_false];omega
   |false=>simp only[Bool.not_false,Bool.true_and,if_false,Bool.false_eq_true];omega
 have hm:∀n,cnt (fun i=>(marksT t).getD i false) n+cnt (fun i=> !(marksT t).getD i false) n=n:=by
  intro n
  induction n with
  |zero=>rfl
  |succ n ih=>
   rw[cnt,cnt]
   cases hm:(marksT t).getD n false with
   |true=>simp only[Bool.not_true,if_true,Bool.false_eq_true,if_false];omega
   |false=>simp only[Bool.not_false,if_true,Bool.false_eq_true,if_false];omega
 have hc1:=hc _ (Nat.le_refl _)
 have hm1:=hm t.1.length
 have hm1:cnt (fun i=>(marksT t).getD i false) t.1.length+sideN t=t.1.length:=hm1
 rw[he]
 refine⟨hvw,⟨_,g2,hw⟩, ?_, ?_⟩
 ·omega
 ·rw[hw.len];omega
theorem trim_ok {p:Par}{t:Tre}{most:Int}(hv:validT p t=true)(ht:TreOk t):TreOk (trimT t most):=by
 obtain⟨_,⟨gone,g1,g2⟩,_,_⟩:=trim_spec (most:=most) hv
 refine⟨fun n hn=> ?_, ?_⟩
 ·obtain⟨m,hm,rfl⟩:=List.getElem_of_mem hn
  obtain⟨j,j1,j2,rfl⟩:=g2.from' m hm
  have:=g2.parts j1 j2
  rw[List.getD_eq_getElem?_getD,List.getElem?_eq_getElem hm,Option.getD_some] at this
  obtain⟨a1,a2,a3⟩:=this
  have ho:=ht.get j1
  unfold NdOk at ho⊢
  rw[a1,a2,a3];exact ho
 ·have:=ht.2
  have:(trimT t most).1.length≤t.1.length:=by rw[g2.len];exact cnt_le _
  omega
end Lc
