/- What the presynchronisation does with accepted lists, and with any. -/
import Derived.Test.YtlabkmpegbnilaaGreatDoorPres
set_option linter.unusedVariables false
set_option linter.unusedSimpArgs false
set_option maxRecDepth 100000
namespace Lc
open Go
theorem ext_getG {α:Type}(d:α){l m:List α}(hl:l.length=m.length)(h:∀i,i<l.length→l.getD i d=m.getD i d):l=m:=by
 apply List.ext_getElem hl
 intro i h1 h2
 have:=h i h1
 simpa[List.getD_eq_getElem?_getD,h1,h2] using this
theorem drop_get {l:List Hdr}{j:Nat}(h:j<l.length):l.drop j=l.getD j hz::l.drop (j+1):=by
 rw[List.drop_eq_getElem_cons h]
 simp[List.getD_eq_getElem?_getD,h]
theorem take_get {l:List Hdr}{j:Nat}(h:j<l.length):l.take (j+1)=l.take j++[l.getD j hz]:=by
 rw[List.take_add_one]
 simp[List.getD_eq_getElem?_getD,h]
theorem get_mem {l:List Hdr}{j:Nat}(h:j<l.length):l.getD j hz∈l:=by
 rw[List.getD_eq_getElem?_getD,List.getElem?_eq_getElem h,Option.getD_some]
 exact List.getElem_mem _
noncomputable def bitsGo (p:Par)(salt:List Int):Cx→List Hdr→List Bool
 |_,[]=>[]
 |c,h::r=>(if comFn salt (advFn p c h).1.1=true then[bitFn salt (advFn p c h).1.2.1] else[])++bitsGo p salt (advFn p c h).1 r
theorem bits_append (p:Par)(salt:List Int):∀(l m:List Hdr) (c:Cx),bitsGo p salt c (l++m)=bitsGo p salt c l++bitsGo p salt (ctxOf p c l) m
 |[],m,c=>rfl
 |h::r,m,c=>by simp only[List.cons_append,bitsGo,ctxOf,bits_append p salt r m,List.append_assoc]
theorem bits_le (p:Par)(salt:List Int):∀(l:List Hdr) (c:Cx),(bitsGo p salt c l).length≤l.length
 |[],c=>Nat.le_refl _
 |h::r,c=>by
  have:=bits_le p salt r (advFn p c h).1
  rw[bitsGo,List.length_append,List.length_cons]
  split
  ·rw[List.length_singleton];omega
  ·rw[List.length_nil];omega
theorem com_up {salt:List Int}{H:Int}(h:HOk salt)(h0: -1≤H):upFn salt (H+1)=upFn salt H+(if comFn salt (H+1)=true then 1 else 0):=by
 have hb:=h.2.getD 0
 have hc:comFn salt (H+1)=true↔(H+1)%16=salt.getD 0 0%16:=by
  simp only[comFn,Bool.and_eq_true,decide_eq_true_eq]
  constructor
  ·exact fun h=>h.2
  ·exact fun h=>⟨by omega,h⟩
 unfold upFn
 by_cases hq:comFn salt (H+1)=true
 ·rw[if_pos hq]
  have:=hc.1 hq
  split<;>split<;>omega
 ·rw[if_neg hq]
  have hn:¬(H+1)%16=salt.getD 0 0%16:=fun h=>hq (hc.2 h)
  split<;>split<;>omega
theorem bits_count {p:Par}{salt:List Int}{now:Int}(hs:HOk salt):∀(l:List Hdr) (c:Cx),0≤c.1→Acc p now c l→((bitsGo p salt c l).length:Int)=upFn salt (c.1+l.length)-upFn salt c.1
 |[],c,_,_=>by simp[bitsGo]
 |h::r,c,h0,⟨h1,h2⟩=>by
  have hh:(advFn p c h).1.1=c.1+1:=adv_height (check_room h1)
  have ih:=bits_count hs r (advFn p c h).1 (by omega) h2
  have hu:=com_up hs (H:=c.1) (by omega)
  rw[bitsGo,List.length_append,List.length_cons]
  rw[hh] at ih⊢
  have e:c.1+1+(r.length:Int)=c.1+((r.length+1:Nat):Int):=by omega
  rw[e] at ih
  split at hu
  ·rename_i hc
   rw[if_pos hc,List.length_singleton];omega
  ·rename_i hc
   rw[if_neg hc,List.length_nil];omega
structure Setup where
 p:Par
 salt:List Int
 goal:List Int
 c0:Cx
 base:List Int
 l:List Hdr
 now:Int
 hp:PGood p
 hsalt:HOk salt
 hgoal:Ok4 goal
 hbase:Ok4 base
 hc0:CGood c0
 hf0:fitsFn p c0=true
 hpos:0<l.length
 hlen:l.length≤1000
 hacc:Acc p now c0 l
 hok:∀h,h∈l→HdrOk h
 hnow:U32 now
 reach:N4 goal≤N4 (workFrom base l)
 below:∀k,k<l.length→N4 (workFrom base (l.take k))<N4 goal
def RS (S:Setup)(j:Nat)(s:Pst)(acc:List Hdr):Prop:=
 s.2.1=S.salt∧s.2.2.1=S.goal∧s.2.2.2.1=S.c0∧s.2.2.2.2.1=S.base∧
 ((j<S.l.length∧s.1=1∧s.2.2.2.2.2.1=ctxOf S.p S.c0 (S.l.take j)∧s.2.2.2.2.2.2.1=workFrom S.base (S.l.take j)∧s.2.2.2.2.2.2.2.2.1=bitsGo S.p S.salt S.c0 (S.l.take j)∧s.2.2.2.2.2.2.2.2.2.1=[]∧acc=[])∨
  (∃k,j=S.l.length+k∧k<S.l.length∧s.1=2∧s.2.2.2.2.2.1=ctxOf S.p S.c0 (S.l.take k)∧s.2.2.2.2.2.2.1=workFrom S.base (S.l.take k)∧s.2.2.2.2.2.2.2.2.1=bitsGo S.p S.salt S.c0 S.l∧acc++s.2.2.2.2.2.2.2.2.2.1=S.l.take k)∨
  (j=S.l.length+S.l.length∧s.1=3∧s.2.2.2.2.2.2.2.2.1=bitsGo S.p S.salt S.c0 S.l∧s.2.2.2.2.2.2.2.2.2.1=[]∧acc=S.l))
theorem acc_at {p:Par}{now:Int}{c:Cx}{l:List Hdr}(h:Acc p now c l){k:Nat}(hk:k<l.length):checkFn p (ctxOf p c (l.take k)) (l.getD k hz) now=0:=by
 rw[←List.take_append_drop k l,acc_append,drop_get hk] at h
 exact h.2.1
theorem work_at (S:Setup){k:Nat}(hk:k<S.l.length):totFn (workFrom S.base (S.l.take k)) (workH (S.l.getD k hz))=workFrom S.base (S.l.take (k+1)):=by
 rw[take_get hk,workFrom_append];rfl
theorem ctx_at (S:Setup){k:Nat}(hk:k<S.l.length):(advFn S.p (ctxOf S.p S.c0 (S.l.take k)) (S.l.getD k hz)).1=ctxOf S.p S.c0 (S.l.take (k+1)):=by
 rw[take_get hk,ctx_append];rfl
theorem bits_at (S:Setup){k:Nat}(hk:k<S.l.length):bitsGo S.p S.salt S.c0 (S.l.take (k+1))=bitsGo S.p S.salt S.c0 (S.l.take k)++(if comFn S.salt (ctxOf S.p S.c0 (S.l.take (k+1))).1=true then[bitFn S.salt (ctxOf S.p S.c0 (S.l.take (k+1))).2.1] else[]):=by
 rw[←ctx_at S hk]
 conv=>lhs;rw[take_get hk,bits_append]
 rw[bitsGo,bitsGo,List.append_nil]
theorem reach_iff (S:Setup){k:Nat}(hk:k<S.l.length):N4 S.goal≤N4 (workFrom S.base (S.l.take (k+1)))↔k+1=S.l.length:=by
 constructor
 ·intro h
  refine Nat.le_antisymm hk (Nat.le_of_not_lt (fun hlt=> ?_))
  have:=S.below (k+1) hlt
  omega
 ·intro h
  rw[h,List.take_of_length_le (Nat.le_refl _)];exact S.reach
theorem rs_step (S:Setup){j:Nat}{m:Mc}{acc:List Hdr}(hm:MInv m)(h1:m.2.1=S.p)(h2:m.2.2.1=S.now)(hj:j<S.l.length+S.l.length)(hr:RS S j m.1 (acc++m.2.2.2.1)):
 (takeFn m ((S.l++S.l).getD j hz)).2=0∧RS S (j+1) (takeFn m ((S.l++S.l).getD j hz)).1.1 (acc++(takeFn m ((S.l++S.l).getD j hz)).1.2.2.2.1):=by
 obtain⟨r1,r2,r3,r4,hr⟩:=hr
 rcases hr with⟨k0,k1,k2,k3,k4,k5,k6⟩|⟨k,rfl,k0,k1,k2,k3,k4,k5⟩|⟨k0,_⟩
 ·have hx:(S.l++S.l).getD j hz=S.l.getD j hz:=by
   simp[List.getD_eq_getElem?_getD,List.getElem?_append_left k0]
  rw[hx]
  have hck:checkFn m.2.1 m.1.2.2.2.2.2.1 (S.l.getD j hz) m.2.2.1=0:=by rw[h1,h2,k2];exact acc_at S.hacc k0
  have hA:nextA m (S.l.getD j hz)=ctxOf S.p S.c0 (S.l.take (j+1)):=by unfold nextA;rw[h1,k2];exact ctx_at S k0
  have hW:nextW m (S.l.getD j hz)=workFrom S.base (S.l.take (j+1)):=by unfold nextW;rw[k3];exact work_at S k0
  have hbl:¬(comFn m.1.2.1 (nextA m (S.l.getD j hz)).1=true∧1024≤m.1.2.2.2.2.2.2.2.2.1.length):=by
   rintro⟨_,hb⟩
   have h3:=bits_le S.p S.salt (S.l.take j) S.c0
   rw[k4] at hb
   rw[List.length_take] at h3
   have:=S.hlen
   omega
  have hB:bitsOf m.1 (nextA m (S.l.getD j hz))=bitsGo S.p S.salt S.c0 (S.l.take (j+1)):=by
   unfold bitsOf
   rw[bits_at S k0,hA,r1,k4]
   split
   ·rfl
   ·rw[List.append_nil]
  have hT:takeFn m (S.l.getD j hz)=if j+1=S.l.length then((turnS m.1 (bitsGo S.p S.salt S.c0 (S.l.take (j+1))),m.2),0) else((setAt m.1 (ctxOf S.p S.c0 (S.l.take (j+1))) (workFrom S.base (S.l.take (j+1))) (bitsGo S.p S.salt S.c0 (S.l.take (j+1))) m.1.2.2.2.2.2.2.2.2.2.1,m.2),0):=by
   rw[takeFn,if_neg (by omega),if_neg (by omega),if_pos k1,commitFn,if_neg hbl,hB,hA,hW,r2]
   by_cases he:j+1=S.l.length
   ·rw[if_pos he,if_pos ((reach_iff S k0).2 he)]
   ·rw[if_neg he,if_neg (fun h=>he ((reach_iff S k0).1 h))]
  rw[hT]
  split
  ·rename_i he
   refine⟨rfl,r1,r2,r3,r4,.inr (.inl ⟨0,by omega,S.hpos,rfl, ?_, ?_, ?_, ?_⟩)⟩
   ·show m.1.2.2.2.1=_;rw[r3];rfl
   ·show m.1.2.2.2.2.1=_;rw[r4];rfl
   ·show bitsGo S.p S.salt S.c0 (S.l.take (j+1))=_;rw[he,List.take_of_length_le (Nat.le_refl _)]
   ·show(acc++m.2.2.2.1)++m.1.2.2.2.2.2.2.2.2.2.1=_;rw[k6,k5];rfl
  ·rename_i he
   exact⟨rfl,r1,r2,r3,r4,.inl ⟨by omega,k1,rfl,rfl,rfl,k5,k6⟩⟩
 ·have hx:(S.l++S.l).getD (S.l.length+k) hz=S.l.getD k hz:=by
   simp[List.getD_eq_getElem?_getD,List.getElem?_append_right]
  rw[hx]
  have hck:checkFn m.2.1 m.1.2.2.2.2.2.1 (S.l.getD k hz) m.2.2.1=0:=by rw[h1,h2,k2];exact acc_at S.hacc k0
  have hA:nextA m (S.l.getD k hz)=ctxOf S.p S.c0 (S.l.take (k+1)):=by unfold nextA;rw[h1,k2];exact ctx_at S k0
  have hW:nextW m (S.l.getD k hz)=workFrom S.base (S.l.take (k+1)):=by unfold nextW;rw[k3];exact work_at S k0
  have f0:=fits_height S.hf0
  have hbad:badFn m.1 (nextA m (S.l.getD k hz))=false:=by
   unfold badFn
   rw[hA,r1,r3,k4]
   by_cases hc:comFn S.salt (ctxOf S.p S.c0 (S.l.take (k+1))).1=true
   ·have hH:(ctxOf S.p S.c0 (S.l.take (k+1))).1=S.c0.1+((k+1:Nat):Int):=by
     rw[acc_height _ _ (acc_take S.hacc _),List.length_take,Nat.min_eq_left (by omega)]
    have hcnt:=bits_count S.hsalt (S.l.take k) S.c0 f0.1 (acc_take S.hacc k)
    rw[List.length_take,Nat.min_eq_left (by omega)] at hcnt
    have hidx:befFn S.salt S.c0.1 (ctxOf S.p S.c0 (S.l.take (k+1))).1=((bitsGo S.p S.salt S.c0 (S.l.take k)).length:Int):=by
     unfold befFn
     rw[hH,if_neg (by omega),show S.c0.1+((k+1:Nat):Int)-1=S.c0.1+(k:Int) by omega,hcnt]
    have hall:bitsGo S.p S.salt S.c0 S.l=bitsGo S.p S.salt S.c0 (S.l.take k)++(bitFn S.salt (ctxOf S.p S.c0 (S.l.take (k+1))).2.1::bitsGo S.p S.salt (ctxOf S.p S.c0 (S.l.take (k+1))) (S.l.drop (k+1))):=by
     conv=>lhs;rw[←List.take_append_drop (k+1) S.l,bits_append,bits_at S k0,if_pos hc]
     rw[List.append_assoc];rfl
    rw[hidx,Int.toNat_natCast,hall]
    simp[List.getD_eq_getElem?_getD]
   ·have hc:comFn S.salt (ctxOf S.p S.c0 (S.l.take (k+1))).1=false:=by simpa using hc
    rw[hc];rfl
  have hT:takeFn m (S.l.getD k hz)=checkS m (S.l.getD k hz) (ctxOf S.p S.c0 (S.l.take (k+1))) (workFrom S.base (S.l.take (k+1))):=by
   rw[takeFn,if_neg (by omega),if_neg (by omega),if_neg (by omega),hA,hW]
  rw[hA] at hbad
  rw[hT,checkS,hbad,if_neg (by simp),r2]
  have htk:S.l.take (k+1)=acc++m.2.2.2.1++(m.1.2.2.2.2.2.2.2.2.2.1++[S.l.getD k hz]):=by rw[take_get k0,←k5,List.append_assoc]
  by_cases he:k+1=S.l.length
  ·rw[if_pos ((reach_iff S k0).2 he)]
   refine⟨rfl,r1,r2,r3,r4,.inr (.inr ⟨by omega,rfl,k4,rfl, ?_⟩)⟩
   show acc++(m.2.2.2.1++(m.1.2.2.2.2.2.2.2.2.2.1++[S.l.getD k hz]))=S.l
   rw[←List.append_assoc,←htk,he,List.take_of_length_le (Nat.le_refl _)]
  ·rw[if_neg (fun h=>he ((reach_iff S k0).1 h))]
   split
   ·refine⟨rfl,r1,r2,r3,r4,.inr (.inl ⟨k+1,by omega,by omega,k1,rfl,rfl,k4, ?_⟩)⟩
    show acc++(m.2.2.2.1++(m.1.2.2.2.2.2.2.2.2.2.1++[S.l.getD k hz]).take 1)++(m.1.2.2.2.2.2.2.2.2.2.1++[S.l.getD k hz]).drop 1=S.l.take (k+1)
    rw[htk,←List.append_assoc,List.append_assoc (acc++m.2.2.2.1),List.take_append_drop]
   ·refine⟨rfl,r1,r2,r3,r4,.inr (.inl ⟨k+1,by omega,by omega,k1,rfl,rfl,k4, ?_⟩)⟩
    show acc++m.2.2.2.1++(m.1.2.2.2.2.2.2.2.2.2.1++[S.l.getD k hz])=S.l.take (k+1)
    rw[htk]
 ·omega
theorem ll_ok (S:Setup):∀h,h∈S.l++S.l→HdrOk h:=fun h hh=>by
 rcases List.mem_append.1 hh with hh|hh<;>exact S.hok h hh
theorem rs_go (S:Setup)(acc:List Hdr):∀(r:List Hdr) (j:Nat) (m:Mc),MInv m→m.2.1=S.p→m.2.2.1=S.now→oLen m+r.length≤9000000→RS S j m.1 (acc++m.2.2.2.1)→(∃rest,(S.l++S.l).drop j=r++rest)→
 (feedGo m r).2.2=0∧RS S (j+r.length) (feedGo m r).1 (acc++(feedGo m r).2.1)∧SGood (feedGo m r).1∧soundFn S.p (feedGo m r).1=true
 |[],j,m,hm,h1,h2,ho,hr,_=>⟨rfl,hr,hm.good,by have:=hm.sound;rw[h1] at this;exact this⟩
 |x::r,j,m,hm,h1,h2,ho,hr,⟨rest,he⟩=>by
  have hj:j<(S.l++S.l).length:=by
   refine Nat.lt_of_not_le (fun hle=> ?_)
   rw[List.drop_eq_nil_of_le hle] at he
   cases he
  rw[drop_get hj] at he
  simp only[List.cons_append,List.cons.injEq] at he
  obtain⟨rfl,he⟩:=he
  rw[List.length_cons] at ho
  have hh:=ll_ok S _ (get_mem hj)
  obtain⟨t1,t2,t3,t4⟩:=take_inv hm hh (by omega)
  obtain⟨s1,s2⟩:=rs_step S hm h1 h2 (by rw[List.length_append] at hj;exact hj) hr
  rw[feedGo,if_neg (by rw[s1];simp),List.length_cons,show j+(r.length+1)=j+1+r.length by omega]
  exact rs_go S acc r (j+1) _ t1 (by rw[t2];exact h1) (by rw[t3];exact h2) (by omega) s2 ⟨rest,he⟩
def RSt (S:Setup)(j:Nat)(s:Pst)(acc:List Hdr):Prop:=RS S j s acc∧SGood s∧soundFn S.p s=true
theorem rs_feed (S:Setup){j:Nat}{s:Pst}{acc:List Hdr}(hr:RSt S j s acc){r rest:List Hdr}(he:(S.l++S.l).drop j=r++rest):
 (feedFn S.p s r S.now).2.2=0∧RSt S (j+r.length) (feedFn S.p s r S.now).1 (acc++(feedFn S.p s r S.now).2.1):=by
 obtain⟨h1,h2,h3⟩:=hr
 rw[feedFn,if_neg (by rw[h3];simp)]
 have hm:=minv0 S.hp h2 S.hnow h3
 have hl:r.length≤2000:=by
  have:=congrArg List.length he
  rw[List.length_drop,List.length_append,List.length_append] at this
  have:=S.hlen
  omega
 obtain⟨g1,g2,g3,g4⟩:=rs_go S acc r j (s,S.p,S.now,[],()) hm rfl rfl (by
  have:=hm.buf
  have:s.2.2.2.2.2.2.2.2.2.1.length≤64:=this
  show 0+s.2.2.2.2.2.2.2.2.2.1.length+r.length≤_
  omega) (by show RS S j s (acc++[]);rw[List.append_nil];exact h1) ⟨rest,he⟩
 exact⟨g1,g2,g3,g4⟩
def Few (s:Pst):Prop:=SGood s∧s.2.2.2.2.2.2.2.2.1.length≤1024∧s.2.2.2.2.2.2.2.2.2.1.length≤64
theorem zps_good :SGood zps:=⟨HOk.zero,zero4_ok,zc_good,zero4_ok,zc_good,zero4_ok,fun h hh=>(by cases hh)⟩
theorem few_go :∀(r:List Hdr) (m:Mc),MInv m→(∀h,h∈r→HdrOk h)→oLen m+r.length≤9000000→Few (feedGo m r).1∧(feedGo m r).2.1.length≤oLen m+r.length
 |[],m,hm,_,_=>⟨⟨hm.good,hm.bits,hm.buf⟩,by show m.2.2.2.1.length≤oLen m+0;unfold oLen;omega⟩
 |x::r,m,hm,hl,ho=>by
  rw[List.length_cons] at ho
  have hx:=hl x (by simp)
  obtain⟨t1,t2,t3,t4⟩:=take_inv hm hx (by omega)
  rw[feedGo]
  split
  ·rename_i he
   have hg:=t1.good
   refine⟨⟨⟨hg.1,hg.2.1,hg.2.2.1,hg.2.2.2.1,hg.2.2.2.2.1,hg.2.2.2.2.2.1,fun h hh=>(by cases hh)⟩,by show 0≤_;omega,by show 0≤_;omega⟩, ?_⟩
   show(takeFn m x).1.2.2.2.1.length≤_
   unfold oLen at t4⊢
   rw[List.length_cons];omega
  ·obtain⟨g1,g2⟩:=few_go r _ t1 (fun y hy=>hl y (List.mem_cons_of_mem _ hy)) (by omega)
   exact⟨g1,by rw[List.length_cons];omega⟩
theorem few_feed {p:Par}{s:Pst}{l:List Hdr}{now:Int}(h:FeedPre p s l now):Few (feedFn p s l now).1∧(feedFn p s l now).2.1.length≤64+l.length:=by
 obtain⟨h1,h2,h3,h4,h5⟩:=h
 unfold feedFn
 split
 ·exact⟨⟨zps_good,by show 0≤_;omega,by show 0≤_;omega⟩,Nat.zero_le _⟩
 ·rename_i hs
  have hm:=minv0 h1 h2 h5 (by simpa using hs)
  have hb:s.2.2.2.2.2.2.2.2.2.1.length≤64:=hm.buf
  have ho:oLen (s,p,now,[],())=s.2.2.2.2.2.2.2.2.2.1.length:=Nat.zero_add _
  obtain⟨g1,g2⟩:=few_go l _ hm h3 (by rw[ho];omega)
  exact⟨g1,by omega⟩
end Lc
set_option maxRecDepth 100000
namespace Lc
open Go
noncomputable def eqB {α:Type}(a b:α):Bool:= @decide (a=b) (Classical.propDecidable _)
theorem eqB_iff {α:Type}{a b:α}:eqB a b=true↔a=b:=by unfold eqB;exact @decide_eq_true_iff _ (Classical.propDecidable _)
theorem eqB_ne {α:Type}{a b:α}(h:a≠b):eqB a b=false:=by
 cases hq:eqB a b with
 |false=>rfl
 |true=>exact absurd (eqB_iff.1 hq) h
abbrev hbeq :Hdr→Hdr→Bool:=Ty.beq (.pair (.int .u32) (.pair (.arr 32 (.int .u8)) (.pair (.arr 32 (.int .u8)) (.pair (.int .u32) (.pair (.int .u32) (.pair (.int .u32) (.unit)))))))
theorem hbeq_iff (a b:Hdr):hbeq a b=true↔a=b:=beq_iff (.pair (.int .u32) (.pair (.arr 32 (.int .u8)) (.pair (.arr 32 (.int .u8)) (.pair (.int .u32) (.pair (.int .u32) (.pair (.int .u32) (.unit))))))) a b
def QSameHdrs.pre (a b:List Hdr):Prop:=a.length≤1000000000
noncomputable def QSameHdrs.fn (a b:List Hdr):Bool:=eqB a b
def QSameHdrs.inv4 (a b:List Hdr)(i:Int):Prop:=0≤i∧i≤a.length∧a.length=b.length∧∀j:Nat,j<i.toNat→a.getD j hz=b.getD j hz
def QSameHdrs.mes4 (a b:List Hdr)(i:Int):Nat:=(a.length-i).toNat
def QSameHdrs.VC :Prop:=∀(x0:(List Hdr)) (x1:(List Hdr)),QSameHdrs.pre x0 x1→((((x0.length:Int) !=(x1.length:Int))=true→(Ret1 false (QSameHdrs.fn x0 x1)))∧(((x0.length:Int) !=(x1.length:Int))=false→(QSameHdrs.inv4 x0 x1 (0:Int)∧∀(v13:Int),QSameHdrs.inv4 x0 x1 v13→(((decide (v13<(x0.length:Int)))=true→(0≤v13∧v13<(x0.length:Int))∧(let v19:Hdr:=(x0.getD (Int.toNat v13) ((0:Int),((List.replicate 32 (0:Int)),((List.replicate 32 (0:Int)),((0:Int),((0:Int),((0:Int),())))))))
 (0≤v13∧v13<(x1.length:Int))∧(let v23:Hdr:=(x1.getD (Int.toNat v13) ((0:Int),((List.replicate 32 (0:Int)),((List.replicate 32 (0:Int)),((0:Int),((0:Int),((0:Int),())))))))
 (let v24:Bool:=(!(Ty.beq (.pair (.int .u32) (.pair (.arr 32 (.int .u8)) (.pair (.arr 32 (.int .u8)) (.pair (.int .u32) (.pair (.int .u32) (.pair (.int .u32) (.unit))))))) v19 v23))
 ((v24=true→(Ret1 false (QSameHdrs.fn x0 x1)))∧(v24=false→(QSameHdrs.inv4 x0 x1 (IntKind.i64.wrap (v13+(1:Int)))∧QSameHdrs.mes4 x0 x1 (IntKind.i64.wrap (v13+(1:Int)))<QSameHdrs.mes4 x0 x1 v13)))))))∧((decide (v13<(x0.length:Int)))=false→(Ret1 true (QSameHdrs.fn x0 x1)))))))
theorem QSameHdrs.vc :QSameHdrs.VC:=by
 intro a b hp
 have hp:a.length≤1000000000:=hp
 simp only[ret1,QSameHdrs.fn]
 refine⟨fun h=> ?_,fun h=> ?_⟩
 ·symm
  refine eqB_ne (fun e=> ?_)
  rw[e] at h;simp at h
 ·have hl:a.length=b.length:=by
   have:=bne_eq_false_iff_eq.1 h
   omega
  refine⟨⟨by omega,by omega,hl,fun j hj=>by simp at hj⟩, ?_⟩
  rintro i ⟨k1,k2,k3,k4⟩
  refine⟨fun hc=> ?_,fun hc=> ?_⟩
  ·have hc:i<a.length:=of_decide_eq_true hc
   refine⟨⟨k1,hc⟩,⟨k1,by omega⟩,fun hne=> ?_,fun he=> ?_⟩
   ·symm
    refine eqB_ne (fun e=> ?_)
    rw[e,beq_self] at hne;cases hne
   ·have he:a.getD i.toNat hz=b.getD i.toNat hz:=(hbeq_iff _ _).1 ((Bool.not_eq_false' _).mp he)
    rw[i64w (by omega) (by omega)]
    refine⟨⟨by omega,by omega,hl,fun j hj=> ?_⟩,by simp only[QSameHdrs.mes4];omega⟩
    by_cases hjk:j=i.toNat
    ·rw[hjk];exact he
    ·exact k4 j (by omega)
  ·have hc:¬i<a.length:=of_decide_eq_false hc
   symm
   exact eqB_iff.2 (ext_getG hz hl (fun j hj=>k4 j (by omega)))
abbrev b4 :List Int→List Int→Bool:=Ty.beq (.arr 4 (.int .u64))
theorem b4_iff (a b:List Int):b4 a b=true↔a=b:=beq_iff (.arr 4 (.int .u64)) a b
theorem b32_iff (a b:List Int):b32 a b=true↔a=b:=beq_iff (.arr 32 (.int .u8)) a b
def VSame17.pre (a b:Pst):Prop:=a.2.2.2.2.2.2.2.2.1.length≤1000000000∧a.2.2.2.2.2.2.2.2.2.1.length≤1000000000∧CGood a.2.2.2.1∧CGood a.2.2.2.2.2.1
noncomputable def VSame17.fn (a b:Pst):Bool:=eqB a b
def headS (a b:Pst):Prop:=a.1=b.1∧a.2.1=b.2.1∧a.2.2.1=b.2.2.1∧a.2.2.2.2.1=b.2.2.2.2.1∧a.2.2.2.2.2.2.1=b.2.2.2.2.2.2.1∧a.2.2.2.2.2.2.2.1=b.2.2.2.2.2.2.2.1∧a.2.2.2.2.2.2.2.2.1.length=b.2.2.2.2.2.2.2.2.1.length
def VSame17.inv4 (a b:Pst)(i:Int):Prop:=0≤i∧i≤a.2.2.2.2.2.2.2.2.1.length∧headS a b∧∀j:Nat,j<i.toNat→a.2.2.2.2.2.2.2.2.1.getD j false=b.2.2.2.2.2.2.2.2.1.getD j false
def VSame17.mes4 (a b:Pst)(i:Int):Nat:=(a.2.2.2.2.2.2.2.2.1.length-i).toNat
def VSame17.VC :Prop:=∀(x0:Pst) (x1:Pst),VSame17.pre x0 x1→((x0.1 !=x1.1)=false→(x0.1 !=x1.1)=false)∧((x0.1 !=x1.1)=false→(x0.1 !=x1.1)=false)∧((x0.1 !=x1.1)=false→(x0.1 !=x1.1)=false)∧((x0.1 !=x1.1)=false→(x0.1 !=x1.1)=false)∧((x0.1 !=x1.1)=false→(x0.1 !=x1.1)=false)∧(let v17:Bool:=(bif (x0.1 !=x1.1) then true else(!(Ty.beq (.arr 32 (.int .u8)) x0.2.1 x1.2.1)))
 (v17=false→v17=false)∧(v17=false→v17=false)∧(v17=false→v17=false)∧(v17=false→v17=false)∧(v17=false→v17=false)∧(let v24:Bool:=(bif v17 then true else(!(Ty.beq (.arr 4 (.int .u64)) x0.2.2.1 x1.2.2.1)))
 (v24=false→v24=false)∧(v24=false→v24=false)∧(v24=false→v24=false)∧(v24=false→v24=false)∧(v24=false→v24=false)∧(let v31:Bool:=(bif v24 then true else(!(Ty.beq (.arr 4 (.int .u64)) x0.2.2.2.2.1 x1.2.2.2.2.1)))
 (v31=false→v31=false)∧(v31=false→v31=false)∧(v31=false→v31=false)∧(v31=false→v31=false)∧(v31=false→v31=false)∧(let v38:Bool:=(bif v31 then true else(!(Ty.beq (.arr 4 (.int .u64)) x0.2.2.2.2.2.2.1 x1.2.2.2.2.2.2.1)))
 (v38=false→v38=false)∧(v38=false→v38=false)∧(v38=false→v38=false)∧(v38=false→v38=false)∧(v38=false→v38=false)∧(let v45:Bool:=(bif v38 then true else(x0.2.2.2.2.2.2.2.1 !=x1.2.2.2.2.2.2.2.1))
 (v45=false→v45=false)∧(v45=false→v45=false)∧(v45=false→v45=false)∧(v45=false→v45=false)∧(v45=false→v45=false)∧(v45=false→v45=false)∧(v45=false→v45=false)∧(let v54:Bool:=(bif v45 then true else((x0.2.2.2.2.2.2.2.2.1.length:Int) !=(x1.2.2.2.2.2.2.2.2.1.length:Int)))
 ((v54=true→(Ret1 false (VSame17.fn x0 x1)))∧(v54=false→(VSame17.inv4 x0 x1 (0:Int)∧∀(v58:Int),VSame17.inv4 x0 x1 v58→(((decide (v58<(x0.2.2.2.2.2.2.2.2.1.length:Int)))=true→(0≤v58∧v58<(x0.2.2.2.2.2.2.2.2.1.length:Int))∧(0≤v58∧v58<(x1.2.2.2.2.2.2.2.2.1.length:Int))∧(let v71:Bool:=(!(Ty.beq (.bool) (x0.2.2.2.2.2.2.2.2.1.getD (Int.toNat v58) false) (x1.2.2.2.2.2.2.2.2.1.getD (Int.toNat v58) false)))
 ((v71=true→(Ret1 false (VSame17.fn x0 x1)))∧(v71=false→(VSame17.inv4 x0 x1 (IntKind.i64.wrap (v58+(1:Int)))∧VSame17.mes4 x0 x1 (IntKind.i64.wrap (v58+(1:Int)))<VSame17.mes4 x0 x1 v58)))))∧((decide (v58<(x0.2.2.2.2.2.2.2.2.1.length:Int)))=false→VSameContext.pre x0.2.2.2.1 x1.2.2.2.1∧((VSameContext.fn x0.2.2.2.1 x1.2.2.2.1)=true→(VSameContext.fn x0.2.2.2.1 x1.2.2.2.1)=true)∧((VSameContext.fn x0.2.2.2.1 x1.2.2.2.1)=true→(VSameContext.fn x0.2.2.2.1 x1.2.2.2.1)=true)∧((VSameContext.fn x0.2.2.2.1 x1.2.2.2.1)=true→(VSameContext.fn x0.2.2.2.1 x1.2.2.2.1)=true)∧((VSameContext.fn x0.2.2.2.1 x1.2.2.2.1)=true→(VSameContext.fn x0.2.2.2.1 x1.2.2.2.1)=true)∧((VSameContext.fn x0.2.2.2.1 x1.2.2.2.1)=true→VSameContext.pre x0.2.2.2.2.2.1 x1.2.2.2.2.2.1)∧((VSameContext.fn x0.2.2.2.1 x1.2.2.2.1)=true→(VSameContext.fn x0.2.2.2.1 x1.2.2.2.1)=true)∧(let v84:Bool:=(bif (VSameContext.fn x0.2.2.2.1 x1.2.2.2.1) then(VSameContext.fn x0.2.2.2.2.2.1 x1.2.2.2.2.2.1) else false)
 (v84=true→v84=true)∧(v84=true→v84=true)∧(v84=true→v84=true)∧(v84=true→v84=true)∧(v84=true→QSameHdrs.pre x0.2.2.2.2.2.2.2.2.2.1 x1.2.2.2.2.2.2.2.2.2.1)∧(v84=true→v84=true)∧(let v91:Bool:=(bif v84 then(QSameHdrs.fn x0.2.2.2.2.2.2.2.2.2.1 x1.2.2.2.2.2.2.2.2.2.1) else false)
 (Ret1 v91 (VSame17.fn x0 x1)))))))))))))))
theorem same_iff (a b:Cx):sameFn a b=true↔a=b:=by
 obtain⟨a1,a2,a3,a4,a5,a6⟩:=a
 obtain⟨b1,b2,b3,b4,b5,b6⟩:=b
 simp only[sameFn,decide_eq_true_eq,Prod.mk.injEq,and_true]
theorem head_iff {a b:Pst}:(bif (bif (bif (bif (bif (bif (a.1 !=b.1) then true else(!(b32 a.2.1 b.2.1))) then true else(!(b4 a.2.2.1 b.2.2.1))) then true else(!(b4 a.2.2.2.2.1 b.2.2.2.2.1))) then true else(!(b4 a.2.2.2.2.2.2.1 b.2.2.2.2.2.2.1))) then true else(a.2.2.2.2.2.2.2.1 !=b.2.2.2.2.2.2.2.1)) then true else((a.2.2.2.2.2.2.2.2.1.length:Int) !=(b.2.2.2.2.2.2.2.2.1.length:Int)))=false↔headS a b:=by
 simp only[Bool.cond_true_left,Bool.or_eq_false_iff,bne_eq_false_iff_eq,Bool.not_eq_false',b32_iff,b4_iff,headS,and_assoc,Int.natCast_inj]
theorem VSame17.vc :VSame17.VC:=by
 intro a b ⟨p1,p2,p3,p4⟩
 simp only[imp_self,true_and,ret1,VSame17.fn,VSameContext.fn,QSameHdrs.fn]
 refine⟨fun h=> ?_,fun h=> ?_⟩
 ·symm
  refine eqB_ne (fun e=> ?_)
  have:headS a b:=by rw[e];exact⟨rfl,rfl,rfl,rfl,rfl,rfl,rfl⟩
  have hh:=head_iff.2 this
  rw[hh] at h;cases h
 ·have hs:=head_iff.1 h
  have hl:=hs.2.2.2.2.2.2
  refine⟨⟨by omega,by omega,hs,fun j hj=>by simp at hj⟩, ?_⟩
  rintro i ⟨k1,k2,k3,k4⟩
  refine⟨fun hc=> ?_,fun hc=> ?_⟩
  ·have hc:i<a.2.2.2.2.2.2.2.2.1.length:=of_decide_eq_true hc
   refine⟨⟨k1,hc⟩,⟨k1,by omega⟩,fun hne=> ?_,fun he=> ?_⟩
   ·symm
    refine eqB_ne (fun e=> ?_)
    rw[e,beq_self] at hne;cases hne
   ·have he:a.2.2.2.2.2.2.2.2.1.getD i.toNat false=b.2.2.2.2.2.2.2.2.1.getD i.toNat false:=(beq_iff .bool _ _).1 ((Bool.not_eq_false' _).mp he)
    rw[i64w (by omega) (by omega)]
    refine⟨⟨by omega,by omega,hs,fun j hj=> ?_⟩,by simp only[VSame17.mes4];omega⟩
    by_cases hjk:j=i.toNat
    ·rw[hjk];exact he
    ·exact k4 j (by omega)
  ·have hc:¬i<a.2.2.2.2.2.2.2.2.1.length:=of_decide_eq_false hc
   have hbits:a.2.2.2.2.2.2.2.2.1=b.2.2.2.2.2.2.2.2.1:=ext_getG false hl (fun j hj=>k4 j (by omega))
   refine⟨p3.2.2,fun _=>p4.2.2,fun _=>p2, ?_⟩
   obtain⟨a1,a2,a3,a4,a5,a6,a7,a8,a9,a10,a11⟩:=a
   obtain⟨b1,b2,b3,b4,b5,b6,b7,b8,b9,b10,b11⟩:=b
   obtain⟨h1,h2,h3,h4,h5,h6,_⟩:=hs
   simp only at h1 h2 h3 h4 h5 h6 hbits
   subst h1 h2 h3 h4 h5 h6 hbits
   rw[Bool.eq_iff_iff]
   simp only[Bool.cond_false_right,Bool.and_eq_true,same_iff,eqB_iff,Prod.mk.injEq,true_and,and_true,and_assoc]
def LWork.pre (l:List Hdr):Prop:=(∀h,h∈l→HdrOk h)∧l.length≤100000
noncomputable def LWork.fn (l:List Hdr):List Int:=workFrom (List.replicate 4 0) l
def LWork.inv3 (l:List Hdr)(z s:List Int)(i:Int):Prop:=0≤i∧i≤l.length∧Ok4 s∧workFrom (List.replicate 4 0) l=workFrom s (l.drop i.toNat)
def LWork.mes3 (l:List Hdr)(z s:List Int)(i:Int):Nat:=(l.length-i).toNat
def LWork.VC :Prop:=∀(x0:(List Hdr)),LWork.pre x0→(LWork.inv3 x0 (List.replicate 4 (0:Int)) (List.replicate 4 (0:Int)) (0:Int)∧∀(v2:(List Int)) (v3:(List Int)) (v10:Int),LWork.inv3 x0 v2 v3 v10→(((decide (v10<(x0.length:Int)))=true→(0≤v10∧v10<(x0.length:Int))∧(let v13:Hdr:=(x0.getD (Int.toNat v10) ((0:Int),((List.replicate 32 (0:Int)),((List.replicate 32 (0:Int)),((0:Int),((0:Int),((0:Int),())))))))
 (let v5h:Hdr:=((0:Int),((List.replicate 32 (0:Int)),((List.replicate 32 (0:Int)),((0:Int),((0:Int),((0:Int),()))))))
 QExpand.pre v13.2.2.2.2.1∧QWork.pre ((QExpand.fn v13.2.2.2.2.1).1)∧QTotal.pre v3 (QWork.fn ((QExpand.fn v13.2.2.2.2.1).1))∧(LWork.inv3 x0 v2 (QTotal.fn v3 (QWork.fn ((QExpand.fn v13.2.2.2.2.1).1))) (IntKind.i64.wrap (v10+(1:Int)))∧LWork.mes3 x0 v2 (QTotal.fn v3 (QWork.fn ((QExpand.fn v13.2.2.2.2.1).1))) (IntKind.i64.wrap (v10+(1:Int)))<LWork.mes3 x0 v2 v3 v10))))∧((decide (v10<(x0.length:Int)))=false→(Ret1 v3 (LWork.fn x0)))))
theorem LWork.vc :LWork.VC:=by
 intro l ⟨h1,h2⟩
 simp only[QExpand.fn,QWork.fn,QTotal.fn,LWork.fn,ret1]
 refine⟨⟨by omega,by omega,zero4_ok,rfl⟩, ?_⟩
 rintro z s i ⟨k1,k2,k3,k4⟩
 refine⟨fun hc=> ?_,fun hc=> ?_⟩
 ·have hc:i<l.length:=of_decide_eq_true hc
  rw[drop_hdr k1 hc] at k4
  have hh:=get_hdr h1 k1 hc
  generalize l.getD i.toNat _=h at*
  rw[i64w (by omega) (by omega)]
  exact⟨⟨k1,hc⟩,hh.2.2.2.2.1,(expand1 hh.2.2.2.2.1).1,⟨k3,ok4' _⟩,⟨by omega,by omega,ok4' _,k4⟩,by simp only[LWork.mes3];omega⟩
 ·have hc:¬i<l.length:=of_decide_eq_false hc
  rw[k4,List.drop_eq_nil_of_le (by omega)];rfl
noncomputable def madeL (v:Int)(seeds:List Int):List Hdr:=headersGo (madeParams v) (startFn (madeParams v)).1 (seeds.take 100)
noncomputable def madeG (v:Int)(seeds:List Int)(more:Int):List Int:=Wn 4 (N4 (workFrom (List.replicate 4 0) (madeL v seeds))+more.toNat)
noncomputable def madeS (v:Int)(seeds salt:List Int)(more:Int):Pst:=(beginFn (madeParams v) (startFn (madeParams v)).1 (List.replicate 4 0) (madeG v seeds more) salt).1
def LBegun.pre (v:Int)(seeds salt:List Int)(more:Int):Prop:=(0≤v∧v≤255)∧Bytes seeds∧HOk salt∧(0≤more∧more≤255)
noncomputable def LBegun.fn (v:Int)(seeds salt:List Int)(more:Int):Par×Pst×List Hdr:=(madeParams v,madeS v seeds salt more,madeL v seeds)
def LBegun.VC :Prop:=∀(x0:Int) (x1:(List Int)) (x2:(List Int)) (x3:Int),LBegun.pre x0 x1 x2 x3→(let v8h:Par:=(((0:Int),((List.replicate 32 (0:Int)),((List.replicate 32 (0:Int)),((0:Int),((0:Int),((0:Int),())))))),((List.replicate 4 (0:Int)),((0:Int),((0:Int),((0:Int),((0:Int),([],((0:Int),((0:Int),((0:Int),()))))))))))
 (let v9h:Pst:=((0:Int),((List.replicate 32 (0:Int)),((List.replicate 4 (0:Int)),(((0:Int),((List.replicate 32 (0:Int)),((0:Int),((0:Int),([],()))))),((List.replicate 4 (0:Int)),(((0:Int),((List.replicate 32 (0:Int)),((0:Int),((0:Int),([],()))))),((List.replicate 4 (0:Int)),((0:Int),([],([],()))))))))))
 MParams.pre x0∧(let v11h:Par:=(((0:Int),((List.replicate 32 (0:Int)),((List.replicate 32 (0:Int)),((0:Int),((0:Int),((0:Int),())))))),((List.replicate 4 (0:Int)),((0:Int),((0:Int),((0:Int),((0:Int),([],((0:Int),((0:Int),((0:Int),()))))))))))
 VStart.pre (MParams.fn x0)∧(let v12h:Cx:=((0:Int),((List.replicate 32 (0:Int)),((0:Int),((0:Int),([],())))))
 KSome.pre x1 (100:Int)∧MHeaders.pre (MParams.fn x0) ((VStart.fn (MParams.fn x0)).1) (KSome.fn x1 (100:Int))∧(let v30h:(List Hdr):=(MHeaders.fn (MParams.fn x0) ((VStart.fn (MParams.fn x0)).1) (KSome.fn x1 (100:Int)))
 LWork.pre v30h∧QAdd.pre (LWork.fn v30h) ((List.replicate 4 (0:Int)).set 0 (IntKind.u64.wrap x3))∧(let v38:(List Int):=(QAdd.fn (LWork.fn v30h) ((List.replicate 4 (0:Int)).set 0 (IntKind.u64.wrap x3))).1
 (let v39:Bool:=(QAdd.fn (LWork.fn v30h) ((List.replicate 4 (0:Int)).set 0 (IntKind.u64.wrap x3))).2
 VBegin17.pre (MParams.fn x0) ((VStart.fn (MParams.fn x0)).1) (List.replicate 4 (0:Int)) v38 x2∧(let v47:Pst:=(VBegin17.fn (MParams.fn x0) ((VStart.fn (MParams.fn x0)).1) (List.replicate 4 (0:Int)) v38 x2).1
 (let v48:Int:=(VBegin17.fn (MParams.fn x0) ((VStart.fn (MParams.fn x0)).1) (List.replicate 4 (0:Int)) v38 x2).2
 (let v17h:Pst:=((0:Int),((List.replicate 32 (0:Int)),((List.replicate 4 (0:Int)),(((0:Int),((List.replicate 32 (0:Int)),((0:Int),((0:Int),([],()))))),((List.replicate 4 (0:Int)),(((0:Int),((List.replicate 32 (0:Int)),((0:Int),((0:Int),([],()))))),((List.replicate 4 (0:Int)),((0:Int),([],([],()))))))))))
 (Ret3 (MParams.fn x0) v47 v30h (LBegun.fn x0 x1 x2 x3))))))))))))
theorem take100 {seeds:List Int}(h:Bytes seeds):Bytes (seeds.take 100)∧(seeds.take 100).length≤100:=⟨h.take _,by rw[List.length_take];omega⟩
theorem madeL_ok {v:Int}{seeds:List Int}(hv:0≤v∧v≤255)(hs:Bytes seeds):(∀h,h∈madeL v seeds→HdrOk h)∧(madeL v seeds).length≤100:=by
 obtain⟨g1,g2⟩:=headers_ok (made_ok hv) (seeds.take 100) _ (start_good (made_ok hv)) (take100 hs).1
 exact⟨g1,Nat.le_trans g2 (take100 hs).2⟩
theorem LBegun.vc :LBegun.VC:=by
 intro v seeds salt more ⟨h1,h2,h3,h4⟩
 have hp:=made_ok h1
 have hs:=start_good hp
 obtain⟨t1,t2⟩:=take100 h2
 obtain⟨g1,g2⟩:=madeL_ok h1 h2
 have hm:IntKind.u64.wrap more=((more.toNat:Nat):Int):=by rw[u64w (by omega) (by omega)];omega
 have hset:(List.replicate 4 (0:Int)).set 0 (IntKind.u64.wrap more)=Wn 4 more.toNat:=by rw[hm];exact set0 (by omega)
 have hN:N4 (Wn 4 more.toNat)=more.toNat:=N4_W4 (by unfold Big;omega)
 simp only[MParams.fn,VStart.fn,KSome.fn,MHeaders.fn,LWork.fn,VBegin17.fn,QAdd.fn,ret3,hset,hN]
 refine⟨h1,hp,by show(0:Int)≤100;omega,⟨hp,hs,t1,by have:(seeds.take (Int.toNat 100)).length≤100:=t2;omega⟩,⟨g1,by have:(madeL v seeds).length≤100:=g2;exact Nat.le_trans this (by omega)⟩,⟨workFrom_ok zero4_ok _,ok4' _⟩,⟨hp,hs,zero4_ok,ok4' _⟩,rfl⟩
theorem made_sum {v:Int}{seeds:List Int}(hv:0≤v∧v≤255)(hs:Bytes seeds)(k:Nat)(hk:k<(madeL v seeds).length):
 N4 (workFrom (List.replicate 4 0) ((madeL v seeds).take k))<N4 (workFrom (List.replicate 4 0) (madeL v seeds)):=by
 obtain⟨g1,g2⟩:=madeL_ok hv hs
 have hp:=made_ok hv
 obtain⟨d1,d2,d3⟩:=made_due hv
 have hst:(startFn (madeParams v)).1.1=0:=by rw[startFn,if_neg (by rw[made_valid hv];simp)]
 have hacc:=headers_acc (madeParams v) (seeds.take 100) (startFn (madeParams v)).1
 have hlow:=acc_low hp d1 d2 d3 (madeL v seeds) _ (start_good hp) (start_fits (made_valid hv)) (made_low hv) g1 hacc (by rw[hst];omega)
 have hall:∀h,h∈madeL v seeds→HdrOk h∧2^118≤expandN h.2.2.2.2.1.toNat:=fun h hh=>⟨g1 h hh,hlow h hh⟩
 have hB:100*2^138<Big:=by decide+kernel
 have h1:=work_sum ((madeL v seeds).take k) (List.replicate 4 0) (fun h hh=>hall h (List.mem_of_mem_take hh)) (by
  rw[zero4_N,List.length_take]
  have:=Nat.mul_le_mul_right (2^138) (show min k (madeL v seeds).length≤100 by omega)
  omega)
 obtain⟨a,a1,a2,a3⟩:=h1
 rw[zero4_N,Nat.zero_add] at a1
 have hsum:((madeL v seeds).take k).length+((madeL v seeds).drop k).length=(madeL v seeds).length:=by rw[List.length_take,List.length_drop];omega
 have hm:=Nat.mul_le_mul_right (2^138) (show((madeL v seeds).take k).length+((madeL v seeds).drop k).length≤100 by omega)
 rw[Nat.add_mul] at hm
 obtain⟨b,b1,b2,b3⟩:=work_sum ((madeL v seeds).drop k) (workFrom (List.replicate 4 0) ((madeL v seeds).take k)) (fun h hh=>hall h (List.mem_of_mem_drop hh)) (by rw[a1];omega)
 rw[←workFrom_append,List.take_append_drop] at b1
 rw[List.length_drop] at b2
 omega
noncomputable def mkSetup (v:Int)(seeds salt:List Int)(hv:0≤v∧v≤255)(hs:Bytes seeds)(hsalt:HOk salt)(hpos:0<(madeL v seeds).length):Setup where
 p:=madeParams v
 salt:=salt
 goal:=madeG v seeds 0
 c0:=(startFn (madeParams v)).1
 base:=List.replicate 4 0
 l:=madeL v seeds
 now:=1073741824
 hp:=made_ok hv
 hsalt:=hsalt
 hgoal:=ok4' _
 hbase:=zero4_ok
 hc0:=start_good (made_ok hv)
 hf0:=start_fits (made_valid hv)
 hpos:=hpos
 hlen:=Nat.le_trans (madeL_ok hv hs).2 (by omega)
 hacc:=headers_acc _ _ _
 hok:=(madeL_ok hv hs).1
 hnow:=⟨by decide,by decide⟩
 reach:=by
  show N4 (Wn 4 _)≤_
  rw[show(0:Int).toNat=0 from rfl,Nat.add_zero,N4_W4 (workFrom_ok zero4_ok _).lt]
  exact Nat.le_refl _
 below:=by
  intro k hk
  show _<N4 (Wn 4 _)
  rw[show(0:Int).toNat=0 from rfl,Nat.add_zero,N4_W4 (workFrom_ok zero4_ok _).lt]
  exact made_sum hv hs k hk
theorem made_state {v:Int}{seeds salt:List Int}(hv:0≤v∧v≤255)(hs:Bytes seeds)(hsalt:HOk salt)(hpos:0<(madeL v seeds).length):
 madeS v seeds salt 0=(1,salt,madeG v seeds 0,(startFn (madeParams v)).1,List.replicate 4 0,(startFn (madeParams v)).1,List.replicate 4 0,0,[],[],()):=by
 have hb:=(mkSetup v seeds salt hv hs hsalt hpos).below 0 hpos
 have hb:N4 (List.replicate 4 (0:Int))<N4 (madeG v seeds 0):=hb
 rw[madeS,beginFn,if_neg (by rw[start_fits (made_valid hv)];simp),if_neg (by omega)]
theorem made_rst {v:Int}{seeds salt:List Int}(hv:0≤v∧v≤255)(hs:Bytes seeds)(hsalt:HOk salt)(hpos:0<(madeL v seeds).length):
 RSt (mkSetup v seeds salt hv hs hsalt hpos) 0 (madeS v seeds salt 0) []:=by
 rw[made_state hv hs hsalt hpos]
 have hp:=made_ok hv
 have hb:=(mkSetup v seeds salt hv hs hsalt hpos).below 0 hpos
 refine⟨⟨rfl,rfl,rfl,rfl,.inl ⟨hpos,rfl,rfl,rfl,rfl,rfl,rfl⟩⟩,⟨hsalt,ok4' _,start_good hp,zero4_ok,start_good hp,zero4_ok,fun h hh=>(by cases hh)⟩, ?_⟩
 rw[sound_iff]
 exact⟨start_fits (made_valid hv),start_fits (made_valid hv),⟨by show(1:Int)≤1;omega,by show(1:Int)≤4;omega⟩,⟨by show 0≤_;omega,by show 0≤_;omega⟩,hb,(Int.sub_self _).symm⟩
theorem begin_good {p:Par}{c:Cx}{base goal salt:List Int}(h2:CGood c)(h3:Ok4 base)(h4:Ok4 goal)(h5:HOk salt):SGood (beginFn p c base goal salt).1:=by
 unfold beginFn
 split
 ·exact zps_good
 split
 ·exact zps_good
 ·exact⟨h5,h4,h2,h3,h2,h3,fun h hh=>(by cases hh)⟩
theorem madeS_good {v:Int}{seeds salt:List Int}{more:Int}(hv:0≤v∧v≤255)(hsalt:HOk salt):SGood (madeS v seeds salt more):=begin_good (start_good (made_ok hv)) zero4_ok (ok4' _) hsalt
def gh :List Int:=[61,203,117,189,137,197,20,104,21,221,192,209,215,49,76,183,70,25,253,247,43,253,106,115,55,132,161,91,255,182,29,187]
def gen0 :Hdr:=(1,List.replicate 32 0,List.replicate 32 0,1000,545259519,0,())
def mh3 :Hdr:=(1,gh,rootS 3,1066,545259519,0,())
theorem gen_hash :hashH gen0=gh:=by
 have e1:sum (encH gen0)=[28,135,173,55,143,147,150,49,24,127,13,173,157,52,1,21,121,31,32,137,14,92,255,16,5,126,65,136,242,106,50,185]:=by rw[sum_comp];kernel_rfl
 have e2:sum [28,135,173,55,143,147,150,49,24,127,13,173,157,52,1,21,121,31,32,137,14,92,255,16,5,126,65,136,242,106,50,185]=gh:=by rw[sum_comp];kernel_rfl
 rw[hashH,e1,e2]
theorem hash3 :hashH mh3=[85,209,58,65,237,85,106,206,173,161,82,218,4,132,7,60,207,27,161,92,178,31,117,14,134,149,146,227,201,228,40,184]:=by
 have e1:sum (encH mh3)=[232,137,78,201,40,140,205,34,213,117,201,120,126,107,123,33,179,45,148,71,160,29,189,219,22,115,53,94,240,144,49,238]:=by rw[sum_comp];kernel_rfl
 have e2:sum [232,137,78,201,40,140,205,34,213,117,201,120,126,107,123,33,179,45,148,71,160,29,189,219,22,115,53,94,240,144,49,238]=[85,209,58,65,237,85,106,206,173,161,82,218,4,132,7,60,207,27,161,92,178,31,117,14,134,149,146,227,201,228,40,184]:=by rw[sum_comp];kernel_rfl
 rw[hashH,e1,e2]
def c0 :Cx:=(0,gh,545259519,1000,[1000],())
theorem start0 :startFn (madeParams 0)=(c0,0):=by
 rw[startFn,if_neg (by rw[made_valid (by omega)];simp)]
 have:(madeParams 0).1=gen0:=rfl
 rw[this,gen_hash];rfl
theorem next0 :nextFn (madeParams 0) c0=(545259519,0):=by decide+kernel
theorem room0 :roomFn (madeParams 0) c0=0:=by decide+kernel
theorem mine_3 :mineFn (madeParams 0) c0 (rootS 3) (secFn 3)=mh3:=by
 have e0:mine0 (madeParams 0) c0 (rootS 3) (secFn 3)=mh3:=by
  unfold mine0
  rw[next0];decide+kernel
 rw[mineFn,e0,next0]
 rw[show(20000:Nat)=19999+1 from rfl,mineGo_succ,hash3,if_pos (by decide+kernel)]
theorem check_3 :checkFn (madeParams 0) c0 mh3 1073741824=0:=by
 unfold checkFn
 rw[hash3,room0,next0]
 decide+kernel
theorem headers_3 :madeL 0 [3]=[mh3]:=by
 unfold madeL
 rw[start0,show List.take 100 [(3:Int)]=[3] from rfl,headersGo,mine_3,check_3,if_neg (by decide),headersGo]
def LSane.pre :Prop:=True
def LSane.fn :Bool:=true
def LSane.VC :Prop:=LSane.pre→MParams.pre (0:Int)∧(let v1h:Par:=(((0:Int),((List.replicate 32 (0:Int)),((List.replicate 32 (0:Int)),((0:Int),((0:Int),((0:Int),())))))),((List.replicate 4 (0:Int)),((0:Int),((0:Int),((0:Int),((0:Int),([],((0:Int),((0:Int),((0:Int),()))))))))))
 VStart.pre (MParams.fn (0:Int))∧(let v2h:Cx:=((0:Int),((List.replicate 32 (0:Int)),((0:Int),((0:Int),([],())))))
 MHeaders.pre (MParams.fn (0:Int)) ((VStart.fn (MParams.fn (0:Int))).1) [(3:Int)]∧(let v21h:(List Hdr):=(MHeaders.fn (MParams.fn (0:Int)) ((VStart.fn (MParams.fn (0:Int))).1) [(3:Int)])
 LWork.pre v21h∧PBegin.pre (MParams.fn (0:Int)) ((VStart.fn (MParams.fn (0:Int))).1) (List.replicate 4 (0:Int)) (LWork.fn v21h) (List.replicate 32 (0:Int))∧(let v30:Pst:=(PBegin.fn (MParams.fn (0:Int)) ((VStart.fn (MParams.fn (0:Int))).1) (List.replicate 4 (0:Int)) (LWork.fn v21h) (List.replicate 32 (0:Int))).1
 (let v31:Int:=(PBegin.fn (MParams.fn (0:Int)) ((VStart.fn (MParams.fn (0:Int))).1) (List.replicate 4 (0:Int)) (LWork.fn v21h) (List.replicate 32 (0:Int))).2
 (let v5h:Pst:=((0:Int),((List.replicate 32 (0:Int)),((List.replicate 4 (0:Int)),(((0:Int),((List.replicate 32 (0:Int)),((0:Int),((0:Int),([],()))))),((List.replicate 4 (0:Int)),(((0:Int),((List.replicate 32 (0:Int)),((0:Int),((0:Int),([],()))))),((List.replicate 4 (0:Int)),((0:Int),([],([],()))))))))))
 PFeed.pre (MParams.fn (0:Int)) v30 v21h (1073741824:Int)∧(let v36h:(List Hdr):=(PFeed.fn (MParams.fn (0:Int)) v30 v21h (1073741824:Int)).2.1
 (let v37:Pst:=(PFeed.fn (MParams.fn (0:Int)) v30 v21h (1073741824:Int)).1
 (let v39:Int:=(PFeed.fn (MParams.fn (0:Int)) v30 v21h (1073741824:Int)).2.2
 PFeed.pre (MParams.fn (0:Int)) v37 v21h (1073741824:Int)∧(let v44h:(List Hdr):=(PFeed.fn (MParams.fn (0:Int)) v37 v21h (1073741824:Int)).2.1
 (let v45:Pst:=(PFeed.fn (MParams.fn (0:Int)) v37 v21h (1073741824:Int)).1
 (let v47:Int:=(PFeed.fn (MParams.fn (0:Int)) v37 v21h (1073741824:Int)).2.2
 (let v9h:Pst:=((0:Int),((List.replicate 32 (0:Int)),((List.replicate 4 (0:Int)),(((0:Int),((List.replicate 32 (0:Int)),((0:Int),((0:Int),([],()))))),((List.replicate 4 (0:Int)),(((0:Int),((List.replicate 32 (0:Int)),((0:Int),((0:Int),([],()))))),((List.replicate 4 (0:Int)),((0:Int),([],([],()))))))))))
 ((v31==(0:Int))=true→(v31==(0:Int))=true)∧((v31==(0:Int))=true→(v31==(0:Int))=true)∧((bif (v31==(0:Int)) then(v39==(0:Int)) else false)=true→(bif (v31==(0:Int)) then(v39==(0:Int)) else false)=true)∧((bif (v31==(0:Int)) then(v39==(0:Int)) else false)=true→(bif (v31==(0:Int)) then(v39==(0:Int)) else false)=true)∧(let v57:Bool:=(bif (bif (v31==(0:Int)) then(v39==(0:Int)) else false) then(v47==(0:Int)) else false)
 (v57=true→v57=true)∧(v57=true→v57=true)∧(v57=true→v57=true)∧((bif v57 then(v37.1==(2:Int)) else false)=true→(bif v57 then(v37.1==(2:Int)) else false)=true)∧((bif v57 then(v37.1==(2:Int)) else false)=true→(bif v57 then(v37.1==(2:Int)) else false)=true)∧((bif v57 then(v37.1==(2:Int)) else false)=true→(bif v57 then(v37.1==(2:Int)) else false)=true)∧(let v67:Bool:=(bif (bif v57 then(v37.1==(2:Int)) else false) then((v36h.length:Int)==(0:Int)) else false)
 (v67=true→v67=true)∧(v67=true→v67=true)∧(v67=true→v67=true)∧((bif v67 then(v45.1==(3:Int)) else false)=true→(bif v67 then(v45.1==(3:Int)) else false)=true)∧((bif v67 then(v45.1==(3:Int)) else false)=true→(bif v67 then(v45.1==(3:Int)) else false)=true)∧((bif v67 then(v45.1==(3:Int)) else false)=true→(bif v67 then(v45.1==(3:Int)) else false)=true)∧(let v77:Bool:=(bif (bif v67 then(v45.1==(3:Int)) else false) then((v44h.length:Int)==(1:Int)) else false)
 (Ret1 v77 LSane.fn)))))))))))))))))
theorem feed_pre {p:Par}{s:Pst}{l:List Hdr}(hp:PGood p)(hs:SGood s)(hl:∀h,h∈l→HdrOk h)(hn:l.length≤100000):FeedPre p s l 1073741824:=⟨hp,hs,hl,hn,⟨by decide,by decide⟩⟩
theorem LSane.vc :LSane.VC:=by
 intro _
 have hv:(0:Int)≤0∧(0:Int)≤255:=⟨by omega,by omega⟩
 have hs:Bytes [(3:Int)]:=fun x hx=>by rw[List.mem_singleton.1 hx];omega
 have hp:=made_ok hv
 have hst:=start_good hp
 have hpos:0<(madeL 0 [3]).length:=by rw[headers_3];decide
 have hlen:(madeL 0 [3]).length=1:=by rw[headers_3];rfl
 obtain⟨g1,g2⟩:=madeL_ok hv hs
 have hR:=made_rst hv hs HOk.zero hpos
 have hL:headersGo (madeParams 0) (startFn (madeParams 0)).1 [3]=madeL 0 [3]:=rfl
 have hG:workFrom (List.replicate 4 0) (madeL 0 [3])=madeG 0 [3] 0:=by
  unfold madeG
  rw[show(0:Int).toNat=0 from rfl,Nat.add_zero,(workFrom_ok zero4_ok _).W]
 have hB:beginFn (madeParams 0) (startFn (madeParams 0)).1 (List.replicate 4 0) (madeG 0 [3] 0) (List.replicate 32 0)=(madeS 0 [3] (List.replicate 32 0) 0,0):=by
  have h1:=made_state hv hs HOk.zero hpos
  have hb:=(mkSetup 0 [3] (List.replicate 32 0) hv hs HOk.zero hpos).below 0 hpos
  have hb:N4 (List.replicate 4 (0:Int))<N4 (madeG 0 [3] 0):=hb
  rw[h1,beginFn,if_neg (by rw[start_fits (made_valid hv)];simp),if_neg (by omega)]
 obtain⟨f1,f2⟩:=rs_feed _ hR (r:=madeL 0 [3]) (rest:=madeL 0 [3]) rfl
 have f1:(feedFn (madeParams 0) (madeS 0 [3] (List.replicate 32 0) 0) (madeL 0 [3]) 1073741824).2.2=0:=f1
 have fw:=few_feed (feed_pre (s:=madeS 0 [3] (List.replicate 32 0) 0) (l:=madeL 0 [3]) hp (madeS_good hv HOk.zero) g1 (by omega))
 obtain⟨q1,q2⟩:=rs_feed _ f2 (r:=madeL 0 [3]) (rest:=[]) (by
  show(madeL 0 [3]++madeL 0 [3]).drop (0+(madeL 0 [3]).length)=madeL 0 [3]++[]
  rw[Nat.zero_add,List.drop_left,List.append_nil])
 have q1:(feedFn (madeParams 0) (feedFn (madeParams 0) (madeS 0 [3] (List.replicate 32 0) 0) (madeL 0 [3]) 1073741824).1 (madeL 0 [3]) 1073741824).2.2=0:=q1
 simp only[imp_self,true_and,MParams.fn,VStart.fn,MHeaders.fn,LWork.fn,PBegin.fn,PFeed.fn,ret1,hL,hG,hB,f1,q1,BEq.rfl,cond_true,LSane.fn]
 obtain⟨⟨_,_,_,_,a1⟩,_⟩:=f2
 obtain⟨⟨_,_,_,_,a2⟩,_⟩:=q2
 have e1:(feedFn (madeParams 0) (madeS 0 [3] (List.replicate 32 0) 0) (madeL 0 [3]) 1073741824).1.1=2∧(feedFn (madeParams 0) (madeS 0 [3] (List.replicate 32 0) 0) (madeL 0 [3]) 1073741824).2.1=[]:=by
  rcases a1 with⟨b1,_⟩|⟨k,b0,b1,b2,_,_,_,b3⟩|⟨b1,_⟩
  ·have b1:0+(madeL 0 [3]).length<(madeL 0 [3]).length:=b1
   omega
  ·have b0:0+(madeL 0 [3]).length=(madeL 0 [3]).length+k:=b0
   have hk:k=0:=by omega
   subst hk
   rw[List.take_zero,List.nil_append] at b3
   exact⟨b2,(List.append_eq_nil_iff.1 b3).1⟩
  ·have b1:0+(madeL 0 [3]).length=(madeL 0 [3]).length+(madeL 0 [3]).length:=b1
   omega
 have e2:(feedFn (madeParams 0) (feedFn (madeParams 0) (madeS 0 [3] (List.replicate 32 0) 0) (madeL 0 [3]) 1073741824).1 (madeL 0 [3]) 1073741824).1.1=3∧
  (feedFn (madeParams 0) (feedFn (madeParams 0) (madeS 0 [3] (List.replicate 32 0) 0) (madeL 0 [3]) 1073741824).1 (madeL 0 [3]) 1073741824).2.1.length=1:=by
  rcases a2 with⟨b1,_⟩|⟨k,b0,b1,_⟩|⟨_,b1,_,_,b2⟩
  ·have b1:0+(madeL 0 [3]).length+(madeL 0 [3]).length<(madeL 0 [3]).length:=b1
   omega
  ·have b0:0+(madeL 0 [3]).length+(madeL 0 [3]).length=(madeL 0 [3]).length+k:=b0
   have b1:k<(madeL 0 [3]).length:=b1
   omega
  ·have b2:=congrArg List.length b2
   have b2:([]++(feedFn (madeParams 0) (madeS 0 [3] (List.replicate 32 0) 0) (madeL 0 [3]) 1073741824).2.1++(feedFn (madeParams 0) (feedFn (madeParams 0) (madeS 0 [3] (List.replicate 32 0) 0) (madeL 0 [3]) 1073741824).1 (madeL 0 [3]) 1073741824).2.1).length=(madeL 0 [3]).length:=b2
   rw[e1.2,List.nil_append,List.nil_append,hlen] at b2
   exact⟨b1,b2⟩
 have hf1:FeedPre (madeParams 0) (madeS 0 [3] (List.replicate 32 0) 0) (madeL 0 [3]) 1073741824:=feed_pre hp (madeS_good hv HOk.zero) g1 (by omega)
 have hf2:FeedPre (madeParams 0) (feedFn (madeParams 0) (madeS 0 [3] (List.replicate 32 0) 0) (madeL 0 [3]) 1073741824).1 (madeL 0 [3]) 1073741824:=feed_pre hp fw.1.1 g1 (by omega)
 refine⟨hv,hp,⟨hp,hst,hs,by simp⟩,⟨g1,by omega⟩,⟨hp,hst,zero4_ok,ok4' _⟩,hf1,hf2, ?_⟩
 rw[e1.1,e1.2,e2.1,e2.2];rfl
attribute [irreducible] LSane.fn
theorem lsane :LSane.fn=true:=by unfold LSane.fn;rfl
end Lc
