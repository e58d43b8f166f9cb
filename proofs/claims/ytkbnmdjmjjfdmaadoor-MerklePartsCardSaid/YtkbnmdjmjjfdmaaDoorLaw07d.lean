/- Chapter 07: parts of trees are written and read back: the law of coverage. -/
import Derived.Test.YtkbnmdjmjjfdmaaDoorLaw07c
set_option linter.unusedVariables false
set_option linter.unusedSimpArgs false
namespace Lc
open Go
set_option maxRecDepth 10000
def SIndex.pre (s:List Bool)(v:Bool):Prop:=s.length≤1000000000
def SIndex.fn (s:List Bool)(v:Bool):Int:=if v∈s then(s.idxOf v:Int) else-1
def SIndex.inv2 (s:List Bool)(v:Bool)(i:Int):Prop:=0≤i∧i≤s.length∧v∉s.take i.toNat
def SIndex.mes2 (s:List Bool)(v:Bool)(i:Int):Nat:=(s.length-i).toNat
def SIndex.VC :Prop:=∀(x0:(List Bool)) (x1:Bool),SIndex.pre x0 x1→(SIndex.inv2 x0 x1 (0:Int)∧∀(v8:Int),SIndex.inv2 x0 x1 v8→(((decide (v8<(x0.length:Int)))=true→(0≤v8∧v8<(x0.length:Int))∧(((Ty.beq (.bool) x1 (x0.getD (Int.toNat v8) false))=true→(Ret1 v8 (SIndex.fn x0 x1)))∧((Ty.beq (.bool) x1 (x0.getD (Int.toNat v8) false))=false→(SIndex.inv2 x0 x1 (IntKind.i64.wrap (v8+(1:Int)))∧SIndex.mes2 x0 x1 (IntKind.i64.wrap (v8+(1:Int)))<SIndex.mes2 x0 x1 v8))))∧((decide (v8<(x0.length:Int)))=false→(Ret1 (-1:Int) (SIndex.fn x0 x1)))))
theorem idxOf_at {s:List Bool}{v:Bool}{k:Nat}(hk:k<s.length)(h1:v∉s.take k)(h2:s.getD k false=v):v∈s∧s.idxOf v=k:=by
 have hg:s[k]=v:=by simpa[List.getD_eq_getElem?_getD,hk] using h2
 have e:s=s.take k++s[k]::s.drop (k+1):=by rw[←List.drop_eq_getElem_cons hk,List.take_append_drop]
 refine⟨by rw[←hg];exact List.getElem_mem hk, ?_⟩
 rw[e,List.idxOf_append,if_neg h1,hg,List.idxOf_cons_self,List.length_take]
 omega
theorem SIndex.vc :SIndex.VC:=by
 intro s v hp
 have hp:s.length≤1000000000:=hp
 refine⟨⟨by omega,by omega,by simp⟩, ?_⟩
 rintro i ⟨k1,k2,k3⟩
 refine⟨fun hc=> ?_,fun hc=> ?_⟩
 ·have hc:i<s.length:=of_decide_eq_true hc
  refine⟨⟨k1,hc⟩,fun he=>ret1.2 ?_,fun he=> ?_⟩
  ·have he:=(beq_iff .bool _ _).1 he
   obtain⟨h1,h2⟩:=idxOf_at (by omega) k3 he.symm
   simp only[SIndex.fn]
   rw[if_pos h1,h2];omega
  ·have he:¬v=s.getD i.toNat false:=fun h=>by rw[(beq_iff .bool _ _).2 h] at he;cases he
   rw[i64w (by omega) (by omega)]
   refine⟨⟨by omega,by omega, ?_⟩,by simp only[SIndex.mes2];omega⟩
   rw[show(i+1).toNat=i.toNat+1 by omega,List.take_succ_eq_append_getElem (by omega)]
   intro hm
   rcases List.mem_append.1 hm with hm|hm
   ·exact k3 hm
   ·rw[List.mem_singleton] at hm
    exact he (by rw[hm];simp[List.getD_eq_getElem?_getD,show i.toNat<s.length by omega])
 ·have hc:¬i<s.length:=of_decide_eq_false hc
  rw[List.take_of_length_le (by omega)] at k3
  refine ret1.2 ?_
  simp only[SIndex.fn]
  rw[if_neg k3]
def SContains.pre (s:List Bool)(v:Bool):Prop:=s.length≤1000000000
def SContains.fn (s:List Bool)(v:Bool):Bool:=decide (v∈s)
def SContains.VC :Prop:=∀(x0:(List Bool)) (x1:Bool),SContains.pre x0 x1→SIndex.pre x0 x1∧(Ret1 (decide ((SIndex.fn x0 x1)≥(0:Int))) (SContains.fn x0 x1))
theorem SContains.vc :SContains.VC:=by
 intro s v hp
 refine⟨hp,ret1.2 ?_⟩
 have e:SIndex.fn s v=if v∈s then(s.idxOf v:Int) else-1:=rfl
 generalize SIndex.fn s v=y at*
 subst e
 simp only[SContains.fn]
 by_cases h:v∈s
 ·simp[h]
 ·simp[h]
noncomputable def lev :Nat→List H32→List H32
 |0,l=>l
 |k+1,l=>mlevel (lev k l)
theorem lev_in :∀(k:Nat) (l:List H32),lev (k+1) l=lev k (mlevel l)
 |0,_=>rfl
 |k+1,l=>by rw[lev,lev_in k l,lev]
theorem levels_lev :∀(n:Nat) (l:List H32),l.length≤n→∀k,k<(levels l).length→(levels l).getD k []=lev k l:=by
 intro n
 induction n with
 |zero=>
  intro l h k hk
  rw[levels_small (by omega)] at hk⊢
  simp at hk;subst hk;rfl
 |succ n ih=>
  intro l h k hk
  by_cases h1:l.length≤1
  ·rw[levels_small h1] at hk⊢
   simp at hk;subst hk;rfl
  ·rw[levels_big h1] at hk⊢
   cases k with
   |zero=>rfl
   |succ k=>
    rw[List.getD_cons_succ,lev_in]
    exact ih _ (by rw[mlevel_len];omega) k (by simpa using hk)
theorem lev_wid (l:List H32):∀k,((lev k l).length:Int)=wid l.length k
 |0=>rfl
 |k+1=>by rw[lev,mlevel_len,wid,←lev_wid l k];omega
theorem levels_lvl :∀(n:Nat) (l:List H32),l.length≤n→(levels l).length=lvl l.length+1:=by
 intro n
 induction n with
 |zero=>intro l h;rw[levels_small (by omega),lvl_small (by omega)];rfl
 |succ n ih=>
  intro l h
  by_cases h1:l.length≤1
  ·rw[levels_small h1,lvl_small (by omega)];rfl
  ·rw[levels_big h1,lvl_big (by omega),List.length_cons,ih _ (by rw[mlevel_len];omega),mlevel_len]
   congr 2
theorem lev_lo (l:List H32):∀k i,i<(lev k l).length→i*2^k<l.length
 |0,i,h=>by simpa[lev] using h
 |k+1,i,h=>by
  rw[lev,mlevel_len] at h
  have:=lev_lo l k (2*i) (by omega)
  rw[Nat.pow_succ,Nat.mul_comm (2^k) 2,←Nat.mul_assoc,Nat.mul_comm i 2]
  exact this
def cutB {α:Type}(w:List α)(k i:Nat):List α:=(w.drop (i*2^k)).take (2^k)
def flg (w:List Bool)(k i:Nat):Bool:=decide (true∈cutB w k i)
noncomputable def fo (w:List Bool)(l:List H32):Nat→Nat→List Bool
 |0,i=>[flg w 0 i]
 |k+1,i=>if flg w (k+1) i then true::(fo w l k (2*i)++if 2*i+1<(lev k l).length then fo w l k (2*i+1) else[]) else[false]
noncomputable def ho (w:List Bool)(l:List H32):Nat→Nat→List H32
 |0,i=>[(lev 0 l).getD i zeroH]
 |k+1,i=>if flg w (k+1) i then ho w l k (2*i)++(if 2*i+1<(lev k l).length then ho w l k (2*i+1) else[]) else[(lev (k+1) l).getD i zeroH]
theorem fo_len (w:List Bool)(l:List H32):∀k i,(fo w l k i).length+1≤2^(k+1)
 |0,i=>by simp[fo]
 |k+1,i=>by
  have h1:=fo_len w l k (2*i)
  have h2:=fo_len w l k (2*i+1)
  have h3:(2:Nat)^(k+1+1)=2^(k+1)+2^(k+1):=by rw[Nat.pow_succ];omega
  rw[fo,h3]
  split
  ·rw[List.length_cons,List.length_append]
   split
   ·omega
   ·simp only[List.length_nil];omega
  ·simp only[List.length_singleton];omega
theorem ho_len (w:List Bool)(l:List H32):∀k i,(ho w l k i).length≤2^k
 |0,i=>by simp[ho]
 |k+1,i=>by
  have h1:=ho_len w l k (2*i)
  have h2:=ho_len w l k (2*i+1)
  have h3:(2:Nat)^(k+1)=2^k+2^k:=by rw[Nat.pow_succ];omega
  have h4:=Nat.two_pow_pos k
  rw[ho,h3]
  split
  ·rw[List.length_append]
   split
   ·omega
   ·simp only[List.length_nil];omega
  ·simp only[List.length_singleton];omega
abbrev Wrt :Type:=Prt×(List (List H32)×(List Bool×Unit))
def WrOk (x:Wrt)(k i:Int):Prop:=∃l:List H32,x.2.1=levels l∧x.1.1=l.length∧x.2.2.1.length=l.length∧l.length≤1024∧0≤k∧k<(levels l).length∧k≤10∧0≤i∧i<(lev k.toNat l).length∧
 x.1.2.1.length+2^(k.toNat+1)≤10000∧x.1.2.2.1.length+2^(k.toNat+1)≤10000
def WrVisit.pre (n:Nat)(x:Wrt)(k i:Int):Prop:=WrOk x k i∧k.toNat<n
noncomputable def wrt (x:Wrt)(k i:Nat):Wrt:=((x.1.1,(x.1.2.1++fo x.2.2.1 (x.2.1.getD 0 []) k i,(x.1.2.2.1++ho x.2.2.1 (x.2.1.getD 0 []) k i,()))),x.2)
noncomputable def WrVisit.fn (x:Wrt)(k i:Int):Wrt:=wrt x k.toNat i.toNat
def WrVisit.can (x:Wrt)(k i:Int):Prop:=∃n,WrVisit.pre n x k i
theorem WrVisit.none {x:Wrt}{k i:Int}:¬WrVisit.pre 0 x k i:=fun h=>by have:=h.2;omega
def WrVisit.VC (n:Nat):Prop:=∀(x0:((Int×((List Bool)×((List (List Int))×Unit)))×((List (List (List Int)))×((List Bool)×Unit)))) (x1:Int) (x2:Int),WrVisit.pre (n+1) x0 x1 x2→0≤x1∧0≤x1∧(let v21:Int:=(if x0.1.1<(ishl .i64 (IntKind.i64.wrap (x2+(1:Int))) x1) then x0.1.1 else(ishl .i64 (IntKind.i64.wrap (x2+(1:Int))) x1))
 (0≤(ishl .i64 x2 x1)∧(ishl .i64 x2 x1)≤v21∧v21≤(x0.2.2.1.length:Int))∧(let v28:(List Bool):=((x0.2.2.1.drop (Int.toNat (ishl .i64 x2 x1))).take ((Int.toNat v21)-(Int.toNat (ishl .i64 x2 x1))))
 SContains.pre v28 true∧Room (x0.1.2.1.length+[(SContains.fn v28 true)].length) 1∧(let v0h:((Int×((List Bool)×((List (List Int))×Unit)))×((List (List (List Int)))×((List Bool)×Unit))):=((x0.1.1,((x0.1.2.1++[(SContains.fn v28 true)]),x0.1.2.2)),x0.2)
 ((!(SContains.fn v28 true))=false→(!(SContains.fn v28 true))=false)∧((!(SContains.fn v28 true))=false→(!(SContains.fn v28 true))=false)∧(let v47:Bool:=(bif (!(SContains.fn v28 true)) then true else(x1==(0:Int)))
 ((v47=true→(0≤x1∧x1<(v0h.2.1.length:Int))∧(0≤x2∧x2<((v0h.2.1.getD (Int.toNat x1) []).length:Int))∧(let v63:(List Int):=((v0h.2.1.getD (Int.toNat x1) []).getD (Int.toNat x2) (List.replicate 32 (0:Int)))
 Room (x0.1.2.2.1.length+[v63].length) 32∧(let v0_1h:((Int×((List Bool)×((List (List Int))×Unit)))×((List (List (List Int)))×((List Bool)×Unit))):=((v0h.1.1,(v0h.1.2.1,((x0.1.2.2.1++[v63]),v0h.1.2.2.2))),v0h.2)
 (Ret1 v0_1h (WrVisit.fn x0 x1 x2)))))∧(v47=false→WrVisit.pre n v0h (IntKind.i64.wrap (x1-(1:Int))) (IntKind.i64.wrap ((2:Int)*x2))∧(let v0_2h:((Int×((List Bool)×((List (List Int))×Unit)))×((List (List (List Int)))×((List Bool)×Unit))):=(WrVisit.fn v0h (IntKind.i64.wrap (x1-(1:Int))) (IntKind.i64.wrap ((2:Int)*x2)))
 (let v1015074h:(List Bool):=(WrVisit.fn v0h (IntKind.i64.wrap (x1-(1:Int))) (IntKind.i64.wrap ((2:Int)*x2))).1.2.1
 (let v2015074h:(List (List Int)):=(WrVisit.fn v0h (IntKind.i64.wrap (x1-(1:Int))) (IntKind.i64.wrap ((2:Int)*x2))).1.2.2.1
 (let v77:Int:=(IntKind.i64.wrap ((IntKind.i64.wrap ((2:Int)*x2))+(1:Int)))
 (0≤(IntKind.i64.wrap (x1-(1:Int)))∧(IntKind.i64.wrap (x1-(1:Int)))<(v0_2h.2.1.length:Int))∧(let v85:(List (List Int)):=(v0_2h.2.1.getD (Int.toNat (IntKind.i64.wrap (x1-(1:Int)))) [])
 (((decide (v77<(v85.length:Int)))=true→(let v93:Int:=(IntKind.i64.wrap ((IntKind.i64.wrap ((2:Int)*x2))+(1:Int)))
 WrVisit.pre n v0_2h (IntKind.i64.wrap (x1-(1:Int))) v93∧(let v1015094h:(List Bool):=(WrVisit.fn v0_2h (IntKind.i64.wrap (x1-(1:Int))) v93).1.2.1
 (let v2015094h:(List (List Int)):=(WrVisit.fn v0_2h (IntKind.i64.wrap (x1-(1:Int))) v93).1.2.2.1
 (Ret1 (WrVisit.fn v0_2h (IntKind.i64.wrap (x1-(1:Int))) v93) (WrVisit.fn x0 x1 x2))))))∧((decide (v77<(v85.length:Int)))=false→(Ret1 v0_2h (WrVisit.fn x0 x1 x2)))))))))))))))
theorem levels_head (l:List H32):(levels l).getD 0 []=l:=by
 by_cases h:l.length≤1
 ·rw[levels_small h];rfl
 ·rw[levels_big h];rfl
theorem shl64 {a k:Int}(ha:0≤a)(hk:0≤k)(h2:k≤10)(h:a≤100000):ishl .i64 a k=((a.toNat*2^k.toNat:Nat):Int):=by
 have hp:=Nat.pow_le_pow_right (n:=2) (by decide) (show k.toNat≤10 by omega)
 have hm:a.toNat*2^k.toNat≤100000*1024:=Nat.mul_le_mul (by omega) hp
 have e:ishl .i64 a k=IntKind.i64.wrap (a*2^(min k.toNat 64)):=rfl
 have e2:a*2^k.toNat=((a.toNat*2^k.toNat:Nat):Int):=by
  rw[Int.natCast_mul]
  congr 1
  omega
 rw[e,Nat.min_eq_left (by omega),e2,i64w (by omega) (by omega)]
theorem take_min {α:Type}(w:List α)(a b:Nat):(w.drop a).take (min b w.length-a)=(w.drop a).take (b-a):=by
 by_cases h:b≤w.length
 ·rw[Nat.min_eq_left h]
 ·rw[Nat.min_eq_right (by omega),List.take_of_length_le (by simp),List.take_of_length_le (by simp;omega)]
theorem WrVisit.vc :∀n,WrVisit.VC n:=by
 intro n x0 x1 x2
 obtain⟨⟨c,fl,hs,⟨⟩⟩,all,w,⟨⟩⟩:=x0
 rintro⟨⟨l,h1,h2,h3,h4,k0,k1,k2,i0,i1,r1,r2⟩,hn⟩
 simp only at h1 h2 h3 r1 r2
 subst h1
 subst h2
 have hlen:(lev x1.toNat l).length≤1024:=by
  have:=(wid_rng (c:=l.length) (by
   have:=lev_lo l x1.toNat 0 (by omega)
   omega) (by omega) x1.toNat).2
  rw[←lev_wid] at this;omega
 have hlo:=lev_lo l x1.toNat x2.toNat (by omega)
 rw[i64w (n:=x2+1) (by omega) (by omega),shl64 i0 k0 k2 (by omega),shl64 (a:=x2+1) (by omega) k0 k2 (by omega),i64w (n:=x1-1) (by omega) (by omega),i64w (n:=2*x2) (by omega) (by omega),i64w (n:=2*x2+1) (by omega) (by omega)]
 have hm:(if(l.length:Int)<(((x2+1).toNat*2^x1.toNat:Nat):Int) then(l.length:Int) else(((x2+1).toNat*2^x1.toNat:Nat):Int))=((min ((x2+1).toNat*2^x1.toNat) w.length:Nat):Int):=by
  split<;>omega
 rw[hm]
 have e1:(x2+1).toNat=x2.toNat+1:=by omega
 have e2:(x2.toNat+1)*2^x1.toNat=x2.toNat*2^x1.toNat+2^x1.toNat:=by rw[Nat.add_mul,Nat.one_mul]
 have hcut:(w.drop (Int.toNat ((x2.toNat*2^x1.toNat:Nat):Int))).take (Int.toNat ((min ((x2+1).toNat*2^x1.toNat) w.length:Nat):Int)-Int.toNat ((x2.toNat*2^x1.toNat:Nat):Int))=cutB w x1.toNat x2.toNat:=by
  rw[Int.toNat_natCast,Int.toNat_natCast,take_min,e1,e2,Nat.add_sub_cancel_left];rfl
 simp only[hcut]
 have hf:SContains.fn (cutB w x1.toNat x2.toNat) true=flg w x1.toNat x2.toNat:=rfl
 have hcl:(cutB w x1.toNat x2.toNat).length≤1000000000:=by simp only[cutB,List.length_take,List.length_drop];omega
 have hpos:=Nat.two_pow_pos x1.toNat
 have hps:2^(x1.toNat+1)=2^x1.toNat+2^x1.toNat:=by rw[Nat.pow_succ];omega
 have hfn:WrVisit.fn ((↑l.length,(fl,(hs,()))),(levels l,(w,()))) x1 x2=((↑l.length,(fl++fo w l x1.toNat x2.toNat,(hs++ho w l x1.toNat x2.toNat,()))),(levels l,(w,()))):=by
  simp only[WrVisit.fn,wrt,levels_head]
 have hlev:=levels_lev _ l (Nat.le_refl _) x1.toNat (by omega)
 have hz:(lev x1.toNat l).getD x2.toNat (List.replicate 32 0)=(lev x1.toNat l).getD x2.toNat zeroH:=rfl
 simp only[hf,hfn]
 generalize hg:flg w x1.toNat x2.toNat=f
 simp only[imp_self,true_and,and_true,Bool.cond_true_left,Bool.cond_false_right,Bool.or_eq_true,Bool.or_eq_false_iff,Bool.and_eq_true,Bool.and_eq_false_iff,decide_eq_true_eq,decide_eq_false_iff_not,Bool.not_eq_true',Bool.not_eq_false',beq_iff_eq,bne_iff_ne,ne_eq,beq_eq_false_iff_ne,bne_eq_false_iff_eq,Int.not_lt,Int.not_le,gt_iff_lt,ge_iff_le,Decidable.not_not,Bool.not_eq_true,Bool.not_eq_false]
 refine⟨k0,k0,⟨by omega,by rw[e1,e2];omega,by omega⟩,hcl,room_of (by simp;omega) (by omega), ?_, ?_⟩
 ·intro hx
  simp only[hlev]
  refine⟨by omega,by omega,room_of (by simp;omega) (by omega),ret1.2 ?_⟩
  rw[hz]
  cases hk:x1.toNat with
  |zero=>rw[hk] at hg;simp only[fo,ho,hg]
  |succ k=>
   rw[hk] at hg
   have:f=false:=by
    rcases hx with hx|hx
    ·exact hx
    ·omega
   subst this
   simp only[fo,ho,hg,Bool.false_eq_true,if_false]
 ·rintro⟨rfl,hx⟩
  obtain⟨k,hk⟩:∃k,x1.toNat=k+1:=⟨x1.toNat-1,by omega⟩
  have hk1:(x1-1).toNat=k:=by omega
  have hlk:=levels_lev _ l (Nat.le_refl _) k (by omega)
  have hll:(lev (k+1) l).length=((lev k l).length+1)/2:=mlevel_len _
  rw[hk] at i1 r1 r2 hps hg hlo
  have hpp:2^(k+1)=2^k+2^k:=by rw[Nat.pow_succ];omega
  have hp1:=Nat.two_pow_pos k
  have hok1:WrVisit.pre n ((↑l.length,(fl++[true],(hs,()))),(levels l,(w,()))) (x1-1) (2*x2):=by
   refine⟨⟨l,rfl,rfl,h3,h4,by omega,by omega,by omega,by omega,by rw[hk1];omega, ?_, ?_⟩,by omega⟩
   ·simp only[List.length_append,List.length_singleton,hk1];omega
   ·simp only[hk1];omega
  refine⟨hok1, ?_⟩
  have hv1:WrVisit.fn ((↑l.length,(fl++[true],(hs,()))),(levels l,(w,()))) (x1-1) (2*x2)=((↑l.length,(fl++[true]++fo w l k (2*x2.toNat),(hs++ho w l k (2*x2.toNat),()))),(levels l,(w,()))):=by
   simp only[WrVisit.fn,wrt,levels_head,hk1,show(2*x2).toNat=2*x2.toNat by omega]
  simp only[hv1,hk1,hlk]
  have hfl:=fo_len w l k (2*x2.toNat)
  have hhl:=ho_len w l k (2*x2.toNat)
  refine⟨⟨by omega,by omega⟩,fun hlt=>⟨⟨⟨l,rfl,rfl,h3,h4,by omega,by omega,by omega,by omega,by rw[hk1];omega, ?_, ?_⟩,by omega⟩,ret1.2 ?_⟩,fun hge=>ret1.2 ?_⟩
  ·simp only[List.length_append,List.length_singleton,hk1];omega
  ·simp only[List.length_append,hk1];omega
  ·have hv2:∀(a:List Bool) (b:List H32),WrVisit.fn ((↑l.length,(a,(b,()))),(levels l,(w,()))) (x1-1) (2*x2+1)=((↑l.length,(a++fo w l k (2*x2.toNat+1),(b++ho w l k (2*x2.toNat+1),()))),(levels l,(w,()))):=by
    intro a b
    simp only[WrVisit.fn,wrt,levels_head,hk1,show(2*x2+1).toNat=2*x2.toNat+1 by omega]
   rw[hv2,hk]
   simp only[fo,ho,hg,if_true]
   rw[if_pos (by omega),if_pos (by omega)]
   simp only[List.append_assoc,List.cons_append,List.nil_append]
  ·rw[hk]
   simp only[fo,ho,hg,if_true]
   rw[if_neg (by omega),if_neg (by omega)]
   simp only[List.append_assoc,List.cons_append,List.nil_append,List.append_nil]
noncomputable def partOf (l:List H32)(w:List Bool):Prt×Int:=
 if 1024<l.length then((0,([],([],()))),4) else if l.length=0 then((0,([],([],()))),93) else if w.length≠l.length then((0,([],([],()))),8) else
 ((l.length,(fo w l (lvl l.length) 0,(ho w l (lvl l.length) 0,()))),0)
def MPart.pre (l:List H32)(w:List Bool):Prop:=HashesOk l
noncomputable def MPart.fn (l:List H32)(w:List Bool):Prt×Int:=partOf l w
def MPart.VC :Prop:=∀(x0:(List (List Int))) (x1:(List Bool)),MPart.pre x0 x1→(((decide ((x0.length:Int)>(1024:Int)))=true→(Ret2 ((0:Int),([],([],()))) (4:Int) (MPart.fn x0 x1)))∧((decide ((x0.length:Int)>(1024:Int)))=false→((((x0.length:Int)==(0:Int))=true→(Ret2 ((0:Int),([],([],()))) (93:Int) (MPart.fn x0 x1)))∧(((x0.length:Int)==(0:Int))=false→((((x1.length:Int) !=(x0.length:Int))=true→(Ret2 ((0:Int),([],([],()))) (8:Int) (MPart.fn x0 x1)))∧(((x1.length:Int) !=(x0.length:Int))=false→MLevels.pre x0∧(let v30:((Int×((List Bool)×((List (List Int))×Unit)))×((List (List (List Int)))×((List Bool)×Unit))):=(((x0.length:Int),([],([],()))),((MLevels.fn x0),(x1,())))
 WrVisit.can v30 (IntKind.i64.wrap ((v30.2.1.length:Int)-(1:Int))) (0:Int)∧(let v6h:((Int×((List Bool)×((List (List Int))×Unit)))×((List (List (List Int)))×((List Bool)×Unit))):=(WrVisit.fn v30 (IntKind.i64.wrap ((v30.2.1.length:Int)-(1:Int))) (0:Int))
 (let v1015035h:(List Bool):=(WrVisit.fn v30 (IntKind.i64.wrap ((v30.2.1.length:Int)-(1:Int))) (0:Int)).1.2.1
 (let v2015035h:(List (List Int)):=(WrVisit.fn v30 (IntKind.i64.wrap ((v30.2.1.length:Int)-(1:Int))) (0:Int)).1.2.2.1
 (Ret2 v6h.1 (0:Int) (MPart.fn x0 x1))))))))))))
theorem lev_top {l:List H32}(h:1≤l.length):(lev (lvl l.length) l).length=1:=by
 have:∀(n:Nat) (l:List H32),l.length≤n→1≤l.length→(lev (lvl l.length) l).length=1:=by
  intro n
  induction n with
  |zero=>intro l h1 h2;omega
  |succ n ih=>
   intro l h1 h2
   by_cases h3:l.length≤1
   ·rw[lvl_small (by omega)];simp only[lev];omega
   ·rw[lvl_big (by omega),lev_in]
    have:=ih (mlevel l) (by rw[mlevel_len];omega) (by rw[mlevel_len];omega)
    rw[mlevel_len] at this
    rw[show((l.length:Int)+1)/2=(((l.length+1)/2:Nat):Int) by omega]
    exact this
 exact this _ l (Nat.le_refl _) h
theorem MPart.vc :MPart.VC:=by
 intro l w hp
 simp only[imp_self,true_and,and_true,Bool.cond_true_left,Bool.cond_false_right,Bool.or_eq_true,Bool.or_eq_false_iff,Bool.and_eq_true,Bool.and_eq_false_iff,decide_eq_true_eq,decide_eq_false_iff_not,Bool.not_eq_true',Bool.not_eq_false',beq_iff_eq,bne_iff_ne,ne_eq,beq_eq_false_iff_ne,bne_eq_false_iff_eq,Int.not_lt,Int.not_le,gt_iff_lt,ge_iff_le,Decidable.not_not,Bool.not_eq_true,Bool.not_eq_false]
 refine⟨fun h=>ret2.2 ?_,fun h=>⟨fun h2=>ret2.2 ?_,fun h2=>⟨fun h3=>ret2.2 ?_,fun h3=> ?_⟩⟩⟩
 ·simp only[MPart.fn,partOf];rw[if_pos (by omega)]
 ·simp only[MPart.fn,partOf];rw[if_neg (by omega),if_pos (by omega)]
 ·simp only[MPart.fn,partOf];rw[if_neg (by omega),if_neg (by omega),if_pos (by omega)]
 ·have hll:=levels_lvl _ l (Nat.le_refl _)
  have hl10:=lvl_le 10 (l.length:Int) (by simpa using h)
  have e:((MLevels.fn l).length:Int)-1=lvl l.length:=by simp only[MLevels.fn,hll];omega
  simp only[e]
  rw[i64w (by omega) (by omega)]
  have ht:=lev_top (l:=l) (by omega)
  have hp10:=Nat.pow_le_pow_right (n:=2) (by decide) (show lvl (l.length:Int)+1≤11 by omega)
  refine⟨⟨hp,by omega⟩,⟨lvl l.length+1,⟨l,rfl,rfl,by show w.length=l.length;omega,by omega,by omega,by omega,by omega,by omega,by rw[Int.toNat_natCast];omega, ?_, ?_⟩,by simp⟩,ret2.2 ?_⟩
  ·simp only[List.length_nil,Int.toNat_natCast];omega
  ·simp only[List.length_nil,Int.toNat_natCast];omega
  ·simp only[MPart.fn,partOf]
   rw[if_neg (by omega),if_neg (by omega),if_neg (by omega)]
   simp only[WrVisit.fn,wrt,MLevels.fn,levels_head,Int.toNat_natCast,List.nil_append,Int.toNat_zero]
def pk :Nat→List Bool→List H32→List Leaf
 |a,true::w,h::l=>((a:Int),(h,()))::pk (a+1) w l
 |a,false::w,_::l=>pk (a+1) w l
 |_,_,_=>[]
def MerkleCovers.pre (l:List H32)(x:List Bool):Prop:=HashesOk l
def MerkleCovers.fn (l:List H32)(x:List Bool):Bool:=true
end Lc
