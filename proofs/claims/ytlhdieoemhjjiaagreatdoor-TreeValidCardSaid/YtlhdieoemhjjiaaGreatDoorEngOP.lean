/- The engine, part O, fourth text: calls of methods with a pointer to a struct. -/
import Derived.Test.YtlhdieoemhjjiaaGreatDoorEngOo
import Derived.Test.YtlhdieoemhjjiaaGreatDoorEngOc
set_option linter.unusedVariables false
set_option linter.unusedSimpArgs false
namespace Lc
open Go Go.RowKit
theorem readL_hp {t:Ty}{lk:List (List Stp×Nat)}{tm:List (Nat×AV)}{hp:List (Nat×Option Blk)}:∀(ps:List (List Stp×Ty×Nat)),readL ⟨tm,hp⟩ t lk ps=readL ⟨[],hp⟩ t lk ps:=by
 intro ps
 induction ps with
 |nil=>rfl
 |cons q ps ih=>
  obtain⟨p,u,m⟩:=q
  simp only[readL]
  rw[ih]
theorem readL_live {t:Ty}{lk:List (List Stp×Nat)}{hp:List (Nat×Option Blk)}:∀(ps:List (List Stp×Ty×Nat)) (l:List (Nat×Nat)),readL ⟨[],hp⟩ t lk ps=some l→∀q,q∈l→∃blk,look q.2 hp=some (some blk):=by
 intro ps
 induction ps with
 |nil=>intro l e q hq;cases e;cases hq
 |cons z ps ih=>
  obtain⟨p,u,m⟩:=z
  intro l e q hq
  simp only[readL] at e
  split at e
  ·split at e
   ·rename_i kk l' e1 e2
    split at e
    ·rename_i u' _ _ e3
     split at e
     ·cases e
      rcases List.mem_cons.1 hq with rfl|hq
      ·exact⟨_,e3⟩
      ·exact ih _ e2 q hq
     ·cases e
    ·cases e
   ·cases e
  ·cases e
theorem lenT_narr {t:Ty}(h:isArrT t=false)(x:t.den):lenT t x=0:=by
 cases t<;>first|rfl|(simp[isArrT] at h)
theorem mkRets_plain {F:FH}{H:Array Obj}{B:Nat}(fz:Nat→Bool)(d:Nat):∀(rs:List RK) (i:Nat) (x:RTup rs) (vs:List Value),rs.all RK.plain=true→RepRets F H B rs x vs []→∀ρ L,RepA F ρ L (mkRets fz d i rs x).1 vs:=by
 intro rs
 induction rs with
 |nil=>rintro i x vs _ ⟨rfl,_⟩ ρ L;rfl
 |cons r rs ih=>
  intro i x vs hp h ρ L
  simp only[List.all_cons,Bool.and_eq_true] at hp
  cases r with
  |deep t=>
   obtain⟨v,q,rfl,h1,h2⟩:=h
   exact⟨v,q,rfl,⟨v,rfl,h1⟩,ih (i+1) x.2 q hp.2 h2 ρ L⟩
  |own t=>simp[RK.plain] at hp
  |ownw t=>simp[RK.plain] at hp
  |vlk t ps=>simp[RK.plain] at hp
theorem repB_cap {F:FH}{H:Array Obj}{B0:Nat→Prop}{b:Nat}{cap cap':Cap}{t:Ty}{x:t.den}{fz:Bool}{lk lk':List (List Stp×Nat)}(h:RepB F H B0 (some (b,cap')) ⟨false,t,x,fz,lk⟩)(hc:cap.2=0)(hc':cap'.2=0)(hz:fz=false:=by rfl):RepB F H B0 (some (b,cap)) ⟨false,t,x,fz,lk'⟩:=by
 rcases h with h|⟨b1,c1,c,e,fr,hd,cs,rest,h1,h2,h3,h4,h5,h6,h7⟩|⟨K,V,xs,h⟩
 ·cases h
 ·cases h1
  have o1:(⟨false,t,x,fz,lk⟩:Blk).isOpen=false:=isOpen_fz hz
  have o2:(⟨false,t,x,fz,lk'⟩:Blk).isOpen=false:=isOpen_fz hz
  rw[holes_shut o1] at h6
  rw[still_shut o1] at h7
  refine .inr (.inl ⟨b,cap,c,e,fr,hd,cs,rest,rfl,h2,h3,h4,⟨by rw[hc,←hc'];exact h5.1,fun _=>hc,h5.2.2⟩, ?_,fun i=>by rw[hc,←hc'];rw[still_shut o2];exact h7 i⟩)
  rw[holes_shut o2]
  cases t<;>simp only[RepC,Bool.false_eq_true,if_false] at h6⊢<;>first|exact⟨h6.1,h6.2.1,h6.2.2.1,hc⟩|exact⟨h6.1,h6.2.1,hc⟩
 ·have:=h.row;cases this
theorem repB_sub {F:FH}{H:Array Obj}{B0 B1:Nat→Prop}{r:Option (Nat×Cap)}{blk:Blk}(hB:∀b,B0 b→B1 b)(h:RepB F H B0 r blk):RepB F H B1 r blk:=by
 rcases h with h|⟨b1,c1,c,e,fr,hd,cs,rest,h1,h2,h3⟩|⟨K,V,xs,h1,h2,h3,b,es,clock,h4,h5,h6⟩
 ·exact .inl h
 ·exact .inr (.inl ⟨b1,c1,c,e,fr,hd,cs,rest,h1,hB _ h2,h3⟩)
 ·exact .inr (.inr ⟨K,V,xs,h1,h2,h3,b,es,clock,h4,hB _ h5,h6⟩)
theorem repB_at {F:FH}{H:Array Obj}{B0:Nat→Prop}{b:Nat}{cap:Cap}{blk:Blk}(h:RepB F H B0 (some (b,cap)) blk):B0 b∧b<H.size:=by
 rcases h with h|⟨b1,c1,c,e,fr,hd,cs,rest,h1,h2,h3,_⟩|⟨K,V,xs,_,_,_,b,es,clock,h4,h5,h6,_⟩
 ·cases h
 ·cases h1
  exact⟨h2,(Array.getElem?_eq_some_iff.1 h3).1⟩
 ·cases h4
  exact⟨h5,(Array.getElem?_eq_some_iff.1 h6).1⟩
section
variable {E : Env} {fix : Nat → Option Value} {F0 : FH} {w0 : Ctx} {F : FH} {ρ : RM} {st : St} {a : Act} {w : World} {o : Oper} {r : Res}
theorem sound_ptr (hE:Ok E)(R:Rel E fix F0 w0 F ρ st a w){c:Call}{X:Operand}{f:FuncId}{pc:ConP}{args:List (AV×Option Blk)}{d:Nat}(hop:o.op= .call c)(hcal:c.callee= .value X)(hX:a.eval X= .func (.func f) #[] #[])
 (hs:SoundP E.P E.glob f pc) (ha:ArgsOk F ρ (hl st.hp) args (c.args.toList.map a.eval)) (e:evalPtr pc st.hp d args=some r) (hc:∀c,c∈r.cs→c) (hnew:∀p,p∈r.new→hl st.hp p.1=none) (hnd:(r.new.map (·.1)).Nodup):
 Does E.P o a.eval w (Post w0.U F ρ (hl st.hp) w r.v (r.L (hl st.hp))):=by
 obtain⟨fn,hf1,hf2,hf3⟩:=hs.fn
 have hrun:(execOp a.eval o).run E.P w= .ok (.enter f (c.args.toList.map a.eval).toArray) w:=by
  have e1:c.args.map a.eval=(c.args.toList.map a.eval).toArray:=by apply Array.ext';simp
  have hn:fn.name≠ "runtime.NumGoroutine" :=by simpa using hf2
  have hb:fn.body≠none:=by intro h;rw[h] at hf3;cases hf3
  simp[execOp,hop,resolve,hcal,hX,Deferred.ofValue,invoke,callFunc,hf1,hn,hb,e1]
 refine does_enter hrun ?_
 revert ha
 generalize c.args.toList.map a.eval=vals
 intro ha
 unfold evalPtr at e
 split at e
 rotate_left 1
 ·cases e
 rename_i k root blk tl
 split at e
 ·cases e
 rename_i hrz
 simp only[Bool.or_eq_true,not_or,Bool.not_eq_true] at hrz
 obtain⟨hrow,hfz⟩:=hrz
 split at e
 ·cases e
 rename_i x hx
 split at e
 rotate_left 1
 ·cases e
 rename_i l ys cs hl0 hargs
 split at e
 rotate_left 1
 ·cases e
 rename_i hck
 simp only[Bool.and_eq_true,Bool.not_eq_true'] at hck
 obtain⟨⟨⟨hkn,hnm⟩,hpl⟩,harr⟩:=hck
 cases e
 have hkn:=nodup_of hkn
 have hnm:=nodup_of hnm
 obtain⟨hc1,hc2⟩:=mem2 hc
 have hpre:pc.pre x ys:=one_mem hc2
 match vals,ha with
 |v0::vs,ha=>
 obtain⟨⟨ha1,hb⟩,ha2⟩:=ha
 obtain⟨k',hk',hL⟩:=blkL_some hb
 cases hk'
 have hbt:=TV.as_eq hx
 obtain⟨row,bt,bx,bfz,blks⟩:=blk
 simp only at hrow hfz hbt hl0 hx
 subst hrow
 subst hfz
 cases hbt
 obtain⟨rfl,hok,bb,cap,u,off,hρ,hnav,hv0⟩:=repAV_ptr.1 ha1 _ hL
 have hoff:off=0:=by
  have:pc.t.nav []=some (pc.t,0):=by cases pc.t<;>rfl
  rw[this] at hnav;simp at hnav;exact hnav.2.symm
 subst hoff
 have hcap0:cap.2=0:=R.rel.base0 hL hρ rfl
 rw[hcap0] at hv0
 subst hv0
 have hLk:look k st.hp=some (some ⟨false,pc.t,x,false,blks⟩):=hL
 have R0:Rel {E with ntm:=1,lock:=[]} (fun _=>none) F0 w0 F ρ ⟨[(0,.ptr k pc.t [])],st.hp⟩ {a with tmps:= #[.pointer (some ⟨bb,0,none⟩)]} w:=by
  refine⟨R.rel,R.below,R.up,R.glob,R.le,R.base, ?_, ?_,rfl,R.defers,fun n v h=>(by cases h),fun n v h=>(by cases h)⟩
  ·intro n av h
   simp only[look_cons] at h
   split at h
   ·rename_i hn;subst hn;cases h;exact ha1
   ·cases h
  ·intro n av h kk hkk
   simp only[look_cons] at h
   split at h
   ·cases h
    simp only[AV.keys,List.mem_singleton] at hkk
    subst hkk
    rw[hL];rfl
   ·cases h
 have hrd:readV ⟨[(0,.ptr k pc.t [])],st.hp⟩ pc.vars=some ((x,()),(0,k)::l):=by
  have h1:readL ⟨[(0,.ptr k pc.t [])],st.hp⟩ pc.t blks pc.ps=some l:=by rw[readL_hp];exact hl0
  have h2:(TV.mk pc.t x).as pc.t=some x:=hx
  simp only[ConP.vars,readV,readS,look_cons,if_true,hLk,h2,h1,List.append_nil]
 have hvn:(pc.vars.flatMap names).Nodup:=by
  simpa[ConP.vars,names] using hnm
 have hR1:=cut_sound (A:=⟨[],[],pc.vars,fun _=>True,fun _=>0⟩) (by
  show nodupB _=true
  have:∀(l:List Nat),l.Nodup→nodupB l=true:=by
   intro l
   induction l with
   |nil=>intro _;rfl
   |cons z l ih=>intro h;rw[List.nodup_cons] at h;simp only[nodupB,Bool.and_eq_true,Bool.not_eq_true'];exact⟨by simpa using h.1,ih h.2⟩
  exact this _ hvn) R0 hrd (by
  have:∀(l:List Nat),l.Nodup→nodupB l=true:=by
   intro l
   induction l with
   |nil=>intro _;rfl
   |cons z l ih=>intro h;rw[List.nodup_cons] at h;simp only[nodupB,Bool.and_eq_true,Bool.not_eq_true'];exact⟨by simpa using h.1,ih h.2⟩
  exact this _ hkn) (kept:=[]) (fun n av h=>by cases h)
 have hRel1:HRel F (cutρ ((0,k)::l) ρ) (hl (mkHp pc.vars (x,()))) w.heap w0.U:=hR1.rel
 let U:Nat→Prop:=fun b=>(∃n,n∈((0,k)::l).map (·.2)∧∃cap,ρ n=some (b,cap))∨w.heap.size≤b
 have hlive:∀n,n∈((0,k)::l).map (·.2)→∃blk,hl st.hp n=some (some blk):=by
  intro n hn
  simp only[List.map_cons,List.mem_cons,List.mem_map] at hn
  rcases hn with rfl|⟨q,hq,rfl⟩
  ·exact⟨_,hL⟩
  ·exact readL_live _ _ hl0 q hq
 have hUU:∀b,U b→w0.U b:=by
  rintro b (⟨n,hn,cap,hr⟩|h)
  ·obtain⟨blk,hb⟩:=hlive n hn
   have h1:=R.rel.blk n blk hb
   rw[hr] at h1
   exact(repB_at h1).1
  ·exact R.up b (Nat.le_trans R.below.size h)
 have hlm:∀(l:List (Nat×Nat)) (m n:Nat),look m l=some n→n∈l.map (·.2):=by
  intro l
  induction l with
  |nil=>intro m n h;cases h
  |cons z l ih=>
   intro m n h
   obtain⟨z1,z2⟩:=z
   rw[look_cons] at h
   split at h
   ·cases h;simp
   ·simp only[List.map_cons,List.mem_cons];exact .inr (ih m n h)
 have hRel2:HRel F (cutρ ((0,k)::l) ρ) (hl (mkHp pc.vars (x,()))) w.heap U:=by
  refine⟨hRel1.cons,fun kk blk hkk=> ?_,hRel1.inj,hRel1.lnk⟩
  have hin:∀b1 c1,cutρ ((0,k)::l) ρ kk=some (b1,c1)→U b1:=by
   intro b1 c1 h1
   refine .inl ?_
   unfold cutρ at h1
   split at h1
   ·cases h1
   ·split at h1
    ·rename_i n hn
     exact⟨n,hlm _ _ _ hn,c1,h1⟩
    ·cases h1
  rcases hRel1.blk kk blk hkk with h|⟨b1,c1,c,e,fr,hd,cs,rest,h1,h2,h3⟩|⟨K,V,zs,h1,h2,h3,b,es,clock,h4,h5,h6⟩
  ·exact .inl h
  ·exact .inr (.inl ⟨b1,c1,c,e,fr,hd,cs,rest,h1,hin _ _ h1,h3⟩)
  ·exact .inr (.inr ⟨K,V,zs,h1,h2,h3,b,es,clock,h4,hin _ _ h4,h6⟩)
 have hbase:cutρ ((0,k)::l) ρ base=some (bb,cap):=by
  have:=cutρ_at ((0,k)::l) ρ 0
  simp only[look_cons,if_true] at this
  rw[←hρ];exact this
 have hrep:=mkArgs_sound (R.in_ hE) true _ _ _ _ _ ha2 hargs hc1
 simp only[if_true] at hrep
 refine(hs.calls F U w _ x ys bb cap vs hRel2 hbase (fun b h=> .inr h) (R.glob.mono R.le) hrep hpre).mono ?_
 rintro e' w' ⟨v,F',ρ',rv,rfl,k1,k2,k3,⟨cap',k4⟩,k5,k6,k7⟩
 refine⟨v,rfl, ?_⟩
 generalize hy:pc.fn x ys=yr at k3 k5 hnew hnd⊢
 obtain⟨y,rr⟩:=yr
 simp only at k3 k5 hnew hnd⊢
 have hps:∀q,q∈pc.ps→hl (mkHp pc.vars (y,())) (base+q.2.2)=some (some (linkB pc.t y q).2):=by
  intro q hq
  refine look_mkHp_at hvn ?_
  simp only[ConP.vars,allBlks,blksOf,List.append_nil,List.mem_cons,List.mem_map]
  exact .inr ⟨q,hq,rfl⟩
 have hpb:hl (mkHp pc.vars (y,())) base=some (some ⟨false,pc.t,y,false,pc.ps.map (fun q=>(q.1,base+q.2.2))⟩):=by
  have:=look_mkHp_at (vs:=pc.vars) (x:=(y,())) hvn (m:=0) (blk:=⟨false,pc.t,y,false,pc.ps.map (fun q=>(q.1,base+q.2.2))⟩) (by simp[ConP.vars,allBlks,blksOf])
  exact this
 let L':HL:=(⟨cs++[pc.pre x ys],oneAV pc.rets (mkRets (fun _=>true) d 0 pc.rets rr).1,pc.ps.map (fun q=>(pkey d q,(linkB pc.t y q).2)),[(k,⟨false,pc.t,y,false,pc.ps.map (fun q=>(q.1,pkey d q))⟩)],l.map (·.2)⟩:Res).L (hl st.hp)
 let ρ2:RM:=fun n=>if(hl st.hp n).isSome then ρ n else match look n (pc.ps.map (fun q=>(pkey d q,base+q.2.2))) with|some m=>ρ' m|none=>none
 have hnewL:∀q,q∈pc.ps→hl st.hp (pkey d q)=none:=fun q hq=>hnew (pkey d q,(linkB pc.t y q).2) (List.mem_map.2 ⟨q,hq,rfl⟩)
 have hpk:(pc.ps.map (pkey d)).Nodup:=by simpa[List.map_map,Function.comp_def] using hnd
 have lookN:∀q,q∈pc.ps→look (pkey d q) (pc.ps.map (fun q=>(pkey d q,(linkB pc.t y q).2)))=some (linkB pc.t y q).2:=by
  intro q hq
  exact look_of_mem (List.mem_map.2 ⟨q,hq,rfl⟩) (by simpa[List.map_map,Function.comp_def] using hpk)
 have lookM:∀q,q∈pc.ps→look (pkey d q) (pc.ps.map (fun q=>(pkey d q,base+q.2.2)))=some (base+q.2.2):=by
  intro q hq
  exact look_of_mem (List.mem_map.2 ⟨q,hq,rfl⟩) (by simpa[List.map_map,Function.comp_def] using hpk)
 have ρnew:∀q,q∈pc.ps→ρ2 (pkey d q)=ρ' (base+q.2.2):=by
  intro q hq
  show(if(hl st.hp (pkey d q)).isSome then _ else _)=_
  rw[hnewL q hq]
  simp only[Option.isSome_none,Bool.false_eq_true,if_false]
  rw[lookM q hq]
 have ρold:∀n,(hl st.hp n).isSome→ρ2 n=ρ n:=fun n hn=>if_pos hn
 have cases3:∀n blk,L' n=some (some blk)→(∃q,q∈pc.ps∧n=pkey d q∧blk=(linkB pc.t y q).2)∨(n=k∧blk=⟨false,pc.t,y,false,pc.ps.map (fun q=>(q.1,pkey d q))⟩)∨
  (hl st.hp n=some (some blk)∧n∉((0,k)::l).map (·.2)):=by
  intro n blk h
  have h:(match look n (pc.ps.map (fun q=>(pkey d q,(linkB pc.t y q).2))) with|some b=>some (some b)|none=>match look n [(k,(⟨false,pc.t,y,false,pc.ps.map (fun q=>(q.1,pkey d q))⟩:Blk))] with|some b=>some (some b)|none=>if(l.map (·.2)).contains n then some none else hl st.hp n)=some (some blk):=h
  cases hq:look n (pc.ps.map (fun q=>(pkey d q,(linkB pc.t y q).2))) with
  |some b=>
   rw[hq] at h
   cases h
   have:=look_memN hq
   obtain⟨q,q1,q2⟩:=List.mem_map.1 this
   cases q2
   exact .inl ⟨q,q1,rfl,rfl⟩
  |none=>
   rw[hq] at h
   simp only[look_cons] at h
   by_cases hnk:n=k
   ·rw[if_pos hnk] at h
    cases h
    exact .inr (.inl ⟨hnk,rfl⟩)
   ·rw[if_neg hnk] at h
    simp only[look] at h
    split at h
    ·cases h
    ·rename_i hcn
     refine .inr (.inr ⟨h, ?_⟩)
     simp only[List.map_cons,List.mem_cons,not_or]
     exact⟨hnk,by simpa using hcn⟩
 have Lnew:∀q,q∈pc.ps→L' (pkey d q)=some (some (linkB pc.t y q).2):=by
  intro q hq
  show(match look (pkey d q) (pc.ps.map (fun q=>(pkey d q,(linkB pc.t y q).2))) with|some b=>some (some b)|none=>_)=_
  rw[lookN q hq]
 have someL:∀n,(hl st.hp n).isSome→(L' n).isSome:=fun n hn=>isSome_L _ _ _ hn
 have stay:∀n blk b cap,hl st.hp n=some (some blk)→n∉((0,k)::l).map (·.2)→ρ n=some (b,cap)→¬U b∧b<w.heap.size:=by
  intro n blk b cap hn hno hr
  have h1:=R.rel.blk n blk hn
  rw[hr] at h1
  have h2:=(repB_at h1).2
  refine⟨?_,h2⟩
  rintro(⟨n',hn',cap1,hr'⟩|h)
  ·obtain⟨blk',hb'⟩:=hlive n' hn'
   have:=R.rel.inj n n' blk blk' b cap cap1 hn hb' hr hr'
   subst this
   exact hno hn'
  ·omega
 have hLL:LLe (hl st.hp) ρ L' ρ2:=by
  intro n hn blk h
  rcases cases3 n blk h with⟨q,hq,rfl,rfl⟩|⟨rfl,rfl⟩|⟨h1,_⟩
  ·rw[hnewL q hq] at hn;cases hn
  ·refine⟨_,hL,rfl,rfl, ?_,ρold _ hn⟩
   simp only[Blk.len]
   rw[lenT_narr harr,lenT_narr harr]
  ·exact⟨blk,h1,rfl,rfl,rfl,ρold _ hn⟩
 refine⟨F',ρ2,oneAV_rep _ _ _ _ _ _ (mkRets_plain _ _ _ _ _ _ hpl k5 _ _) (repRets_len _ _ _ _ k5) k6, ?_,k1,fun b hb=>k2 b (fun h=>hb (hUU b h)),hLL,Kept.mono k7 hUU⟩
 show HRel F' ρ2 L' w'.heap w0.U
 have ρk:ρ2 k=some (bb,cap):=by rw[ρold k (by rw[hL];rfl)];exact hρ
 refine⟨k3.cons, ?_, ?_, ?_⟩
 ·intro n blk h
  rcases cases3 n blk h with⟨q,hq,rfl,rfl⟩|⟨rfl,rfl⟩|⟨h1,h2⟩
  ·rw[ρnew q hq]
   exact repB_sub hUU (k3.blk _ _ (hps q hq))
  ·rw[ρk]
   have:=k3.blk _ _ hpb
   rw[k4] at this
   exact repB_sub hUU (repB_cap this hcap0 (k3.base0 hpb k4 rfl))
  ·rw[ρold n (by rw[h1];rfl)]
   rcases R.rel.blk n blk h1 with g|⟨b,cp,c,e,fr,hd,cs,rest,g1,g2,g3,g4,g5,g6,g7⟩|⟨K,V,zs,hm⟩
   ·exact .inl g
   ·obtain⟨s1,s2⟩:=stay n blk b cp h1 h2 g1
    exact .inr (.inl ⟨b,cp,c,e,fr,hd,cs,rest,g1,g2,by rw[k7.block b s1];exact g3,g4,g5,repC_mono k1 g6,fun i=>by rw[k2 b s1];exact g7 i⟩)
   ·refine .inr (.inr ⟨K,V,zs,hm.mono k1 (fun b cp es clock e g3=> ?_)⟩)
    obtain⟨s1,s2⟩:=stay n blk b cp h1 h2 e
    rw[k7.block b s1];exact g3
 ·
  have addr:∀n blk b c,L' n=some (some blk)→ρ2 n=some (b,c)→(∃m blk' c',(m=base∧n=k∨∃q,q∈pc.ps∧m=base+q.2.2∧n=pkey d q)∧hl (mkHp pc.vars (y,())) m=some (some blk')∧ρ' m=some (b,c')∧U b)∨
   (hl st.hp n=some (some blk)∧ρ n=some (b,c)∧¬U b):=by
   intro n blk b c h hr
   rcases cases3 n blk h with⟨q,hq,rfl,rfl⟩|⟨rfl,rfl⟩|⟨h1,h2⟩
   ·rw[ρnew q hq] at hr
    have:=k3.blk _ _ (hps q hq)
    rw[hr] at this
    exact .inl ⟨_,_,c,.inr ⟨q,hq,rfl,rfl⟩,hps q hq,hr,(repB_at this).1⟩
   ·rw[ρk] at hr
    cases hr
    have:=k3.blk _ _ hpb
    rw[k4] at this
    exact .inl ⟨base,_,cap',.inl ⟨rfl,rfl⟩,hpb,k4,(repB_at this).1⟩
   ·rw[ρold n (by rw[h1];rfl)] at hr
    exact .inr ⟨h1,hr,(stay n blk b c h1 h2 hr).1⟩
  intro n n' x1 x2 b c c' h h' hr hr'
  rcases addr n x1 b c h hr with⟨m,bm,cm,hm,m1,m2,m3⟩|⟨m1,m2,m3⟩<;>rcases addr n' x2 b c' h' hr' with⟨m',bm',cm',hm',m1',m2',m3'⟩|⟨m1',m2',m3'⟩
  ·have:=k3.inj m m' _ _ _ _ _ m1 m1' m2 m2'
   subst this
   have hz:∀q,q∈pc.ps→q.2.2≠0:=by
    intro q hq h0
    rw[List.nodup_cons] at hnm
    exact hnm.1 (List.mem_map.2 ⟨q,hq,h0⟩)
   rcases hm with⟨e1,e2⟩|⟨q,hq,e1,e2⟩<;>rcases hm' with⟨e1',e2'⟩|⟨q',hq',e1',e2'⟩
   ·rw[e2,e2']
   ·exact absurd (by rw[e1'] at e1;omega) (hz q' hq')
   ·exact absurd (by rw[e1] at e1';omega) (hz q hq)
   ·rw[e2,e2']
    simp only[pkey]
    rw[e1] at e1'
    have:q.2.2=q'.2.2:=by omega
    rw[this]
  ·exact absurd m3 m3'
  ·exact absurd m3' m3
  ·exact R.rel.inj n n' _ _ _ _ _ m1 m1' m2 m2'
 ·intro n blk h p kk hm
  rcases cases3 n blk h with⟨q,hq,rfl,rfl⟩|⟨rfl,rfl⟩|⟨h1,h2⟩
  ·simp[linkB] at hm
  ·simp only[List.mem_map] at hm
   obtain⟨q,hq,he⟩:=hm
   cases he
   refine⟨by rw[Lnew q hq];rfl,fun b2 cap2 hr=> ?_⟩
   rw[ρk] at hr
   cases hr
   obtain⟨_,g2⟩:=k3.lnk _ _ hpb q.1 (base+q.2.2) (List.mem_map.2 ⟨q,hq,rfl⟩)
   obtain⟨g3,u2,off2,v2,g4,g5,g6⟩:=g2 bb cap' k4
   have hc':=k3.base0 hpb k4 rfl
   refine⟨g3,u2,off2,v2,g4,by rw[hcap0,←hc'];exact g5,repAV_whole.2 (fun blk2 hb2=> ?_)⟩
   rw[Lnew q hq] at hb2
   rw[ρnew q hq]
   exact repAV_whole.1 g6 blk2 (by rw[hps q hq];exact hb2)
  ·obtain⟨g1,g2⟩:=R.rel.lnk n blk h1 p kk hm
   refine⟨someL _ g1,fun b2 cap2 hr=> ?_⟩
   rw[ρold n (by rw[h1];rfl)] at hr
   obtain⟨s1,s2⟩:=stay n blk b2 cap2 h1 h2 hr
   exact(g2 b2 cap2 hr).ext k1 hLL g1 (cellAt_of (k7.block b2 s1))
theorem sound_val (hE:Ok E)(R:Rel E fix F0 w0 F ρ st a w){c:Call}{X:Operand}{f:FuncId}{vc:ConV}{args:List (AV×Option Blk)}{d:Nat}(hop:o.op= .call c)(hcal:c.callee= .value X)(hX:a.eval X= .func (.func f) #[] #[])
 (hs:SoundV E.P E.glob f vc) (ha:ArgsOk F ρ (hl st.hp) args (c.args.toList.map a.eval)) (e:evalVal vc st.hp d args=some r) (hc:∀c,c∈r.cs→c) (hnew:∀p,p∈r.new→hl st.hp p.1=none) (hnd:(r.new.map (·.1)).Nodup)
 (hkn:∀k,k∈keysOf args→(hl st.hp k).isSome):Does E.P o a.eval w (Post w0.U F ρ (hl st.hp) w r.v (r.L (hl st.hp))):=by
 obtain⟨fn,hf1,hf2,hf3⟩:=hs.fn
 have hrun:(execOp a.eval o).run E.P w= .ok (.enter f (c.args.toList.map a.eval).toArray) w:=by
  have e1:c.args.map a.eval=(c.args.toList.map a.eval).toArray:=by apply Array.ext';simp
  have hn:fn.name≠ "runtime.NumGoroutine" :=by simpa using hf2
  have hb:fn.body≠none:=by intro h;rw[h] at hf3;cases hf3
  simp[execOp,hop,resolve,hcal,hX,Deferred.ofValue,invoke,callFunc,hf1,hn,hb,e1]
 refine does_enter hrun ?_
 revert ha
 generalize c.args.toList.map a.eval=vals
 intro ha
 unfold evalVal at e
 split at e
 rotate_left 1
 ·cases e
 rename_i bt bx blks b0 tl
 split at e
 ·cases e
 rename_i x hx
 split at e
 rotate_left 1
 ·cases e
 rename_i l ys cs hl0 hargs
 split at e
 rotate_left 1
 ·cases e
 rename_i hck
 simp only[Bool.and_eq_true] at hck
 obtain⟨hkn0,hnm⟩:=hck
 cases e
 have hnm:=nodup_of hnm
 obtain⟨hc1,hc2⟩:=mem2 hc
 have hpre:vc.pre x ys:=one_mem hc2
 match vals,ha with
 |v0::vs,ha=>
 obtain⟨⟨ha1,hb⟩,ha2⟩:=ha
 have hbt:=TV.as_eq hx
 cases hbt
 have hkb:∀q,q∈blks→(hl st.hp q.2).isSome:=fun q hq=>hkn _ (by
  simp only[keysOf,List.flatMap_cons,List.mem_append,argKeys,AV.keys]
  exact .inl (.inl (List.mem_map.2 ⟨q,hq,rfl⟩)))
 have R0:Rel {E with ntm:=1,lock:=[]} (fun _=>none) F0 w0 F ρ ⟨[(0,.vlk vc.t x blks)],st.hp⟩ {a with tmps:= #[v0]} w:=by
  refine⟨R.rel,R.below,R.up,R.glob,R.le,R.base, ?_, ?_,rfl,R.defers,fun n v h=>(by cases h),fun n v h=>(by cases h)⟩
  ·intro n av h
   simp only[look_cons] at h
   split at h
   ·rename_i hn;subst hn;cases h;exact ha1
   ·cases h
  ·intro n av h kk hkk
   simp only[look_cons] at h
   split at h
   ·cases h
    simp only[AV.keys,List.mem_map] at hkk
    obtain⟨q,hq,rfl⟩:=hkk
    exact hkb q hq
   ·cases h
 have hrd:readV ⟨[(0,.vlk vc.t x blks)],st.hp⟩ vc.vars=some ((x,()),l):=by
  have h1:readL ⟨[(0,.vlk vc.t x blks)],st.hp⟩ vc.t blks vc.ps=some l:=by rw[readL_hp];exact hl0
  have h2:(TV.mk vc.t x).as vc.t=some x:=hx
  simp only[ConV.vars,readV,readS,look_cons,if_true,h2,h1,List.append_nil]
 have hvn:(vc.vars.flatMap names).Nodup:=by
  simpa[ConV.vars,names] using hnm
 have toB:∀(l:List Nat),l.Nodup→nodupB l=true:=by
  intro l
  induction l with
  |nil=>intro _;rfl
  |cons z l ih=>intro h;rw[List.nodup_cons] at h;simp only[nodupB,Bool.and_eq_true,Bool.not_eq_true'];exact⟨by simpa using h.1,ih h.2⟩
 have hR1:=cut_sound (A:=⟨[],[],vc.vars,fun _=>True,fun _=>0⟩) (toB _ hvn) R0 hrd hkn0 (kept:=[]) (fun n av h=>by cases h)
 have hRel1:HRel F (cutρ l ρ) (hl (mkHp vc.vars (x,()))) w.heap w0.U:=hR1.rel
 have hval1:RepAV F (cutρ l ρ) (hl (mkHp vc.vars (x,()))) (avOf 0 (.valL vc.t vc.ps) x) v0:=hR1.tm 0 _ rfl
 let U:Nat→Prop:=fun b=>(∃n,n∈l.map (·.2)∧∃cap,ρ n=some (b,cap))∨w.heap.size≤b
 have hlive:∀n,n∈l.map (·.2)→∃blk,hl st.hp n=some (some blk):=by
  intro n hn
  obtain⟨q,hq,rfl⟩:=List.mem_map.1 hn
  exact readL_live _ _ hl0 q hq
 have hUU:∀b,U b→w0.U b:=by
  rintro b (⟨n,hn,cap,hr⟩|h)
  ·obtain⟨blk,hb⟩:=hlive n hn
   have h1:=R.rel.blk n blk hb
   rw[hr] at h1
   exact(repB_at h1).1
  ·exact R.up b (Nat.le_trans R.below.size h)
 have hlm:∀(l:List (Nat×Nat)) (m n:Nat),look m l=some n→n∈l.map (·.2):=by
  intro l
  induction l with
  |nil=>intro m n h;cases h
  |cons z l ih=>
   intro m n h
   obtain⟨z1,z2⟩:=z
   rw[look_cons] at h
   split at h
   ·cases h;simp
   ·simp only[List.map_cons,List.mem_cons];exact .inr (ih m n h)
 have hRel2:HRel F (cutρ l ρ) (hl (mkHp vc.vars (x,()))) w.heap U:=by
  refine⟨hRel1.cons,fun kk blk hkk=> ?_,hRel1.inj,hRel1.lnk⟩
  have hin:∀b1 c1,cutρ l ρ kk=some (b1,c1)→U b1:=by
   intro b1 c1 h1
   refine .inl ?_
   unfold cutρ at h1
   split at h1
   ·cases h1
   ·split at h1
    ·rename_i n hn
     exact⟨n,hlm _ _ _ hn,c1,h1⟩
    ·cases h1
  rcases hRel1.blk kk blk hkk with h|⟨b1,c1,c,e,fr,hd,cs,rest,h1,h2,h3⟩|⟨K,V,zs,h1,h2,h3,b,es,clock,h4,h5,h6⟩
  ·exact .inl h
  ·exact .inr (.inl ⟨b1,c1,c,e,fr,hd,cs,rest,h1,hin _ _ h1,h3⟩)
  ·exact .inr (.inr ⟨K,V,zs,h1,h2,h3,b,es,clock,h4,hin _ _ h4,h6⟩)
 have hrep:=mkArgs_sound (R.in_ hE) true _ _ _ _ _ ha2 hargs hc1
 simp only[if_true] at hrep
 refine(hs.calls F U w _ x ys v0 vs hRel2 hval1 (fun b h=> .inr h) (R.glob.mono R.le) hrep hpre).mono ?_
 rintro e' w' ⟨v,F',ρ',rfl,k1,k2,k3,k4,k7⟩
 refine⟨v,rfl, ?_⟩
 generalize hy:vc.fn x ys=y at k3 k4 hnew hnd⊢
 have hps:∀q,q∈vc.ps→hl (mkHp vc.vars (y,())) (base+q.2.2)=some (some (linkB vc.t y q).2):=by
  intro q hq
  refine look_mkHp_at hvn ?_
  simp only[ConV.vars,allBlks,blksOf,List.append_nil,List.mem_map]
  exact⟨q,hq,rfl⟩
 let L':HL:=(⟨cs++[vc.pre x ys],.vlk vc.t y (vc.ps.map (fun q=>(q.1,pkey d q))),vc.ps.map (fun q=>(pkey d q,(linkB vc.t y q).2)),[],l.map (·.2)⟩:Res).L (hl st.hp)
 let ρ2:RM:=fun n=>if(hl st.hp n).isSome then ρ n else match look n (vc.ps.map (fun q=>(pkey d q,base+q.2.2))) with|some m=>ρ' m|none=>none
 have hnewL:∀q,q∈vc.ps→hl st.hp (pkey d q)=none:=fun q hq=>hnew (pkey d q,(linkB vc.t y q).2) (List.mem_map.2 ⟨q,hq,rfl⟩)
 have hpk:(vc.ps.map (pkey d)).Nodup:=by simpa[List.map_map,Function.comp_def] using hnd
 have lookN:∀q,q∈vc.ps→look (pkey d q) (vc.ps.map (fun q=>(pkey d q,(linkB vc.t y q).2)))=some (linkB vc.t y q).2:=by
  intro q hq
  exact look_of_mem (List.mem_map.2 ⟨q,hq,rfl⟩) (by simpa[List.map_map,Function.comp_def] using hpk)
 have lookM:∀q,q∈vc.ps→look (pkey d q) (vc.ps.map (fun q=>(pkey d q,base+q.2.2)))=some (base+q.2.2):=by
  intro q hq
  exact look_of_mem (List.mem_map.2 ⟨q,hq,rfl⟩) (by simpa[List.map_map,Function.comp_def] using hpk)
 have ρnew:∀q,q∈vc.ps→ρ2 (pkey d q)=ρ' (base+q.2.2):=by
  intro q hq
  show(if(hl st.hp (pkey d q)).isSome then _ else _)=_
  rw[hnewL q hq]
  simp only[Option.isSome_none,Bool.false_eq_true,if_false]
  rw[lookM q hq]
 have ρold:∀n,(hl st.hp n).isSome→ρ2 n=ρ n:=fun n hn=>if_pos hn
 have cases2:∀n blk,L' n=some (some blk)→(∃q,q∈vc.ps∧n=pkey d q∧blk=(linkB vc.t y q).2)∨(hl st.hp n=some (some blk)∧n∉l.map (·.2)):=by
  intro n blk h
  have h:(match look n (vc.ps.map (fun q=>(pkey d q,(linkB vc.t y q).2))) with|some b=>some (some b)|none=>match look n ([]:List (Nat×Blk)) with|some b=>some (some b)|none=>if(l.map (·.2)).contains n then some none else hl st.hp n)=some (some blk):=h
  cases hq:look n (vc.ps.map (fun q=>(pkey d q,(linkB vc.t y q).2))) with
  |some b=>
   rw[hq] at h
   cases h
   have:=look_memN hq
   obtain⟨q,q1,q2⟩:=List.mem_map.1 this
   cases q2
   exact .inl ⟨q,q1,rfl,rfl⟩
  |none=>
   rw[hq] at h
   simp only[look] at h
   split at h
   ·cases h
   ·rename_i hcn
    exact .inr ⟨h,by simpa using hcn⟩
 have Lnew:∀q,q∈vc.ps→L' (pkey d q)=some (some (linkB vc.t y q).2):=by
  intro q hq
  show(match look (pkey d q) (vc.ps.map (fun q=>(pkey d q,(linkB vc.t y q).2))) with|some b=>some (some b)|none=>_)=_
  rw[lookN q hq]
 have someL:∀n,(hl st.hp n).isSome→(L' n).isSome:=fun n hn=>isSome_L _ _ _ hn
 have stay:∀n blk b cap,hl st.hp n=some (some blk)→n∉l.map (·.2)→ρ n=some (b,cap)→¬U b∧b<w.heap.size:=by
  intro n blk b cap hn hno hr
  have h1:=R.rel.blk n blk hn
  rw[hr] at h1
  have h2:=(repB_at h1).2
  refine⟨?_,h2⟩
  rintro(⟨n',hn',cap1,hr'⟩|h)
  ·obtain⟨blk',hb'⟩:=hlive n' hn'
   have:=R.rel.inj n n' blk blk' b cap cap1 hn hb' hr hr'
   subst this
   exact hno hn'
  ·omega
 have hLL:LLe (hl st.hp) ρ L' ρ2:=by
  intro n hn blk h
  rcases cases2 n blk h with⟨q,hq,rfl,rfl⟩|⟨h1,_⟩
  ·rw[hnewL q hq] at hn;cases hn
  ·exact⟨blk,h1,rfl,rfl,rfl,ρold _ hn⟩
 have hout:RepAV F' ρ2 L' (.vlk vc.t y (vc.ps.map (fun q=>(q.1,pkey d q)))) v:=by
  obtain⟨v1,e1,g1,g2⟩:=repA_nt k4 rfl
  cases e1
  refine repAV_nt rfl ⟨_,rfl,g1,fun p kn hm=> ?_⟩
  obtain⟨q,hq,he⟩:=List.mem_map.1 hm
  cases he
  obtain⟨f0,u,off,hv,n1,n2,n3⟩:=g2 q.1 (base+q.2.2) (List.mem_map.2 ⟨q,hq,rfl⟩)
  refine⟨f0,u,off,hv,n1,n2,fun blk hb=> ?_⟩
  rw[Lnew q hq] at hb
  rw[ρnew q hq]
  exact n3 blk (by rw[hps q hq];exact hb)
 refine⟨F',ρ2,hout, ?_,k1,fun b hb=>k2 b (fun h=>hb (hUU b h)),hLL,Kept.mono k7 hUU⟩
 show HRel F' ρ2 L' w'.heap w0.U
 refine⟨k3.cons, ?_, ?_, ?_⟩
 ·intro n blk h
  rcases cases2 n blk h with⟨q,hq,rfl,rfl⟩|⟨h1,h2⟩
  ·rw[ρnew q hq]
   exact repB_sub hUU (k3.blk _ _ (hps q hq))
  ·rw[ρold n (by rw[h1];rfl)]
   rcases R.rel.blk n blk h1 with g|⟨b,cp,c,e,fr,hd,cs,rest,g1,g2,g3,g4,g5,g6,g7⟩|⟨K,V,zs,hm⟩
   ·exact .inl g
   ·obtain⟨s1,s2⟩:=stay n blk b cp h1 h2 g1
    exact .inr (.inl ⟨b,cp,c,e,fr,hd,cs,rest,g1,g2,by rw[k7.block b s1];exact g3,g4,g5,repC_mono k1 g6,fun i=>by rw[k2 b s1];exact g7 i⟩)
   ·refine .inr (.inr ⟨K,V,zs,hm.mono k1 (fun b cp es clock e g3=> ?_)⟩)
    obtain⟨s1,s2⟩:=stay n blk b cp h1 h2 e
    rw[k7.block b s1];exact g3
 ·
  have addr:∀n blk b c,L' n=some (some blk)→ρ2 n=some (b,c)→(∃q,q∈vc.ps∧n=pkey d q∧ρ' (base+q.2.2)=some (b,c)∧U b)∨
   (hl st.hp n=some (some blk)∧ρ n=some (b,c)∧¬U b):=by
   intro n blk b c h hr
   rcases cases2 n blk h with⟨q,hq,rfl,rfl⟩|⟨h1,h2⟩
   ·rw[ρnew q hq] at hr
    have:=k3.blk _ _ (hps q hq)
    rw[hr] at this
    exact .inl ⟨q,hq,rfl,hr,(repB_at this).1⟩
   ·rw[ρold n (by rw[h1];rfl)] at hr
    exact .inr ⟨h1,hr,(stay n blk b c h1 h2 hr).1⟩
  intro n n' x1 x2 b c c' h h' hr hr'
  rcases addr n x1 b c h hr with⟨q,hq,e1,m2,m3⟩|⟨m1,m2,m3⟩<;>rcases addr n' x2 b c' h' hr' with⟨q',hq',e1',m2',m3'⟩|⟨m1',m2',m3'⟩
  ·have:=k3.inj _ _ _ _ _ _ _ (hps q hq) (hps q' hq') m2 m2'
   rw[e1,e1']
   simp only[pkey]
   have:q.2.2=q'.2.2:=by omega
   rw[this]
  ·exact absurd m3 m3'
  ·exact absurd m3' m3
  ·exact R.rel.inj n n' _ _ _ _ _ m1 m1' m2 m2'
 ·intro n blk h p kk hm
  rcases cases2 n blk h with⟨q,hq,rfl,rfl⟩|⟨h1,h2⟩
  ·simp[linkB] at hm
  ·obtain⟨g1,g2⟩:=R.rel.lnk n blk h1 p kk hm
   refine⟨someL _ g1,fun b2 cap2 hr=> ?_⟩
   rw[ρold n (by rw[h1];rfl)] at hr
   obtain⟨s1,s2⟩:=stay n blk b2 cap2 h1 h2 hr
   exact(g2 b2 cap2 hr).ext k1 hLL g1 (cellAt_of (k7.block b2 s1))
theorem sound_opH0 (hE:Ok E)(R:Rel E fix F0 w0 F ρ st a w){args:List (AV×Option Blk)}
 (ha:ArgsOk' F ρ (hl st.hp) (touches o.op) args (o.op.operands.toList.map a.eval)) (e:evalOpH0 E st.hp o.op o.type o.dst args=some r) (hc:∀c,c∈r.cs→c) (hnew:∀p,p∈r.new→hl st.hp p.1=none) (hnd:(r.new.map (·.1)).Nodup) (hkn:∀k,k∈keysOf args→(hl st.hp k).isSome):
 Does E.P o a.eval w (Post w0.U F ρ (hl st.hp) w r.v (r.L (hl st.hp))):=by
 have plain:evalOp E o.op o.type o.dst args=some r→Does E.P o a.eval w (Post w0.U F ρ (hl st.hp) w r.v (r.L (hl st.hp))):=
  fun e=>sound_op (R.in_ hE) (R.glob.mono R.le) hE.con ha e hc hnew hnd hkn
 unfold evalOpH0 at e
 split at e
 ·rename_i op c f bb tl d hop hdst
  split at e
  ·rename_i X pc hcal hpc
   rw[hop] at ha
   have ha:=ArgsOk'.arg _ _ ha
   simp only[Op.operands,Call.operands] at ha
   rw[hcal] at ha
   simp only[Array.toList_append,List.cons_append,List.nil_append,List.map_cons] at ha
   have hX:a.eval X= .func (.func f) #[] #[]:=by
    have:=repA_nt ha.1.1 rfl
    simpa[RepA] using this
   exact sound_ptr hE R hop hcal hX (hE.ptr f pc hpc) ha.2 e hc hnew hnd
  ·rename_i X hcal hpc
   split at e
   ·rename_i vc hvc
    rw[hop] at ha
    have ha:=ArgsOk'.arg _ _ ha
    simp only[Op.operands,Call.operands] at ha
    rw[hcal] at ha
    simp only[Array.toList_append,List.cons_append,List.nil_append,List.map_cons] at ha
    have hX:a.eval X= .func (.func f) #[] #[]:=by
     have:=repA_nt ha.1.1 rfl
     simpa[RepA] using this
    exact sound_val hE R hop hcal hX (hE.byv f vc hvc) ha.2 e hc hnew hnd (fun k hk=>hkn k (by
     simp only[keysOf,List.flatMap_cons,List.mem_append]
     exact .inr hk))
   ·exact plain e
  ·exact plain e
 ·exact plain e
theorem sound_opH (hE:Ok E)(R:Rel E fix F0 w0 F ρ st a w){args:List (AV×Option Blk)}
 (ha:ArgsOkF F ρ (hl st.hp) (touches o.op) args (o.op.operands.toList.map a.eval)) (e:evalOpH E st.hp o.op o.type o.dst args=some r) (hc:∀c,c∈r.cs→c) (hnew:∀p,p∈r.new→hl st.hp p.1=none) (hnd:(r.new.map (·.1)).Nodup) (hkn:∀k,k∈keysOf args→(hl st.hp k).isSome):
 Does E.P o a.eval w (Post w0.U F ρ (hl st.hp) w r.v (r.L (hl st.hp))):=by
 unfold evalOpH at e
 split at e
 ·rename_i r' he
  cases e
  unfold evalOpen at he
  split at he
  ·rename_i t x f av b hop
   rw[hop] at ha
   split at he
   ·exact sound_fieldAddrF (R.in_ hE) hop ha.1.1 (fun blk h=>by cases h;exact ha.1.2 rfl) he
   ·cases he
  ·rename_i t x k root path b hop
   rw[hop] at ha
   split at he
   ·rename_i ho
    obtain⟨k',hk',hL⟩:=blkF_some (ha.1.2 rfl)
    cases hk'
    exact sound_openLoad (R.in_ hE) hop ha.1.1 hL ho he
   ·cases he
  ·rename_i t x y k root path b v hop
   rw[hop] at ha
   obtain⟨k',hk',hL⟩:=blkF_some (ha.1.2 rfl)
   cases hk'
   have hb:=ha.2.1.2 rfl
   have hv:r.v= .tnil:=by
    unfold openStore at he
    split at he
    ·split at he
     ·split at he
      ·cases he;rfl
      ·cases he
     ·cases he
    ·split at he
     ·split at he
      ·cases he
      ·split at he
       ·split at he
        ·cases he;rfl
        ·cases he
       ·cases he
     ·cases he
    ·cases he
   rw[hv]
   exact sound_openStore (R.in_ hE) hop ha.1.1 hL ha.2.1.1 (fun x h=>by rw[←h];exact hb) (by rw[hb];rfl) he hc
  ·cases he
 ·exact sound_opH0 hE R ha.mask e hc hnew hnd (fun k hk=>hkn k (keysOf_mask hk))
end
end Lc
namespace Lc
open Go Go.RowKit
section
variable {E : Env} {fix : Nat → Option Value} {F0 : FH} {w0 : Ctx} {F : FH} {ρ : RM} {st st' : St} {a : Act} {w : World}
theorem step_sound (hE:Ok E)(R:Rel E fix F0 w0 F ρ st a w){ops:Array Oper}{o:Oper}{cs:List Prop}(e:stepA E ops o st=some (cs,st'))(hc:∀c,c∈cs→c){K:Act→World→Prop}
 (hK:∀F' ρ' a' w',Rel E fix F0 w0 F' ρ' st' a' w'→K a' w') (Q:Exit→Act→World→Prop):
 if Region.wanted o (yielded ops a.tmps) then o.wp E.P a w K Q else K (a.put o.dst undef) w:=by
 unfold stepA at e
 split at e
 ·cases e
 rename_i args cs0 e1
 split at e
 ·cases e
 rename_i g e2
 split at e
 ·cases e
 rename_i r e3
 split at e
 ·cases e
 rename_i hchk
 simp only[Bool.not_eq_true',Bool.not_eq_false,Bool.and_eq_true,List.all_eq_true,Option.isNone_iff_eq_none] at hchk
 obtain⟨⟨hn1,hn2⟩,hres⟩:=hchk
 have hg:=guard_sound R e2
 have hnew:∀p,p∈r.new→hl st.hp p.1=none:=hn1
 have hnd:=nodup_of hn2
 simp only[resOk,Bool.and_eq_true,List.all_eq_true,Bool.or_eq_true] at hres
 obtain⟨⟨⟨⟨_,_⟩,_⟩,_,_⟩,hkeys⟩:=hres
 have core:(∀c,c∈cs0→c)→(∀c,c∈r.cs→c)→(∀v w',Post w0.U F ρ (hl st.hp) w r.v (r.L (hl st.hp)) v w'→K (a.put o.dst v) w')→o.wp E.P a w K Q:=by
  intro h0 h1 hk
  obtain⟨ha,hkn⟩:=evalArgs_sound R (isPick o.op) (touches o.op) (by cases o.op<;>simp[isPick,touches]) _ _ _ e1 h0
  exact sound_opH hE R ha e3 h1 hnew hnd hkn a K Q rfl hk
 have relOf:∀(d:Option Nat) (v:Value) (w':World) (av:AV),(∀d',d=some d'→d'<E.ntm∧d'∉E.lock)→(∀c,c∈cs0→c)→Post w0.U F ρ (hl st.hp) w r.v (r.L (hl st.hp)) v w'→
  (∀F' ρ',RepAV F' ρ' (r.L (hl st.hp)) r.v v→RepAV F' ρ' (r.L (hl st.hp)) av v)→av.keys=r.v.keys→
  ∃F' ρ',Rel E fix F0 w0 F' ρ' ⟨(match d with|some d=>[(d,av)]|none=>[])++st.tm,r.hp st.hp⟩ (a.put d v) w':=by
  rintro d v w' av hd h0 ⟨F',ρ',p1,p2,p3,p4,p5,p6⟩ hav hak
  obtain⟨_,hargk⟩:=evalArgs_sound R (isPick o.op) (touches o.op) (by cases o.op<;>simp[isPick,touches]) _ _ _ e1 h0
  have hlook:∀n,look n ((match d with|some d=>[(d,av)]|none=>[])++st.tm)=if d=some n then some av else look n st.tm:=by
   intro n
   cases d with
   |none=>simp
   |some d=>
    simp only[List.cons_append,List.nil_append,look_cons]
    by_cases h:n=d
    ·subst h;simp
    ·have:¬(some d=some n):=by simpa using fun h'=>h h'.symm
     rw[if_neg h,if_neg this]
  refine⟨F',ρ',by rw[hl_hp];exact p2,R.below.trans p6,R.up,R.glob,R.le.trans p3,fun b hb=>by rw[p4 b hb];exact R.base b hb, ?_, ?_,by rw[put_size];exact R.ntm,by rw[put_defers];exact R.defers,fun n u hu=>by
   rw[put_get a d v n (fun k hk=>by rw[R.ntm];exact(hd k hk).1),if_neg (fun h=>(hd n h).2 (R.lock n u hu))];exact R.fixed n u hu,R.lock⟩
  ·intro n av' hn
   rw[hlook] at hn
   rw[put_get a d v n (fun k hk=>by rw[R.ntm];exact(hd k hk).1),hl_hp]
   split at hn
   ·rename_i h
    cases hn
    rw[if_pos h];exact hav F' ρ' p1
   ·rename_i h
    rw[if_neg h]
    exact repAV_ext p3 p5 (R.keys _ _ hn) (R.tm _ _ hn)
  ·intro n av' hn k hk
   rw[hlook] at hn
   rw[hl_hp]
   split at hn
   ·cases hn
    rw[hak] at hk
    rcases hkeys k hk with h|h
    ·exact isSome_L _ _ _ (hargk k (by simpa using h))
    ·exact isSome_new _ _ _ h
   ·exact isSome_L _ _ _ (R.keys _ _ hn k hk)
 split at e
 ·rename_i d hdst
  simp only at hg
  rw[if_pos hg]
  split at e
  ·rename_i hdn
   simp only[Bool.and_eq_true,decide_eq_true_eq,Bool.not_eq_true'] at hdn
   have hdn2:d<E.ntm∧d∉E.lock:=⟨hdn.1,by simpa using hdn.2⟩
   cases e
   obtain⟨c1,c2⟩:=mem2 hc
   refine core c1 c2 (fun v w' hp=> ?_)
   obtain⟨F',ρ',hr⟩:=relOf (some d) v w' r.v (fun d' h=>by cases h;exact hdn2) c1 hp (fun _ _ h=>h) rfl
   rw[hdst];exact hK F' ρ' _ _ hr
  ·cases e
 ·rename_i hdst
  simp only at hg
  rw[if_pos hg]
  cases e
  obtain⟨c1,c2⟩:=mem2 hc
  refine core c1 c2 (fun v w' hp=> ?_)
  obtain⟨F',ρ',hr⟩:=relOf none v w' r.v (fun d' h=>by cases h) c1 hp (fun _ _ h=>h) rfl
  rw[hdst];exact hK F' ρ' _ _ hr
 ·rename_i p d hdst
  simp only at hg
  split at e
  ·rename_i hdn
   simp only[Bool.and_eq_true,decide_eq_true_eq,List.isEmpty_iff,Bool.not_eq_true',List.all_eq_true] at hdn
   obtain⟨⟨⟨⟨hdn,hlk⟩,hz2⟩,hzt⟩,hnl⟩:=hdn
   have hlk:d∉E.lock:=by simpa using hlk
   cases e
   by_cases hp:p
   ·rw[if_pos (hg.2 hp)]
    have hall:∀c,c∈cs0++r.cs→c:=fun c hcm=>hc (p→c) (List.mem_map.2 ⟨c,hcm,rfl⟩) hp
    obtain⟨c1,c2⟩:=mem2 hall
    refine core c1 c2 (fun v w' hpo=> ?_)
    obtain⟨F',ρ',hr⟩:=relOf (some d) v w' (.opt p r.v) (fun d' h=>by cases h;exact⟨hdn,hlk⟩) c1 hpo (fun _ _ h=>repAV_nt rfl ⟨fun _=>repA_nt h hzt,fun hn=>absurd hp hn⟩) rfl
    rw[hdst]
    exact hK F' ρ' _ _ hr
   ·rw[if_neg (fun h=>hp (hg.1 h))]
    rw[hdst]
    obtain⟨ρ',hR',hLL⟩:=R.rel.ghost (r:=r) hnew hz2 (fun p hp=>hnl p hp)
    refine hK F ρ' _ _ ⟨by rw[hl_hp];exact hR',R.below,R.up,R.glob,R.le,R.base, ?_, ?_,by rw[put_size];exact R.ntm,by rw[put_defers];exact R.defers,fun n u hu=>by
     rw[put_get a (some d) undef n (fun k hk=>by cases hk;rw[R.ntm];exact hdn),if_neg (fun h=>by cases h;exact hlk (R.lock _ u hu))];exact R.fixed n u hu,R.lock⟩
    ·intro n av' hn
     simp only[look_cons] at hn
     rw[put_get a (some d) undef n (fun k hk=>by cases hk;rw[R.ntm];exact hdn)]
     split at hn
     ·rename_i h
      cases hn
      rw[if_pos (by rw[h])]
      exact repAV_nt rfl ⟨fun h=>absurd h hp,fun _=>rfl⟩
     ·rename_i h
      rw[if_neg (by simpa using fun h'=>h h'.symm),hl_hp]
      exact repAV_ext FH.le.rfl hLL (R.keys _ _ hn) (R.tm _ _ hn)
    ·intro n av' hn k hk
     simp only[look_cons] at hn
     split at hn
     ·cases hn
      simp only[AV.keys] at hk
      rw[hl_hp]
      rcases hkeys k hk with h|h
      ·exact isSome_L _ _ _ (evalArgs_keys R _ _ _ _ _ e1 k (by simpa using h))
      ·exact isSome_new _ _ _ h
     ·rw[hl_hp];exact isSome_L _ _ _ (R.keys _ _ hn k hk)
  ·cases e
 ·cases e
end
end Lc
