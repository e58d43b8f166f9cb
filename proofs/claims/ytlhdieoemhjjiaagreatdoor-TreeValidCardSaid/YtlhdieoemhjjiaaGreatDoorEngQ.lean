/- The engine, part Q: regions, in the order of the text and in any order. -/
import Derived.Test.YtlhdieoemhjjiaaGreatDoorEngOP
set_option linter.unusedVariables false
set_option linter.unusedSimpArgs false
namespace Lc
open Go Go.RowKit
section
variable {E : Env} {fix : Nat → Option Value} {F0 : FH} {w0 : Ctx} {ops : Array Oper} {Q : Exit → Act → World → Prop}
theorem run_sound (hE:Ok E):∀(os:List Oper) (l:List Nat) (st st':St) (a:Act) (w:World) (F:FH) (ρ:RM) (cs:List Prop),l.map (fun i=>ops[i]?)=os.map some→Rel E fix F0 w0 F ρ st a w→
 runOps E ops os st=some (cs,st')→(∀c,c∈cs→c)→(∀F' ρ' a' w',Rel E fix F0 w0 F' ρ' st' a' w'→Q .normal a' w')→wpOps E.P ops Q l a w:=by
 intro os
 induction os with
 |nil=>
  intro l st st' a w F ρ cs hl R e hc hQ
  cases l with
  |nil=>cases e;exact hQ _ _ _ _ R
  |cons i l=>simp at hl
 |cons o os ih=>
  intro l st st' a w F ρ cs hl R e hc hQ
  cases l with
  |nil=>simp at hl
  |cons i l=>
   simp only[List.map_cons,List.cons.injEq] at hl
   simp only[runOps] at e
   split at e
   ·cases e
   rename_i cs1 st1 e1
   split at e
   ·cases e
   rename_i cs2 st2 e2
   cases e
   obtain⟨c1,c2⟩:=mem2 hc
   have hs:=step_sound hE R e1 c1 (K:=wpOps E.P ops Q l) (fun F' ρ' a' w' R'=>ih l st1 _ a' w' F' ρ' cs2 hl.2 R' e2 c2 hQ) Q
   simp only[wpOps,hl.1]
   split
   ·rename_i hw;rw[if_pos hw] at hs;exact .inl hs
   ·rename_i hw;rw[if_neg hw] at hs;exact hs
def Eqv (s t:St):Prop:=(∀n,look n s.tm=look n t.tm)∧(∀k,look k s.hp=look k t.hp)
theorem Eqv.rfl' (s:St):Eqv s s:=⟨fun _=>rfl,fun _=>rfl⟩
theorem Eqv.trans {s t u:St}(h:Eqv s t)(k:Eqv t u):Eqv s u:=⟨fun n=>(h.1 n).trans (k.1 n),fun n=>(h.2 n).trans (k.2 n)⟩
theorem Eqv.symm {s t:St}(h:Eqv s t):Eqv t s:=⟨fun n=>(h.1 n).symm,fun n=>(h.2 n).symm⟩
theorem Rel.eqv {F:FH}{ρ:RM}{s t:St}{a:Act}{w:World}(R:Rel E fix F0 w0 F ρ s a w)(h:Eqv s t):Rel E fix F0 w0 F ρ t a w:=by
 have e:hl s.hp=hl t.hp:=funext h.2
 refine⟨by rw[←e];exact R.rel,R.below,R.up,R.glob,R.le,R.base,fun n av hn=> ?_,fun n av hn=> ?_,R.ntm,R.defers,R.fixed,R.lock⟩
 ·rw[←e];exact R.tm n av (by rw[h.1];exact hn)
 ·rw[←e];exact R.keys n av (by rw[h.1];exact hn)
theorem readL_congr {t:Ty}{lk:List (List Stp×Nat)}{hp hp':List (Nat×Option Blk)}:∀(ps:List (List Stp×Ty×Nat)),(∀k,k∈lk.map (·.2)→look k hp'=look k hp)→readL ⟨[],hp'⟩ t lk ps=readL ⟨[],hp⟩ t lk ps:=by
 intro ps h
 induction ps with
 |nil=>rfl
 |cons q ps ih=>
  obtain⟨p,u,m⟩:=q
  simp only[readL]
  rw[ih]
  split
  ·cases hq:lkAt p lk with
   |none=>rfl
   |some kk=>
    have hm:∀(l:List (List Stp×Nat)),lkAt p l=some kk→kk∈l.map (·.2):=by
     intro l
     induction l with
     |nil=>intro h;cases h
     |cons z l ihl=>
      obtain⟨z1,z2⟩:=z
      intro h
      simp only[lkAt] at h
      split at h
      ·cases h;simp
      ·simp only[List.map_cons,List.mem_cons];exact .inr (ihl h)
    have e:=h kk (hm lk hq)
    cases readL ⟨[],hp⟩ t lk ps with
    |none=>rfl
    |some l=>simp only[e]
  ·rfl
theorem evalOpH0_congr {hp hp':List (Nat×Option Blk)}{op:Op}{type:TypeId}{dst:Option Nat}{args:List (AV×Option Blk)}(h:touches op=true→∀k,k∈keysOf args→look k hp'=look k hp):
 evalOpH0 E hp' op type dst args=evalOpH0 E hp op type dst args:=by
 unfold evalOpH0
 split
 ·rename_i c f bb r d
  split
  ·rename_i pc _ _
   have h:=h rfl
   unfold evalPtr
   split
   ·rename_i k root b r'
    split
    ·rfl
    ·split
     ·rfl
     ·rw[readL_congr]
      intro kk hkk
      refine h kk ?_
      simp only[keysOf,List.flatMap_cons,List.mem_append,argKeys,blkKeys]
      exact .inr (.inl (.inr hkk))
   ·rfl
  ·split
   ·rename_i vc _
    have h:=h rfl
    unfold evalVal
    split
    ·rename_i u x0 lk b r'
     split
     ·rfl
     ·rw[readL_congr]
      intro kk hkk
      refine h kk ?_
      simp only[keysOf,List.flatMap_cons,List.mem_append,argKeys,AV.keys]
      exact .inr (.inl (.inl hkk))
    ·rfl
   ·rfl
  ·rfl
 ·rfl
theorem evalOpH_congr {hp hp':List (Nat×Option Blk)}{op:Op}{type:TypeId}{dst:Option Nat}{args:List (AV×Option Blk)}(h:touches op=true→∀k,k∈keysOf args→look k hp'=look k hp):
 evalOpH E hp' op type dst args=evalOpH E hp op type dst args:=by
 unfold evalOpH
 rw[evalOpH0_congr (fun ht k hk=>h ht k (keysOf_mask hk))]
theorem stepA_form {o:Oper}{st st':St}{cs:List Prop}(e:stepA E ops o st=some (cs,st')):
 ∃args cs0 g r add,evalArgs E st (isPick o.op) (touches o.op) o.op.operands.toList=some (args,cs0)∧guardP ops o st.tm=some g∧evalOpH E st.hp o.op o.type o.dst args=some r∧
  (∀p,p∈r.new→look p.1 st.hp=none)∧resOk o.op args r=true∧st'=⟨add++st.tm,r.hp st.hp⟩∧(∀n v,look n add=some v→o.dst=some n∧v.keys=r.v.keys)∧
  (∀st2,evalArgs E st2 (isPick o.op) (touches o.op) o.op.operands.toList=some (args,cs0)→guardP ops o st2.tm=some g→(∀p,p∈r.new→look p.1 st2.hp=none)→(touches o.op=true→∀k,k∈keysOf args→look k st2.hp=look k st.hp)→
    stepA E ops o st2=some (cs,⟨add++st2.tm,r.hp st2.hp⟩)):=by
 have e0:=e
 unfold stepA at e
 split at e
 ·cases e
 rename_i args cs0 e1
 split at e
 ·cases e
 rename_i g e2
 split at e
 ·cases e
 rename_i r e3
 split at e
 ·cases e
 rename_i hchk
 simp only[Bool.not_eq_true',Bool.not_eq_false,Bool.and_eq_true,List.all_eq_true,Option.isNone_iff_eq_none] at hchk
 obtain⟨⟨hn1,hn2⟩,hres⟩:=hchk
 have chk2:∀st2:St,(∀p,p∈r.new→look p.1 st2.hp=none)→(!(r.new.all (fun p=>(look p.1 st2.hp).isNone)&&nodupB (r.new.map (·.1))&&resOk o.op args r))=false:=by
  intro st2 h
  simp only[Bool.not_eq_false',Bool.and_eq_true,List.all_eq_true,Option.isNone_iff_eq_none]
  exact⟨⟨h,hn2⟩,hres⟩
 split at e
 ·rename_i d hdst
  split at e
  ·rename_i hd
   cases e
   refine⟨args,cs0,none,r,[(d,r.v)],e1,e2,e3,hn1,hres,rfl, ?_, ?_⟩
   ·intro n v h
    rw[look_cons] at h
    split at h
    ·rename_i hh;cases h;rw[hh];exact⟨hdst,rfl⟩
    ·cases h
   ·intro st2 h1 h2 h3 h4
    unfold stepA
    rw[h1];simp only;rw[h2];simp only;rw[evalOpH_congr h4,e3];simp only
    rw[chk2 st2 h3]
    simp only[Bool.false_eq_true,if_false]
    rw[hdst]
    simp only[hd,if_true]
    rfl
  ·cases e
 ·rename_i hdst
  cases e
  refine⟨args,cs0,none,r,[],e1,e2,e3,hn1,hres,rfl, ?_, ?_⟩
  ·intro n v h;cases h
  ·intro st2 h1 h2 h3 h4
   unfold stepA
   rw[h1];simp only;rw[h2];simp only;rw[evalOpH_congr h4,e3];simp only
   rw[chk2 st2 h3]
   simp only[Bool.false_eq_true,if_false]
   rw[hdst]
   rfl
 ·rename_i p d hdst
  split at e
  ·rename_i hd
   have hd0:=hd
   simp only[Bool.and_eq_true,decide_eq_true_eq,List.isEmpty_iff,Bool.not_eq_true'] at hd
   cases e
   refine⟨args,cs0,some p,r,[(d,.opt p r.v)],e1,e2,e3,hn1,hres,rfl, ?_, ?_⟩
   ·intro n v h
    rw[look_cons] at h
    split at h
    ·rename_i hh;cases h;rw[hh];exact⟨hdst,rfl⟩
    ·cases h
   ·intro st2 h1 h2 h3 h4
    unfold stepA
    rw[h1];simp only;rw[h2];simp only;rw[evalOpH_congr h4,e3];simp only
    rw[chk2 st2 h3]
    simp only[Bool.false_eq_true,if_false]
    rw[hdst]
    simp only[hd0,if_true]
    rfl
  ·cases e
 ·cases e
theorem look_hp (r:Res)(hp:List (Nat×Option Blk))(n:Nat):look n (r.hp hp)=r.L (hl hp) n:=congrFun (hl_hp r hp) n
theorem evalArgs_same {s t:St}(pk tc:Bool):∀(xs:List Operand),(∀n,n∈(xs.filterMap fun| .tmp t=>some t|_=>none)→look n s.tm=look n t.tm)→
 (tc=true→∀x av,x∈xs→evalO E s.tm x=some av→blkOf s.hp av=blkOf t.hp av)→evalArgs E s pk tc xs=evalArgs E t pk tc xs:=by
 intro xs
 induction xs with
 |nil=>intro _ _;rfl
 |cons x xs ih=>
  intro h1 h2
  have hx:evalO E s.tm x=evalO E t.tm x:=by
   cases x with
   |tmp n=>exact h1 n (by simp)
   |_=>rfl
  have hi:=ih (fun n hn=>h1 n (by cases x<;>simp_all)) (fun htc y av hy=>h2 htc y av (by simp[hy]))
  simp only[evalArgs,←hx,←hi]
  split
  ·rfl
  ·rename_i av hav
   split
   ·rfl
   ·split
    ·rfl
    ·cases tc
     ·rfl
     ·rw[h2 rfl x av (by simp) hav]
theorem guardP_same {s t:List (Nat×AV)}{o:Oper}(h:∀n,n∈(match o.guard with|some (g,_)=>((ops[g]?).bind (·.dst)).toList|none=>[])→look n s=look n t):guardP ops o s=guardP ops o t:=by
 unfold guardP
 split
 ·rfl
 ·rename_i g b hg
  rw[hg] at h
  simp only at h
  split
  ·rfl
  ·rename_i d hd
   rw[hd] at h
   rw[h d (by simp)]
theorem stepA_congr {o:Oper}{s t s':St}{cs:List Prop}(h:Eqv s t)(e:stepA E ops o s=some (cs,s')):∃t',stepA E ops o t=some (cs,t')∧Eqv s' t':=by
 obtain⟨args,cs0,g,r,add,e1,e2,e3,e4,e5,rfl,e6,e7⟩:=stepA_form e
 refine⟨_,e7 t ?_ ?_ ?_ (fun _ k _=>(h.2 k).symm), ?_, ?_⟩
 ·rw[←e1]
  refine(evalArgs_same _ _ _ (fun n _=>h.1 n) (fun _ x av _ _=> ?_)).symm
  unfold blkOf
  split
  ·rfl
  ·rw[h.2]
 ·rw[←e2];exact(guardP_same (fun n _=>h.1 n)).symm
 ·intro p hp;rw[←h.2];exact e4 p hp
 ·intro n;simp only[look_append,h.1]
 ·intro k;rw[look_hp,look_hp,show hl s.hp=hl t.hp from funext h.2]
theorem runOps_congr :∀(os:List Oper) (s t s':St) (cs:List Prop),Eqv s t→runOps E ops os s=some (cs,s')→∃t',runOps E ops os t=some (cs,t')∧Eqv s' t':=by
 intro os
 induction os with
 |nil=>intro s t s' cs h e;cases e;exact⟨t,rfl,h⟩
 |cons o os ih=>
  intro s t s' cs h e
  simp only[runOps] at e
  split at e
  ·cases e
  rename_i cs1 s1 e1
  split at e
  ·cases e
  rename_i cs2 s2 e2
  cases e
  obtain⟨t1,f1,f2⟩:=stepA_congr h e1
  obtain⟨t2,g1,g2⟩:=ih _ _ _ _ f2 e2
  exact⟨t2,by simp only[runOps,f1,g1],g2⟩
def Wf (st:St):Prop:=(∀n av,look n st.tm=some av→∀k,k∈av.keys→(look k st.hp).isSome)∧∀kb b,look kb st.hp=some (some b)→∀p k,(p,k)∈b.lk→(look k st.hp).isSome
theorem key_keys :∀(av:AV) (k:Nat),av.key=some k→k∈av.keys:=by
 intro av
 induction av with
 |opt p a ih=>intro k h;exact ih k h
 |ptr k r p=>intro k' h;simp[AV.key] at h;simp[AV.keys,h]
 |whole k r p=>intro k' h;simp[AV.key] at h;simp[AV.keys,h]
 |sub k r p o n=>intro k' h;simp[AV.key] at h;simp[AV.keys,h]
 |mref k=>intro k' h;simp[AV.key] at h;simp[AV.keys,h]
 |_=>intro k h;simp[AV.key] at h
theorem evalO_keys {st:St}(hw:Wf st){x:Operand}{av:AV}(e:evalO E st.tm x=some av):∀k,k∈av.keys→(look k st.hp).isSome:=by
 cases x with
 |tmp t=>exact hw.1 _ _ e
 |const v=>simp only[evalO,Option.some.injEq] at e;subst e;rw[const_keys];intro k hk;cases hk
 |global g=>
  simp only[evalO] at e
  split at e
  ·cases e;intro k hk;cases hk
  ·cases e
 |func f=>simp only[evalO,Option.some.injEq] at e;subst e;intro k hk;cases hk
theorem writes_touches (op:Op)(h:writes op=true):touches op=true:=by
 cases op<;>simp[writes] at h<;>rfl
theorem look_none {l:List (Nat×Blk)}{k:Nat}(h:∀p,p∈l→p.1≠k):look k l=none:=by
 induction l with
 |nil=>rfl
 |cons p l ih=>
  obtain⟨k1,b⟩:=p
  rw[look_cons,if_neg (fun e=>h _ List.mem_cons_self e.symm)]
  exact ih (fun q hq=>h q (List.mem_cons_of_mem _ hq))
theorem looks_ops (o:Oper):∀n,n∈(o.op.operands.toList.filterMap fun| .tmp t=>some t|_=>none)→n∈Oper.looks ops o:=fun _ h=>List.mem_append_left _ h
theorem looks_guard (o:Oper):∀n,n∈(match o.guard with|some (g,_)=>((ops[g]?).bind (·.dst)).toList|none=>[])→n∈Oper.looks ops o:=fun _ h=>List.mem_append_right _ h
theorem argsKeys_wf {st:St}(hw:Wf st)(pk tc:Bool):∀(xs:List Operand) (args:List (AV×Option Blk)) (cs:List Prop),evalArgs E st pk tc xs=some (args,cs)→
 ∀k,k∈keysOf args→(look k st.hp).isSome:=by
 intro xs
 induction xs with
 |nil=>intro args cs e;cases e;intro k hk;cases hk
 |cons x xs ih=>
  intro args cs e
  simp only[evalArgs] at e
  split at e
  ·cases e
  rename_i av hav
  have h2:=evalO_keys hw hav
  split at e
  ·cases e
  rename_i l cs' e'
  have i2:=ih _ _ e'
  have h3:∀k,k∈blkKeys (if tc then blkOf st.hp av else none)→(look k st.hp).isSome:=by
   intro k hk
   cases tc
   ·simp[blkKeys] at hk
   ·simp only[if_true] at hk
    cases hb:blkOf st.hp av with
    |none=>rw[hb] at hk;simp[blkKeys] at hk
    |some b=>
     rw[hb] at hk
     simp only[blkKeys,List.mem_map] at hk
     obtain⟨⟨p,k'⟩,hq,rfl⟩:=hk
     rw[blkOf_eq] at hb
     obtain⟨kb,_,hL⟩:=blkF_some hb.symm
     exact hw.2 kb b hL p k' hq
  split at e
  ·cases e
   intro k hk
   simp only[keysOf,List.flatMap_cons,List.mem_append,argKeys,blkKeys,List.not_mem_nil,or_false] at hk
   rcases hk with hk|hk
   ·exact h2 k hk
   ·exact i2 k hk
  ·cases e
   intro k hk
   simp only[keysOf,List.flatMap_cons,List.mem_append,argKeys,(strip_key av).2] at hk
   rcases hk with(hk|hk)|hk
   ·exact h2 k hk
   ·exact h3 k hk
   ·exact i2 k hk
theorem evalArgs_in {st:St}(pk tc:Bool):∀(xs:List Operand) (args:List (AV×Option Blk)) (cs:List Prop),evalArgs E st pk tc xs=some (args,cs)→
 ∀z av,z∈xs→evalO E st.tm z=some av→∀k,k∈av.keys→k∈keysOf args:=by
 intro xs
 induction xs with
 |nil=>intro args cs e z av hz;cases hz
 |cons x xs ih=>
  intro args cs e z av hz hav k hk
  simp only[evalArgs] at e
  split at e
  ·cases e
  rename_i a ha
  split at e
  ·cases e
  rename_i l cs' e'
  rcases List.mem_cons.1 hz with rfl|hz
  ·rw[ha] at hav;cases hav
   split at e<;>cases e<;>simp only[keysOf,List.flatMap_cons,List.mem_append,argKeys,(strip_key av).2]<;>exact .inl (.inl hk)
  ·have:=ih _ _ e' z av hz hav k hk
   split at e<;>cases e<;>simp only[keysOf,List.flatMap_cons,List.mem_append]<;>exact .inr this
def Res.dom (r:Res)(k:Nat):Prop:=(∃p,p∈r.new∧p.1=k)∨(∃p,p∈r.set∧p.1=k)∨k∈r.kill
theorem L_out {r:Res}{k:Nat}(h:¬r.dom k)(L:HL):r.L L k=L k:=by
 have h1:look k r.new=none:=look_none (fun p hp e=>h (.inl ⟨p,hp,e⟩))
 have h2:look k r.set=none:=look_none (fun p hp e=>h (.inr (.inl ⟨p,hp,e⟩)))
 have h3:¬(k∈r.kill):=fun e=>h (.inr (.inr e))
 simp[Res.L,h1,h2,h3]
theorem look_is {l:List (Nat×Blk)}{k:Nat}(h:∃p,p∈l∧p.1=k):∃b,look k l=some b:=by
 cases hq:look k l with
 |some b=>exact⟨b,rfl⟩
 |none=>
  exfalso
  obtain⟨p,p1,p2⟩:=h
  induction l with
  |nil=>cases p1
  |cons q l ih=>
   obtain⟨k1,b1⟩:=q
   rw[look_cons] at hq
   split at hq
   ·cases hq
   ·rename_i hne
    rcases List.mem_cons.1 p1 with rfl|h
    ·exact hne p2.symm
    ·exact ih hq h
theorem L_in {r:Res}{k:Nat}(h:r.dom k)(L L':HL):r.L L k=r.L L' k:=by
 simp only[Res.L]
 rcases h with h|h|h
 ·obtain⟨b,hb⟩:=look_is h;simp[hb]
 ·obtain⟨b,hb⟩:=look_is h
  cases look k r.new<;>simp[hb]
 ·cases look k r.new<;>cases look k r.set<;>simp[h]
theorem args_past {x y:Oper}{st:St}{rx:Res}{addx:List (Nat×AV)}(hw:Wf st)(hax:∀n v,look n addx=some v→x.dst=some n)(hnx:∀p,p∈rx.new→look p.1 st.hp=none)
 (hd:∀d,x.dst=some d→d∉Oper.looks ops y) (hk:touches y.op=true→∀z av,z∈y.op.operands.toList→evalO E st.tm z=some av→∀k,k∈av.keys→¬rx.dom k∨(∃p,p∈rx.new∧p.1=k)):
 evalArgs E ⟨addx++st.tm,rx.hp st.hp⟩ (isPick y.op) (touches y.op) y.op.operands.toList=evalArgs E st (isPick y.op) (touches y.op) y.op.operands.toList∧guardP ops y (addx++st.tm)=guardP ops y st.tm∧
 (∀z,z∈y.op.operands.toList→evalO E (addx++st.tm) z=evalO E st.tm z):=by
 have hlk:∀n,n∈Oper.looks ops y→look n (addx++st.tm)=look n st.tm:=by
  intro n hn
  rw[look_append]
  cases hq:look n addx with
  |none=>rfl
  |some v=>exact absurd hn (hd n (hax n v hq))
 refine⟨?_, ?_, ?_⟩
 ·refine(evalArgs_same (s:=st) (t:=⟨addx++st.tm,rx.hp st.hp⟩) _ _ _ (fun n hn=>(hlk n (looks_ops y n hn)).symm) (fun htc z av hz hav=> ?_)).symm
  have hkeys:=evalO_keys hw hav
  unfold blkOf
  split
  ·rfl
  ·rename_i k hk1
   have hk2:=key_keys av k hk1
   have:look k (rx.hp st.hp)=look k st.hp:=by
    rw[look_hp]
    rcases hk htc z av hz hav k hk2 with h|⟨p,p1,p2⟩
    ·exact L_out h _
    ·have h1:=hnx p p1
     rw[p2] at h1
     have h2:=hkeys k hk2
     rw[h1] at h2;cases h2
   rw[this]
 ·exact guardP_same (fun n hn=>hlk n (looks_guard y n hn))
 ·intro z hz
  cases z with
  |tmp n=>exact hlk n (looks_ops y n (by simp only[List.mem_filterMap];exact⟨_,hz,rfl⟩))
  |_=>rfl
def FootAt (E:Env)(o:Oper)(f:List Nat×List Nat)(st:St):Prop:=∀args cs,evalArgs E st (isPick o.op) (touches o.op) o.op.operands.toList=some (args,cs)→(keysOf args,wrKeys E st.hp o args)=f
theorem swap {x y:Oper}{fx fy:List Nat×List Nat}{st s1 s2:St}{c1 c2:List Prop}(hw:Wf st)(hi:indep ops x fx y fy=true)(e1:stepA E ops x st=some (c1,s1))(e2:stepA E ops y s1=some (c2,s2))
 (hfx:FootAt E x fx st) (hfy:FootAt E y fy s1):
 ∃t1 t2,stepA E ops y st=some (c2,t1)∧stepA E ops x t1=some (c1,t2)∧Eqv s2 t2∧FootAt E y fy st∧FootAt E x fx t1:=by
 simp only[indep,Bool.and_eq_true,Bool.or_eq_true,Bool.not_eq_true',Bool.and_eq_false_iff] at hi
 obtain⟨⟨⟨h1,h2⟩,h3⟩,h4⟩:=hi
 have hdx:∀d,x.dst=some d→d∉Oper.looks ops y∧y.dst≠some d:=by
  intro d hd
  rw[hd] at h1
  simp only[Bool.and_eq_true,Bool.not_eq_true',bne_iff_ne,ne_eq] at h1
  exact⟨by simpa using h1.1,h1.2⟩
 have hdy:∀d,y.dst=some d→d∉Oper.looks ops x:=by
  intro d hd
  rw[hd] at h2
  simpa using h2
 have dis:∀{a b:List Nat},disj a b=true→∀k,k∈a→k∈b→False:=by
  intro a b h k ha hb
  simp only[disj,List.all_eq_true] at h
  have:=h k ha
  simp[hb] at this
 have hxy:writes x.op=true→touches y.op=true→∀k,k∈fx.2→k∈fy.1→False:=by
  intro a b
  rcases h3 with(h|h)|h
  ·simp[a] at h
  ·simp[b] at h
  ·exact dis h
 have hyx:writes y.op=true→touches x.op=true→∀k,k∈fx.1→k∈fy.2→False:=by
  intro a b
  rcases h4 with(h|h)|h
  ·simp[b] at h
  ·simp[a] at h
  ·exact dis h
 obtain⟨ax,cx,gx,rx,addx,a1,a2,a3,a4,a5,rfl,a6,a7⟩:=stepA_form e1
 obtain⟨ay,cy,gy,ry,addy,b1,b2,b3,b4,b5,rfl,b6,b7⟩:=stepA_form e2
 have kx0:=hfx _ _ a1
 have ky0:=hfy _ _ b1
 have kx:keysOf ax=fx.1:=by rw[←kx0]
 have ky:keysOf ay=fy.1:=by rw[←ky0]
 have wx:rx.set.map (·.1)++rx.kill=fx.2:=by rw[←kx0];simp only[wrKeys,a3]
 have wy:ry.set.map (·.1)++ry.kill=fy.2:=by rw[←ky0];simp only[wrKeys,b3]
 have inW:∀{o:Oper} {args:List (AV×Option Blk)} {r:Res} {k:Nat},resOk o.op args r=true→r.dom k→(∃p,p∈r.new∧p.1=k)∨(writes o.op=true∧k∈keysOf args∧k∈r.set.map (·.1)++r.kill):=by
  intro o args r k h hdm
  simp only[resOk,Bool.and_eq_true,Bool.or_eq_true,List.isEmpty_iff,List.all_eq_true] at h
  obtain⟨⟨⟨⟨_,g1⟩,g2,g3⟩,_⟩,_⟩:=h
  rcases hdm with hdm|⟨p,p1,p2⟩|hk
  ·exact .inl hdm
  ·refine .inr ⟨?_, ?_, ?_⟩
   ·rcases g1 with g|⟨g,_⟩
    ·exact g
    ·rw[g] at p1;cases p1
   ·have:=g2 p p1;rw[p2] at this;simpa using this
   ·exact List.mem_append_left _ (List.mem_map.2 ⟨p,p1,p2⟩)
  ·refine .inr ⟨?_, ?_,List.mem_append_right _ hk⟩
   ·rcases g1 with g|⟨_,g⟩
    ·exact g
    ·rw[g] at hk;cases hk
   ·have:=g3 k hk;simpa using this
 have newT:∀{o:Oper} {args:List (AV×Option Blk)} {r:Res},resOk o.op args r=true→(∃k,r.dom k)→touches o.op=true:=by
  rintro o args r h ⟨k,hdm⟩
  rcases inW h hdm with⟨p,p1,p2⟩|⟨g,_⟩
  ·simp only[resOk,Bool.and_eq_true,Bool.or_eq_true,List.isEmpty_iff] at h
   rcases h.1.1.1.1 with g|g
   ·exact g
   ·rw[g] at p1;cases p1
  ·exact writes_touches _ g
 have hlk1:∀z,z∈y.op.operands.toList→evalO E (addx++st.tm) z=evalO E st.tm z:=by
  intro z hz
  cases z with
  |tmp n=>
   have hn:n∈Oper.looks ops y:=looks_ops y n (by simp only[List.mem_filterMap];exact⟨_,hz,rfl⟩)
   simp only[evalO,look_append]
   cases hq:look n addx with
   |none=>rfl
   |some v=>exact absurd hn (hdx n (a6 n v hq).1).1
  |_=>rfl
 obtain⟨py1,py2,_⟩:=args_past (E:=E) (ops:=ops) (y:=y) (rx:=rx) hw (fun n v h=>(a6 n v h).1) a4 (fun d hd=>(hdx d hd).1) (fun ht z av hz hav k hk=>by
  by_cases hdm:rx.dom k
  ·rcases inW a5 hdm with g|⟨g1,_,g2⟩
   ·exact .inr g
   ·refine absurd ?_ (fun h=>hxy g1 ht k (by rw[←wx];exact g2) h)
    rw[←ky]
    exact evalArgs_in _ _ _ _ _ b1 z av hz (by simp only;rw[hlk1 z hz];exact hav) k hk
  ·exact .inl hdm)
 have hny:∀p,p∈ry.new→look p.1 st.hp=none:=by
  intro p hp
  have:=b4 p hp
  simp only at this
  rw[look_hp] at this
  cases hq:look p.1 st.hp with
  |none=>rfl
  |some v=>
   have h':=isSome_L rx (hl st.hp) p.1 (by simp[hl,hq])
   rw[this] at h';cases h'
 have b1':evalArgs E st (isPick y.op) (touches y.op) y.op.operands.toList=some (ay,cy):=by rw[←py1];exact b1
 have keyS0:∀{args:List (AV×Option Blk)} {k:Nat} {pk tc:Bool} {xs:List Operand} {cs:List Prop},evalArgs E st pk tc xs=some (args,cs)→k∈keysOf args→(look k st.hp).isSome:=fun h hk=>argsKeys_wf hw _ _ _ _ _ h _ hk
 have sameY:touches y.op=true→∀k,k∈keysOf ay→look k st.hp=look k (rx.hp st.hp):=by
  intro ht k hk
  rw[look_hp]
  by_cases hdm:rx.dom k
  ·rcases inW a5 hdm with⟨p,p1,p2⟩|⟨g1,_,g2⟩
   ·have h7:=keyS0 b1' hk
    rw[←p2,a4 p p1] at h7;cases h7
   ·exact(hxy g1 ht k (by rw[←wx];exact g2) (by rw[←ky];exact hk)).elim
  ·exact(L_out hdm (hl st.hp)).symm
 have sameX:touches x.op=true→∀k,k∈keysOf ax→look k (ry.hp st.hp)=look k st.hp:=by
  intro ht k hk
  rw[look_hp]
  by_cases hdm:ry.dom k
  ·rcases inW b5 hdm with⟨p,p1,p2⟩|⟨g1,_,g2⟩
   ·have h7:=keyS0 a1 hk
    rw[←p2,hny p p1] at h7;cases h7
   ·exact(hyx g1 ht k (by rw[←kx];exact hk) (by rw[←wy];exact g2)).elim
  ·exact L_out hdm (hl st.hp)
 have f1:=b7 st b1' (by rw[←py2];exact b2) hny sameY
 obtain⟨px1,px2,_⟩:=args_past (E:=E) (ops:=ops) (y:=x) (rx:=ry) hw (fun n v h=>(b6 n v h).1) hny hdy (fun ht z av hz hav k hk=>by
  by_cases hdm:ry.dom k
  ·rcases inW b5 hdm with g|⟨g1,_,g2⟩
   ·exact .inr g
   ·exact absurd (evalArgs_in _ _ _ _ _ a1 z av hz hav k hk) (fun h=>hyx g1 ht k (by rw[←kx];exact h) (by rw[←wy];exact g2))
  ·exact .inl hdm)
 have apart:∀p q,p∈rx.new→q∈ry.new→p.1≠q.1:=by
  intro p q hp hq e
  have h5:=b4 q hq
  simp only at h5
  rw[look_hp,←e] at h5
  have h6:=isSome_new rx (hl st.hp) p.1 (by simp only[List.contains_iff_mem,List.mem_map];exact⟨p,hp,rfl⟩)
  rw[h5] at h6;cases h6
 have keyS:∀{args:List (AV×Option Blk)} {k:Nat} {pk tc:Bool} {xs:List Operand} {cs:List Prop},evalArgs E st pk tc xs=some (args,cs)→k∈keysOf args→(look k st.hp).isSome:=fun h hk=>argsKeys_wf hw _ _ _ _ _ h _ hk
 have domd:∀k,rx.dom k→ry.dom k→False:=by
  intro k hx hy
  rcases inW a5 hx with⟨p,p1,p2⟩|⟨g1,g2,g5⟩
  ·rcases inW b5 hy with⟨q,q1,q2⟩|⟨g3,g4,_⟩
   ·exact apart p q p1 q1 (p2.trans q2.symm)
   ·have h7:=keyS b1' g4
    rw[←p2,a4 p p1] at h7;cases h7
  ·rcases inW b5 hy with⟨q,q1,q2⟩|⟨g3,g4,_⟩
   ·have h7:=keyS a1 g2
    rw[←q2,hny q q1] at h7;cases h7
   ·exact hxy g1 (writes_touches _ g3) k (by rw[←wx];exact g5) (by rw[←ky];exact g4)
 have hnx2:∀p,p∈rx.new→look p.1 (ry.hp st.hp)=none:=by
  intro p hp
  rw[look_hp,L_out (fun h=>domd p.1 (.inl ⟨p,hp,rfl⟩) h)]
  exact a4 p hp
 have a1':evalArgs E ⟨addy++st.tm,ry.hp st.hp⟩ (isPick x.op) (touches x.op) x.op.operands.toList=some (ax,cx):=by rw[px1];exact a1
 have f2:=a7 ⟨addy++st.tm,ry.hp st.hp⟩ a1' (by rw[px2];exact a2) hnx2 sameX
 refine⟨_,_,f1,f2,⟨?_, ?_⟩, ?_, ?_⟩
 ·intro n
  simp only[look_append]
  cases hq:look n addy with
  |none=>simp
  |some v=>
   cases hq2:look n addx with
   |none=>simp
   |some u=>exact absurd (b6 n v hq).1 (hdx n (a6 n u hq2).1).2
 ·intro k
  simp only
  rw[look_hp,look_hp,hl_hp,hl_hp]
  by_cases hx:rx.dom k
  ·rw[L_out (fun h=>domd k hx h)];exact L_in hx _ _
  ·rw[L_out hx]
   by_cases hy:ry.dom k
   ·exact L_in hy _ _
   ·rw[L_out hy,L_out hy,L_out hx]
 ·intro args cs h;rw[b1'] at h;cases h;rw[←ky0];simp only[wrKeys];rw[evalOpH_congr sameY]
 ·intro args cs h;rw[a1'] at h;cases h;rw[←kx0];simp only[wrKeys];rw[evalOpH_congr sameX]
theorem Wf.step {o:Oper}{st st':St}{cs:List Prop}(hw:Wf st)(e:stepA E ops o st=some (cs,st')):Wf st':=by
 obtain⟨args,cs0,g,r,add,e1,e2,e3,e4,e5,rfl,e6,e7⟩:=stepA_form e
 have e5':=e5
 simp only[resOk,Bool.and_eq_true,List.all_eq_true,Bool.or_eq_true,List.isEmpty_iff] at e5
 obtain⟨⟨_,hnl,hsl⟩,hks⟩:=e5
 refine⟨?_, ?_⟩
 ·intro n av hn k hk
  simp only[look_append] at hn
  simp only
  rw[look_hp]
  split at hn
  ·rename_i v hv
   cases hn
   rw[(e6 n _ hv).2] at hk
   rcases hks k hk with h|h
   ·exact isSome_L _ _ _ (argsKeys_wf hw _ _ _ _ _ e1 k (by simpa using h))
   ·exact isSome_new _ _ _ h
  ·exact isSome_L _ _ _ (hw.1 n av hn k hk)
 ·intro kb b hb p k hm
  simp only at hb⊢
  rw[look_hp] at hb⊢
  simp only[Res.L] at hb
  cases hq:look kb r.new with
  |some b'=>
   rw[hq] at hb
   cases hb
   obtain⟨q,q1,q2⟩:=lookIn _ hq
   have:=hnl q q1 (p,k) (by rw[q2];exact hm)
   rcases this with this|this
   ·exact isSome_L _ _ _ (argsKeys_wf hw _ _ _ _ _ e1 k (by simpa using this))
   ·exact isSome_new _ _ _ this
  |none=>
   rw[hq] at hb
   simp only at hb
   cases hq2:look kb r.set with
   |some b'=>
    rw[hq2] at hb
    cases hb
    obtain⟨q,q1,q2⟩:=lookIn _ hq2
    have:=hsl q q1 (p,k) (by rw[q2];exact hm)
    rcases this with this|this
    ·exact isSome_L _ _ _ (argsKeys_wf hw _ _ _ _ _ e1 k (by simpa using this))
    ·exact isSome_new _ _ _ this
   |none=>
    rw[hq2] at hb
    simp only at hb
    split at hb
    ·cases hb
    ·exact isSome_L _ _ _ (hw.2 kb b hb p k hm)
theorem Wf.eqv {s t:St}(hw:Wf s)(h:Eqv s t):Wf t:=by
 refine⟨fun n av hn k hk=> ?_,fun kb b hb p k hm=> ?_⟩
 ·rw[←h.2];exact hw.1 n av (by rw[h.1];exact hn) k hk
 ·rw[←h.2];exact hw.2 kb b (by rw[h.2];exact hb) p k hm
def Foots (E:Env)(ops:Array Oper):List (Oper×List Nat×List Nat)→St→Prop
 |[],_=>True
 |p::r,st=>FootAt E p.1 p.2 st∧∀cs st',stepA E ops p.1 st=some (cs,st')→Foots E ops r st'
theorem FootAt.eqv {o:Oper}{f:List Nat×List Nat}{s t:St}(h:FootAt E o f s)(he:Eqv s t):FootAt E o f t:=by
 intro args cs e
 have hw:wrKeys E t.hp o args=wrKeys E s.hp o args:=by
  simp only[wrKeys];rw[evalOpH_congr (fun _ k _=>(he.2 k).symm)]
 rw[hw]
 refine h args cs ?_
 rw[←e]
 refine evalArgs_same _ _ _ (fun n _=>he.1 n) (fun _ x av _ _=> ?_)
 unfold blkOf
 split
 ·rfl
 ·rw[he.2]
theorem Foots.eqv :∀{l:List (Oper×List Nat×List Nat)} {s t:St},Foots E ops l s→Eqv s t→Foots E ops l t:=by
 intro l
 induction l with
 |nil=>intro s t _ _;trivial
 |cons p l ih=>
  rintro s t ⟨h1,h2⟩ he
  refine⟨h1.eqv he,fun cs t' e=> ?_⟩
  obtain⟨s',f1,f2⟩:=stepA_congr he.symm e
  exact ih (h2 _ _ f1) f2.symm
theorem move_front {o:Oper×List Nat×List Nat}:∀(p q:List (Oper×List Nat×List Nat)) (st s':St) (cs:List Prop),Wf st→(∀x,x∈p→indep ops x.1 x.2 o.1 o.2=true)→Foots E ops (p++o::q) st→runOps E ops ((p++o::q).map (·.1)) st=some (cs,s')→(∀c,c∈cs→c)→
 ∃cs' t',runOps E ops ((o::(p++q)).map (·.1)) st=some (cs',t')∧(∀c,c∈cs'→c)∧Eqv s' t'∧Foots E ops (o::(p++q)) st:=by
 intro p
 induction p with
 |nil=>intro q st s' cs _ _ hf e hc;exact⟨cs,s',e,hc,Eqv.rfl' _,hf⟩
 |cons x p ih=>
  intro q st s' cs hw hi hf e hc
  rw[List.cons_append] at e hf
  obtain⟨hfx,hf⟩:=hf
  simp only[List.map_cons,runOps] at e
  split at e
  ·cases e
  rename_i c1 s1 e1
  split at e
  ·cases e
  rename_i c2 s2 e2
  cases e
  obtain⟨d1,d2⟩:=mem2 hc
  obtain⟨cs',t',f1,f2,f3,hff⟩:=ih q s1 _ c2 (hw.step e1) (fun y hy=>hi y (by simp[hy])) (hf _ _ e1) e2 d2
  simp only[List.map_cons,runOps] at f1
  split at f1
  ·cases f1
  rename_i c3 s3 e3
  split at f1
  ·cases f1
  rename_i c4 s4 e4
  cases f1
  obtain⟨hfo,hff⟩:=hff
  obtain⟨t1,t2,g1,g2,g3,g4,g5⟩:=swap hw (hi x (by simp)) e1 e3 hfx hfo
  obtain⟨t4,k1,k2⟩:=runOps_congr _ _ _ _ _ g3 e4
  obtain⟨u1,u2⟩:=mem2 f2
  refine⟨c3++(c1++c4),t4, ?_, ?_,f3.trans k2, ?_⟩
  ·simp only[List.map_cons,runOps,List.cons_append,g1,g2,k1]
  ·intro c hcm
   rcases List.mem_append.1 hcm with h|h
   ·exact u1 c h
   ·rcases List.mem_append.1 h with h|h
    ·exact d1 c h
    ·exact u2 c h
  ·refine⟨g4,fun cs st' e=> ?_⟩
   rw[g1] at e;cases e
   refine⟨g5,fun cs st' e=> ?_⟩
   rw[g2] at e;cases e
   exact(hff _ _ e3).eqv g3
def opsAt (ops:Array Oper)(l:List Nat):List Oper:=l.filterMap (fun i=>ops[i]?)
def opsF (ops:Array Oper)(fs:List (List Nat×List Nat))(l:List Nat):List (Oper×List Nat×List Nat):=l.filterMap (fun i=>(ops[i]?).map (fun o=>(o,fs.getD i ([],[]))))
theorem opsF_fst (ops:Array Oper)(fs:List (List Nat×List Nat))(l:List Nat):(opsF ops fs l).map (·.1)=opsAt ops l:=by
 simp only[opsF,opsAt,List.map_filterMap]
 congr 1
 funext i
 cases ops[i]? <;>rfl
def Closed (ops:Array Oper)(listed:Array Bool):Prop:=∀j o,ops[j]? =some o→listed.getD j false=true→∀e,e∈o.after.toList→Region.binds .any e=true→listed.getD e.on false=true
theorem mem_union {x:Nat}:∀(a b:List Nat),x∈union a b→x∈a∨x∈b:=by
 intro a
 induction a with
 |nil=>intro b h;exact .inr h
 |cons y a ih=>
  intro b h
  simp only[union,List.foldl_cons] at h
  rcases ih _ h with h|h
  ·exact .inl (List.mem_cons_of_mem _ h)
  ·split at h
   ·exact .inr h
   ·rcases List.mem_cons.1 h with h|h
    ·exact .inl (by rw[h];exact List.mem_cons_self)
    ·exact .inr h
theorem mem_fold {x:Nat}{l:List (Nat×List Nat)}:∀(es:List Edge) (acc:List Nat),x∈es.foldl (fun acc e=>union (e.on::(look e.on l).getD []) acc) acc→
 x∈acc∨∃e,e∈es∧(x=e.on∨x∈(look e.on l).getD []):=by
 intro es
 induction es with
 |nil=>intro acc h;exact .inl h
 |cons e es ih=>
  intro acc h
  simp only[List.foldl_cons] at h
  rcases ih _ h with h|⟨e',h1,h2⟩
  ·rcases mem_union _ _ h with h|h
   ·right
    refine⟨e,List.mem_cons_self, ?_⟩
    rcases List.mem_cons.1 h with h|h
    ·exact .inl h
    ·exact .inr h
   ·exact .inl h
  ·exact .inr ⟨e',List.mem_cons_of_mem _ h1,h2⟩
theorem ahead_listed {listed:Array Bool}(hcl:Closed ops listed):∀(n j:Nat) (o:Oper),ops[j]? =some o→(∀e,e∈o.after.toList→Region.binds .any e=true→listed.getD e.on false=true)→∀x,x∈ahead (aheadR ops n) j→listed.getD x false=true:=by
 intro n
 induction n with
 |zero=>intro j o _ _ x hx;simp[ahead,aheadR,look] at hx
 |succ n ih=>
  intro j o ho hp x hx
  simp only[ahead,aheadR,look_cons] at hx
  split at hx
  ·rename_i hj
   subst hj
   simp only[Option.getD_some,aheadRow,ho] at hx
   rcases mem_fold _ _ hx with hx|⟨e,he,hx⟩
   ·cases hx
   ·obtain⟨he1,he2⟩:=List.mem_filter.1 he
    have hl:=hp e he1 he2
    rcases hx with rfl|hx
    ·exact hl
    ·cases ho2:ops[e.on]? with
     |none=>
      exfalso
      have hnone:∀m,ahead (aheadR ops m) e.on=[]:=by
       intro m
       induction m with
       |zero=>simp[ahead,aheadR,look]
       |succ m ihm=>
        simp only[ahead,aheadR,look_cons]
        split
        ·rename_i hm;simp[aheadRow,←hm,ho2]
        ·exact ihm
      have:(look e.on (aheadR ops j)).getD []=[]:=hnone j
      rw[this] at hx;cases hx
     |some o2=>exact ih e.on o2 ho2 (fun e' h1 h2=>hcl e.on o2 ho2 hl e' h1 h2) x hx
  ·exact ih j o ho hp x hx
theorem getD_set (l:Array Bool)(i j:Nat)(b d:Bool)(hi:i<l.size):(l.setIfInBounds i b).getD j d=if j=i then b else l.getD j d:=by
 simp only[Array.getD_eq_getD_getElem?,Array.getElem?_setIfInBounds]
 by_cases h:i=j
 ·subst h;simp[hi]
 ·have:¬(j=i):=fun e=>h e.symm
  simp[h,this]
theorem lt_nodup :∀(l:List Nat),l.Pairwise (·<·)→l.Nodup
 |[],_=>List.nodup_nil
 |a::l,h=>by
  rw[List.pairwise_cons] at h
  exact List.nodup_cons.2 ⟨fun hm=>Nat.lt_irrefl _ (h.1 a hm),lt_nodup l h.2⟩
theorem any_sound (hE:Ok E){fs:List (List Nat×List Nat)}(hd:drawOk ops fs=true):∀(fuel:Nat) (listed:Array Bool) (T:List Nat) (st st':St) (a:Act) (w:World) (F:FH) (ρ:RM) (cs:List Prop),listed.size=ops.size→Closed ops listed→
 T=(List.range ops.size).filter (fun i=> !(listed.getD i false))→T.length=fuel→Rel E fix F0 w0 F ρ st a w→Foots E ops (opsF ops fs T) st→runOps E ops (opsAt ops T) st=some (cs,st')→(∀c,c∈cs→c)→
 (∀F' ρ' a' w',Rel E fix F0 w0 F' ρ' st' a' w'→Q .normal a' w')→wpAny E.P .any ops Q fuel listed a w:=by
 simp only[drawOk,drawGo,List.all_eq_true,List.mem_range] at hd
 have hinfo:∀j,j<ops.size→∃y,ops[j]? =some y∧(∀e,e∈y.after.toList→Region.binds .any e=true→e.on<j)∧∀i,i<j→(i∈ahead (aheadR ops ops.size) j∨∃x,ops[i]? =some x∧indep ops x (fs.getD i ([],[])) y (fs.getD j ([],[]))=true):=by
  intro j hj
  have h:=hd j hj
  split at h
  ·cases h
  ·rename_i y hy
   simp only[Bool.and_eq_true,List.all_eq_true,decide_eq_true_eq,List.mem_range,Bool.or_eq_true] at h
   have hbind:∀e,e∈y.after.toList→Region.binds .any e=true→e.on<j:=by
    intro e he hb
    rcases h.1 e he with h'|h'
    ·simp[hb] at h'
    ·exact h'
   refine⟨y,hy,hbind,fun i hi=> ?_⟩
   rcases h.2 i hi with h'|h'
   ·exact .inl (by simpa using h')
   ·split at h'
    ·cases h'
    ·rename_i x hx;exact .inr ⟨x,hx,h'⟩
 intro fuel
 induction fuel with
 |zero=>
  intro listed T st st' a w F ρ cs hsz hcl hT hlen R hF e hc hQ
  have hT0:T=[]:=List.eq_nil_of_length_eq_zero hlen
  have hall:∀i,i<ops.size→listed.getD i false=true:=by
   intro i hi
   cases hq:listed.getD i false with
   |true=>rfl
   |false=>
    have:i∈T:=by rw[hT,List.mem_filter];exact⟨List.mem_range.2 hi,by simp[hq]⟩
    rw[hT0] at this;cases this
  refine⟨?_, ?_⟩
  ·simp only[Region.ready,List.filter_eq_nil_iff,List.mem_range]
   intro i hi
   have h1:=hall i hi
   have:listed.getD i true=true:=by
    rw[Array.getD_eq_getD_getElem?] at h1⊢
    cases hq:listed[i]? with
    |none=>rfl
    |some b=>rw[hq] at h1;exact h1
   simp[this]
  ·subst hT0
   simp only[opsAt,List.filterMap_nil,runOps,Option.some.injEq,Prod.mk.injEq] at e
   obtain⟨_,rfl⟩:=e
   exact hQ _ _ _ _ R
 |succ fuel ih=>
  intro listed T st st' a w F ρ cs hsz hcl hT hlen R hF e hc hQ
  have hmemT:∀i,i∈T↔i<ops.size∧listed.getD i false=false:=by
   intro i;rw[hT,List.mem_filter,List.mem_range];simp
  have hgd:∀i,i<ops.size→listed.getD i true=listed.getD i false:=by
   intro i hi
   simp only[Array.getD_eq_getD_getElem?]
   rw[Array.getElem?_eq_getElem (by omega)];rfl
  refine⟨fun hr=> ?_,fun i hi=> ?_⟩
  ·
   exfalso
   have hne:T≠[]:=fun h=>by rw[h] at hlen;cases hlen
   obtain⟨i,T',hTe⟩:=List.exists_cons_of_ne_nil hne
   have hiT:=(hmemT i).1 (by rw[hTe];exact List.mem_cons_self)
   have hleast:∀j,j<i→listed.getD j false=true:=by
    intro j hj
    cases hq:listed.getD j false with
    |true=>rfl
    |false=>
     have hjT:j∈T:=(hmemT j).2 ⟨by omega,hq⟩
     have hsorted:T.Pairwise (·<·):=by rw[hT];exact List.Pairwise.filter _ List.pairwise_lt_range
     rw[hTe] at hjT hsorted
     rcases List.mem_cons.1 hjT with h|h
     ·omega
     ·have:=(List.pairwise_cons.1 hsorted).1 j h;omega
   obtain⟨y,hy1,hy2,_⟩:=hinfo i hiT.1
   have:i∈Region.ready .any ops listed:=by
    simp only[Region.ready,List.mem_filter,List.mem_range]
    refine⟨hiT.1, ?_⟩
    rw[hgd i hiT.1,hiT.2,hy1]
    simp only[Bool.not_false,Option.map_some,Option.getD_some,Bool.true_and]
    rw[Array.all_eq_true']
    intro e he
    cases hbe:Region.binds .any e with
    |false=>simp
    |true=>simp[hleast e.on (hy2 e (by simpa using he) hbe)]
   rw[hr] at this;cases this
  ·
   simp only[Region.ready,List.mem_filter,List.mem_range] at hi
   obtain⟨hi1,hi2⟩:=hi
   obtain⟨o,ho1,ho2,ho3⟩:=hinfo i hi1
   rw[ho1,hgd i hi1] at hi2
   simp only[Bool.and_eq_true,Bool.not_eq_true',Option.map_some,Option.getD_some] at hi2
   obtain⟨hi2,hi3⟩:=hi2
   have hpreds:∀e,e∈o.after.toList→Region.binds .any e=true→listed.getD e.on false=true:=by
    intro e he hb
    rw[Array.all_eq_true'] at hi3
    have:=hi3 e (by simpa using he)
    simpa[hb] using this
   have hiT:i∈T:=(hmemT i).2 ⟨hi1,hi2⟩
   obtain⟨p,q,hpq⟩:=List.append_of_mem hiT
   have hsorted:T.Pairwise (·<·):=by rw[hT];exact List.Pairwise.filter _ List.pairwise_lt_range
   have hplt:∀x,x∈p→x<i:=by
    intro x hx
    rw[hpq,List.pairwise_append] at hsorted
    exact hsorted.2.2 x hx i List.mem_cons_self
   have hopsT:opsF ops fs T=opsF ops fs p++(o,fs.getD i ([],[]))::opsF ops fs q:=by
    rw[hpq];simp[opsF,List.filterMap_append,ho1]
   have hind:∀x,x∈opsF ops fs p→indep ops x.1 x.2 o (fs.getD i ([],[]))=true:=by
    intro x hx
    simp only[opsF,List.mem_filterMap] at hx
    obtain⟨j,hj1,hj2⟩:=hx
    have hj3:=hplt j hj1
    have hjT:=(hmemT j).1 (by rw[hpq];simp[hj1])
    rcases ho3 j hj3 with h|⟨x',h1,h2⟩
    ·have:=ahead_listed hcl ops.size i o ho1 hpreds j h
     rw[hjT.2] at this;cases this
    ·rw[h1] at hj2;cases hj2;exact h2
   rw[←opsF_fst ops fs,hopsT] at e
   rw[hopsT] at hF
   have hwf:Wf st:=⟨fun n av hn k hk=>R.keys n av hn k hk,fun kb b hb p k hm=>(R.rel.lnk kb b hb p k hm).1⟩
   obtain⟨cs',t',f1,f2,f3,f4⟩:=move_front (o:=(o,fs.getD i ([],[]))) (opsF ops fs p) (opsF ops fs q) st st' cs hwf hind hF e hc
   rw[List.map_cons] at f1
   simp only[runOps] at f1
   split at f1
   ·cases f1
   rename_i c1 s1 e1
   split at f1
   ·cases f1
   rename_i c2 s2 e2
   cases f1
   obtain⟨u1,u2⟩:=mem2 f2
   have hT':(List.range ops.size).filter (fun j=> !((listed.setIfInBounds i true).getD j false))=p++q:=by
    have e1:(List.range ops.size).filter (fun j=> !((listed.setIfInBounds i true).getD j false))=T.filter (fun j=>j !=i):=by
     rw[hT,List.filter_filter]
     apply List.filter_congr
     intro j hj
     rw[getD_set _ _ _ _ _ (by omega)]
     by_cases h:j=i<;>simp[h]
    rw[e1,hpq]
    have hnodup:T.Nodup:=lt_nodup T hsorted
    rw[hpq] at hnodup
    have hni:=(List.nodup_append.1 hnodup)
    rw[List.filter_append,List.filter_cons]
    simp only[bne_self_eq_false,Bool.false_eq_true,if_false]
    have h1:p.filter (fun j=>j !=i)=p:=by
     rw[List.filter_eq_self];intro x hx;have:=hplt x hx;simp;omega
    have h2:q.filter (fun j=>j !=i)=q:=by
     rw[List.filter_eq_self];intro x hx
     have:=(List.nodup_cons.1 hni.2.1).1
     simp;intro h;exact this (h▸hx)
    rw[h1,h2]
   have hlen':(p++q).length=fuel:=by
    have:T.length=(p++q).length+1:=by rw[hpq];simp;omega
    omega
   have hcl':Closed ops (listed.setIfInBounds i true):=by
    intro j o' ho' hj ed he hb
    rw[getD_set _ _ _ _ _ (by omega)] at hj⊢
    split
    ·rfl
    ·by_cases h:j=i
     ·subst h;rw[ho1] at ho';cases ho';exact hpreds ed he hb
     ·rw[if_neg h] at hj;exact hcl j o' ho' hj ed he hb
   have hops':opsF ops fs (p++q)=opsF ops fs p++opsF ops fs q:=by simp[opsF,List.filterMap_append]
   have hs:=step_sound hE R e1 u1 (K:=wpAny E.P .any ops Q fuel (listed.setIfInBounds i true)) (fun F' ρ' a' w' R'=>
    ih (listed.setIfInBounds i true) (p++q) s1 _ a' w' F' ρ' c2 (by simpa using hsz) hcl' hT'.symm hlen' R' (by rw[hops'];exact f4.2 _ _ e1) (by rw[←opsF_fst ops fs,hops'];exact e2) u2
     (fun F2 ρ2 a2 w2 R2=>hQ F2 ρ2 a2 w2 (R2.eqv f3.symm))) Q
   simp only[wpOp,ho1]
   split
   ·rename_i hw;rw[if_pos hw] at hs;exact .inl hs
   ·rename_i hw;rw[if_neg hw] at hs;exact hs
theorem Rel.drew {F:FH}{ρ:RM}{st:St}{a:Act}{w:World}(R:Rel E fix F0 w0 F ρ st a w):Rel E fix F0 w0 F ρ st a {w with drawn:=w.drawn+1}:=
 ⟨R.rel,⟨R.below.os,R.below.tape,R.below.output,R.below.size,R.below.block⟩,R.up,R.glob,R.le,R.base,R.tm,R.keys,R.ntm,R.defers,R.fixed,R.lock⟩
theorem opsAt_range (ops:Array Oper):opsAt ops (List.range ops.size)=ops.toList:=by
 have h:(List.range ops.size).map (fun i=>ops[i]?)=ops.toList.map some:=by
  apply List.ext_getElem
  ·simp
  ·intro i h1 h2
   simp at h1 h2
   simp[h1]
 have h2:opsAt ops (List.range ops.size)=((List.range ops.size).map (fun i=>ops[i]?)).filterMap id:=by simp[opsAt,List.filterMap_map]
 rw[h2,h,List.filterMap_map]
 simp
theorem foots_ok :∀(os:List Oper) (i:Nat) (st:St) (fs:List (List Nat×List Nat)),(∀j,j<os.length→fs.getD (i+j) ([],[])=(foots E ops os st).getD j ([],[]))→Foots E ops ((os.zipIdx i).map (fun p=>(p.1,fs.getD p.2 ([],[])))) st:=by
 intro os
 induction os with
 |nil=>intro i st fs _;trivial
 |cons o os ih=>
  intro i st fs h
  refine⟨?_,fun cs st' e=> ?_⟩
  ·intro args cs e
   have:=h 0 (by simp)
   simp only[foots,e,Nat.add_zero,List.getD_cons_zero] at this
   exact this.symm
  ·refine ih (i+1) st' fs (fun j hj=> ?_)
   have:=h (j+1) (by simp;omega)
   simp only[foots,List.getD_cons_succ] at this
   rw[e] at this
   rw[show i+1+j=i+(j+1) by omega]
   exact this
theorem opsF_range (ops:Array Oper)(fs:List (List Nat×List Nat)):opsF ops fs (List.range ops.size)=(ops.toList.zipIdx 0).map (fun p=>(p.1,fs.getD p.2 ([],[]))):=by
 have h:(List.range ops.size).map (fun i=>(ops[i]?).map (fun o=>(o,fs.getD i ([],[]))))=((ops.toList.zipIdx 0).map (fun p=>(p.1,fs.getD p.2 ([],[])))).map some:=by
  apply List.ext_getElem
  ·simp
  ·intro i h1 h2
   simp only[List.length_map,List.length_range] at h1
   simp only[List.getElem_map,List.getElem_range,List.getElem_zipIdx,Nat.zero_add,Array.getElem?_eq_getElem h1,Option.map_some,Array.getElem_toList]
 have h2:opsF ops fs (List.range ops.size)=((List.range ops.size).map (fun i=>(ops[i]?).map (fun o=>(o,fs.getD i ([],[]))))).filterMap id:=by
  rw[List.filterMap_map];rfl
 rw[h2,h,List.filterMap_map]
 exact List.filterMap_some
theorem region_sound (hE:Ok E)(hm:E.P.follows .mixedOrders=true){id:Nat}{draw:Bool}{F:FH}{ρ:RM}{st st':St}(hd:(draw&& !(drawOk ops (foots E ops ops.toList st)))=false){a:Act}{w:World}{cs:List Prop}(R:Rel E fix F0 w0 F ρ st a w)
 (e:runOps E ops ops.toList st=some (cs,st')) (hc:∀c,c∈cs→c) (hQ:∀F' ρ' a' w',Rel E fix F0 w0 F' ρ' st' a' w'→Q .normal a' w'):(Code.region id ops draw).wp E.P Q a w:=by
 cases draw
 ·refine wp_region (run_sound hE ops.toList (List.range ops.size) st st' a w F ρ cs ?_ R e hc hQ)
  apply List.ext_getElem
  ·simp
  ·intro i h1 h2
   simp at h1 h2
   simp[h1]
 ·have hd:drawOk ops (foots E ops ops.toList st)=true:=by simpa using hd
  refine wp_region_any hm (any_sound hE hd ops.size _ (List.range ops.size) st st' a _ F ρ cs (by simp) ?_ ?_ (by simp) R.drew (by rw[opsF_range];exact foots_ok _ _ _ _ (fun j _=>by rw[Nat.zero_add])) (by rw[opsAt_range];exact e) hc hQ)
  ·intro j o _ hj
   simp[Array.getD_eq_getD_getElem?,Array.getElem?_replicate] at hj
   split at hj<;>simp at hj
  ·symm
   rw[List.filter_eq_self]
   intro i hi
   simp only[Array.getD_eq_getD_getElem?,Array.getElem?_replicate]
   split<;>rfl
end
end Lc
