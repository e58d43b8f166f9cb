/- The engine, part S: the soundness of a function's condition. -/
import Derived.Test.YtlhdieoemhjjiaaGreatDoorEngQ
import Derived.Scope
import Derived.Deep.LoopGhost
import Derived.WalkKit
import Derived.ProofKit
import Derived.OpenShut
import Derived.Carry
import Derived.Deep.DeepHandedRow
import Derived.Lib.LaidTab
set_option linter.unusedVariables false
set_option linter.unusedSimpArgs false
namespace Lc
open Go Go.RowKit
theorem conjK_out {K:Prop}:∀(cs:List Prop),conjK cs K→(∀c,c∈cs→c)∧K:=by
 intro cs
 induction cs with
 |nil=>intro h;exact⟨(fun c hc=>by cases hc),h⟩
 |cons c cs ih=>
  rintro⟨h1,h2⟩
  obtain⟨i1,i2⟩:=ih h2
  exact⟨fun c' hc=>by
   rcases List.mem_cons.1 hc with rfl|h
   ·exact h1
   ·exact i1 c' h,i2⟩
theorem vall_at :∀(vs:List (Nat×Shape)) (f:VDen vs→Prop),vall vs f→∀x,f x:=by
 intro vs
 induction vs with
 |nil=>intro f h x;exact h
 |cons p vs ih=>intro f h x;exact ih (fun y=>f (x.1,y)) (h x.1) x.2
theorem tall_at :∀(ts:List Ty) (f:Tup ts→Prop),tall ts f→∀x,f x:=by
 intro ts
 induction ts with
 |nil=>intro f h x;exact h
 |cons t ts ih=>intro f h x;exact ih (fun y=>f (x.1,y)) (h x.1) x.2
section
variable {w0 : Ctx}
theorem Ok.locked {E:Env}(h:Ok E)(l:List Nat):Ok (E.locked l):=⟨⟨h.env.ty,h.env.bytes,h.env.turn,h.env.grow⟩,h.con,h.ptr,h.byv⟩
def fixUp (fix:Nat→Option Value)(keep:List Nat)(a:Act):Nat→Option Value:=fun n=>if keep.contains n then some (a.tmps.getD n undef) else fix n
theorem Rel.enter {E:Env}{fix:Nat→Option Value}{F0 F:FH}{ρ:RM}{st:St}{a:Act}{w:World}(R:Rel E fix F0 w0 F ρ st a w)(keep:List Nat):Rel (E.locked keep) (fixUp fix keep a) F w0 F ρ st a w:=by
 refine⟨R.rel,R.below,R.up,R.glob.mono R.le,FH.le.rfl,fun _ _=>rfl,R.tm,R.keys,R.ntm,R.defers,fun n v h=> ?_,fun n v h=> ?_⟩
 ·unfold fixUp at h
  split at h
  ·cases h;rfl
  ·exact R.fixed n v h
 ·unfold fixUp at h
  show n∈keep++E.lock
  split at h
  ·rename_i hk;exact List.mem_append_left _ (by simpa using hk)
  ·exact List.mem_append_right _ (R.lock n v h)
theorem Rel.leave {E:Env}{fix:Nat→Option Value}{F0 F F':FH}{ρ ρ':RM}{st st':St}{a a':Act}{w w':World}{keep:List Nat}(R:Rel E fix F0 w0 F ρ st a w)(R':Rel (E.locked keep) (fixUp fix keep a) F w0 F' ρ' st' a' w'):
 Rel E fix F0 w0 F' ρ' st' a' w':=by
 refine⟨R'.rel,R'.below,R'.up,R.glob,R.le.trans R'.le,fun b hb=>(R'.base b hb).trans (R.base b hb),R'.tm,R'.keys,R'.ntm,R'.defers,fun n v h=> ?_,R.lock⟩
 by_cases hk:keep.contains n=true
 ·have:=R'.fixed n (a.tmps.getD n undef) (by unfold fixUp;rw[if_pos hk])
  rw[this];exact R.fixed n v h
 ·exact R'.fixed n v (by unfold fixUp;rw[if_neg hk];exact h)
theorem KeptOk.later {E:Env}{fix:Nat→Option Value}{F F':FH}{ρ':RM}{st':St}{a a':Act}{w':World}{keep:List Nat}{kept:List (Nat×AV)}(hk:KeptOk F kept a)(hd:∀n,(look n kept).isSome→n∈keep)
 (R':Rel (E.locked keep) (fixUp fix keep a) F w0 F' ρ' st' a' w'):KeptOk F' kept a':=by
 intro n av hn
 have hmem:=hd n (by rw[hn];rfl)
 have hv:=R'.fixed n (a.tmps.getD n undef) (by unfold fixUp;rw[if_pos (by simpa using hmem)])
 obtain⟨h1,h2⟩:=hk n av hn
 refine⟨h1,fun ρ L=> ?_⟩
 rw[hv]
 exact repAV_ext (L:=fun _=>none) (ρ:=ρ) R'.le (fun k hk=>by cases hk) (fun k hk=>by rw[h1] at hk;cases hk) (h2 ρ _)
theorem wpA_sound {N:Notes}:∀(c:Code) {E:Env} {fix:Nat→Option Value} {F0:FH} {QA:Exit→St→Prop} {st:St} {a:Act} {w:World} {F:FH} {ρ:RM},Ok E→E.P.follows .mixedOrders=true→Rel E fix F0 w0 F ρ st a w→
 wpA N E c QA st→c.wp E.P (fun e a' w'=>∃st' F' ρ',Rel E fix F0 w0 F' ρ' st' a' w'∧QA e st') a w:=by
 intro c
 induction c with
 |skip=>intro E fix F0 QA st a w F ρ hE hm R h;exact wp_skip ⟨st,F,ρ,R,h⟩
 |region id ops draw=>
  intro E fix F0 QA st a w F ρ hE hm R h
  simp only[wpA] at h
  split at h
  ·exact h.elim
  rename_i hd
  split at h
  ·rename_i cs st' e
   obtain⟨F1,ρ1,R1⟩:=freeze_sound (N.frz id) R
   obtain⟨hc,hq⟩:=conjK_out cs h
   exact region_sound hE hm (by simpa using hd) R1 e hc (fun F' ρ' a' w' R'=>⟨st',F',ρ',R',hq⟩)
  ·exact h.elim
 |seq x y ihx ihy=>
  intro E fix F0 QA st a w F ρ hE hm R h
  simp only[wpA] at h
  split at h
  ·refine wp_seq (wp_mono (ihx hE hm R h) ?_)
   rintro e a' w' ⟨st',F',ρ',R',hq⟩
   cases e with
   |normal=>exact ihy hE hm R' hq
   |_=>exact⟨st',F',ρ',R',hq⟩
  ·rename_i A hA
   obtain⟨F1,ρ1,R1⟩:=freeze_sound A.frz R
   split at h
   ·exact h.elim
   rename_i kept hkept
   split at h
   ·rename_i hsl
    obtain⟨h1,h2⟩:=h
    obtain⟨k1,k2⟩:=keepTm_sound R1 _ _ hkept
    refine wp_seq (wp_mono (ihx (E:=E.locked A.keep) (hE.locked A.keep) hm (R1.enter A.keep) h1) ?_)
    rintro e a' w' ⟨st',F',ρ',R',hq⟩
    cases e with
    |normal=>
     simp only[Exit.thenA,atCut] at hq
     split at hq
     ·rename_i xx ks er
      split at hq
      ·rename_i hks
       have hcut:=cut_sound hsl R' er hks (k1.later k2 R')
       exact ihy hE hm (R1.leave hcut) (vall_at _ _ h2 xx hq)
      ·exact hq.elim
     ·exact hq.elim
    |_=>exact⟨st',F',ρ',R1.leave R',hq⟩
   ·exact h.elim
 |cond cc x y ihx ihy=>
  intro E fix F0 QA st a w F ρ hE hm R h
  simp only[wpA] at h
  split at h
  ·rename_i b hb
   have hv:=repAV_bool.1 (evalO_rep R hb).1
   refine wp_cond_split hv (fun ht=>ihx hE hm R (h.1 ht)) (fun ht=>ihy hE hm R (h.2 ht))
  ·exact h.elim
 |block id x ih=>
  intro E fix F0 QA st a w F ρ hE hm R h
  simp only[wpA] at h
  refine wp_block (wp_mono (ih hE hm R h) ?_)
  rintro e a' w' ⟨st',F',ρ',R',hq⟩
  cases e with
  |exit j=>
   simp only[Exit.inBlockA] at hq
   simp only[Exit.inBlock]
   split
   ·rename_i hj;rw[if_pos hj] at hq;exact⟨st',F',ρ',R',hq⟩
   ·rename_i hj;rw[if_neg hj] at hq;exact⟨st',F',ρ',R',hq⟩
  |_=>exact⟨st',F',ρ',R',hq⟩
 |loop x ih=>
  intro E fix F0 QA st a w F ρ hE hm R h
  simp only[wpA] at h
  split at h
  ·exact h.elim
  rename_i A hA
  obtain⟨F1,ρ1,R1⟩:=freeze_sound A.frz R
  split at h
  ·exact h.elim
  rename_i kept hkept
  split at h
  ·rename_i hsl
   obtain⟨h1,h2⟩:=h
   obtain⟨k1,k2⟩:=keepTm_sound R1 _ _ hkept
   simp only[atCut] at h1
   split at h1
   ·rename_i x0 ks er
    split at h1
    ·rename_i hks
     have hR0:=cut_sound hsl (R1.enter A.keep) er hks (k1.later k2 (R1.enter A.keep))
     refine wp_loop_ghost (fun n a' w'=>∃y F' ρ',vapp A.vars A.mes y=n∧vapp A.vars A.inv y∧Rel (E.locked A.keep) (fixUp fix A.keep a) F1 w0 F' ρ' (A.at kept y) a' w') _ ⟨x0,_,_,rfl,h1,hR0⟩ ?_
     rintro n a' w' ⟨y,F',ρ',rfl,hinv,R'⟩
     refine wp_mono (ih (E:=E.locked A.keep) (hE.locked A.keep) hm R' (vall_at _ _ h2 y hinv)) ?_
     rintro e a2 w2 ⟨st2,F2,ρ2,R2,hq⟩
     cases e with
     |normal=>
      simp only[Exit.thenA,atCut] at hq
      split at hq
      ·rename_i z ks2 er2
       split at hq
       ·rename_i hks2
        refine⟨_,hq.2,z,F2,_,rfl,hq.1,cut_sound hsl R2 er2 hks2 (k1.later k2 R2)⟩
       ·exact hq.elim
      ·exact hq.elim
     |_=>exact⟨st2,F2,ρ2,R1.leave R2,hq⟩
    ·exact h1.elim
   ·exact h1.elim
  ·exact h.elim
 |scope x ih=>
  intro E fix F0 QA st a w F ρ hE hm R h
  simp only[wpA] at h
  refine wp_scope_straight (wp_mono (ih hE hm R h) ?_)
  rintro e a' w' ⟨st',F',ρ',R',hq⟩
  cases e with
  |goto l=>exact hq.elim
  |_=>exact⟨st',F',ρ',R',hq⟩
 |label l=>intro E fix F0 QA st a w F ρ hE hm R h;exact wp_label ⟨st,F,ρ,R,h⟩
 |exit id=>intro E fix F0 QA st a w F ρ hE hm R h;exact wp_exit ⟨st,F,ρ,R,h⟩
 |ret=>intro E fix F0 QA st a w F ρ hE hm R h;exact wp_ret ⟨st,F,ρ,R,h⟩
 |_=>intros;rename_i h;simp only[wpA] at h
end
end Lc
namespace Lc
open Go Go.RowKit
section
variable {E : Env} {fix : Nat → Option Value} {F0 : FH} {w0 : Ctx} {F : FH} {ρ : RM} {st : St} {a : Act} {w : World}
def resRun (tmps:Array Value):ResultVar→Sem Value
 | .tmp t=>pure (tmps.getD t undef)
 | .cell a t=>do loadVar t (←asAddr (tmps.getD a undef))
theorem results_eq (fn:Func)(tmps:Array Value):results fn tmps=(do let vs←fn.results.mapM (resRun tmps);pure (if h:vs.size=1 then vs[0] else .tuple vs)):=by
 unfold results
 congr 1
theorem getP_nil (t:Ty)(x:t.den):getP t x []=some ⟨t,x⟩:=by cases t<;>rfl
theorem resAV_sound (hE:Ok E)(R:Rel E fix F0 w0 F ρ st a w){v:ResultVar}{av:AV}(e:resAV E st v=some av):∃u,(resRun a.tmps v).run E.P w= .ok u w∧RepAV F ρ (hl st.hp) av u:=by
 cases v with
 |tmp t=>exact⟨_,rfl,R.tm _ _ e⟩
 |cell x tid=>
  simp only[resAV] at e
  split at e
  ·rename_i k root hx
   split at e
   ·rename_i blk hL
    split at e
    ·cases e
    rename_i hrow0
    have hrow1:blk.row=false∧blk.isOpen=false:=by simpa using hrow0
    have hrow:=hrow1.1
    have hopn:=hrow1.2
    split at e
    ·rename_i ht
     cases e
     obtain⟨rfl,q2,bb,cap,u,off,z1,z2,z3⟩:=repAV_ptr.1 (R.tm _ _ hx) blk hL
     have hoff:off=0:=by simp[Ty.nav] at z2;exact z2.2.symm
     subst hoff
     obtain⟨c,eid,fr,hd,cl,rest,g1,g2,g3,g4,g5,g6⟩:=R.rel.live hL z1 (by rw[hrow];rfl) hopn
     obtain⟨o2,n1,n2,n3⟩:=blk_get g5 q2 (by simp[hrow]) (getP_nil blk.t blk.x)
     have ho2:o2=0:=by
      have:blk.t.nav []=some (blk.t,0):=by cases blk.t<;>rfl
      rw[this] at n1;simp at n1;exact n1.symm
     subst ho2
     have hl:=run_loadVar' (hE.env.ty _ _ ht) w bb (cap.2+0) _ (rep_len _ _ _ n3) (fun i c' hc=>by
      have hc2:=take_drop_get hc
      simp only[cellAt,g2]
      rw[Nat.add_assoc];exact at_of g4.1 g4.2.2 hc2)
     have hmk:(mkV blk.t ((cl.drop 0).take blk.t.size)).cells.toList=(cl.drop 0).take blk.t.size:=by
      have hlen:=rep_len _ _ _ n3
      unfold mkV
      split
      ·simp[Value.cells]
      ·rename_i hag
       have h1':blk.t.size=1:=by cases hbt:blk.t<;>simp_all [Ty.isAgg,Ty.size]
       have:((cl.drop 0).take blk.t.size).length=1:=by rw[hlen,h1']
       match hq:(cl.drop 0).take blk.t.size,this with
       |[q],_=>
        have h8:=rep_one _ _ _ n3 q (by rw[hq];exact List.mem_singleton.2 rfl)
        simp only[List.getElem?_cons_zero,Option.getD_some]
        cases q<;>simp_all [Value.oneCell',Value.cells]
     refine⟨mkV blk.t ((cl.drop 0).take blk.t.size), ?_, ?_⟩
     ·simp only[resRun,Sem.run_bind,z3,asAddr,Sem.run_pure,Result.andThen_ok,hl]
     ·split
      ·exact repAV_val.2 (repV_mk n3)
      ·refine repAV_nt rfl ⟨_,rfl,repV_mk n3,fun p kk hm=> ?_⟩
       obtain⟨_,q2⟩:=R.rel.lnk k blk hL _ _ hm
       obtain⟨f0,u3,off3,v3,m1,m2,m3⟩:=q2 bb cap z1
       have hlt:=nav_le blk.t p _ _ (fld_ok _ _ _ _ f0 m1) m1
       simp only[Ty.size] at hlt
       refine⟨f0,u3,off3,v3,m1, ?_,fun b3 hb3=>repAV_whole.1 m3 b3 hb3⟩
       rw[hmk,List.getElem?_take,if_pos (by omega),List.drop_zero]
       have hv4:c.toList[cap.2+off3]? =some v3:=by simp only[cellAt,g2] at m2;simpa using m2
       rw[g4.2.2,List.getElem?_append_right (by omega),g4.1,Nat.add_sub_cancel_left,List.getElem?_append_left ?_] at hv4
       ·exact hv4
       ·have:=rep_len _ _ _ n3
        simp only[List.drop_zero,List.length_take] at this
        omega
    ·cases e
   ·cases e
  ·cases e
theorem row_data {H:Array Obj}{B0:Nat→Prop}{L:HL}(h:HRel F ρ L H B0){kk m:Nat}{u:Ty}{z xs:List u.den}{hv:Value}{lk':List (List Stp×Nat)}(hkk:L kk=some (some ⟨true,.arr m u,xs,true,lk'⟩))
 (hs:SlcV F z.length (RepL (Rep F u) z) hv) (w3:HW (ρ kk) true xs.length (.arr m u) [] hv):z=xs:=by
 rcases w3 with⟨_,_,_,r4,rfl⟩|⟨bb,cap',n',u'',off',r1,r2,rfl⟩
 ·have hx:xs=[]:=List.eq_nil_of_length_eq_zero r4
  rcases hs with⟨_,s1,_⟩|⟨_,_,_,_,s0,_⟩
  ·rw[hx];exact List.eq_nil_of_length_eq_zero s1
  ·cases s0
 ·have hoff:off'=0:=by
   simp[Ty.nav] at r2;exact r2.2.symm
  subst hoff
  obtain⟨c2,eid2,fr2,hd2,cl2,rest2,k1,k2,k3,k4,k5,k6⟩:=h.live hkk r1 rfl (isOpen_row rfl)
  simp only[RepC,if_true] at k5
  have hlen:(lcap true [] xs.length cap' n').1=xs.length:=by simp[lcap]
  rw[hlen] at hs
  rcases hs with⟨⟨o,s0⟩,s1,_⟩|⟨b3,off3,cap3,cs3,s0,s1,s2,s3⟩
  ·injection s0 with q1 q2 q3
   rw[List.eq_nil_of_length_eq_zero q2];exact List.eq_nil_of_length_eq_zero s1
  ·injection s0 with q1 q2 q3
   injection q1 with q1
   injection q1 with q4 q5 q6
   subst q4;subst q5
   have hF:FAt F bb (cap'.2+0) cl2:=by
    intro i c hc
    rw[Nat.add_zero,k6];simpa using hc
   have:=fat_fun s3 hF (by rw[repL_rep_len s2,repL_rep_len k5.1,q2])
   subst this
   exact repL_fun (fun x cs=>rep_len u x cs) (fun x y cs=>rep_fun u x y cs) z xs cs3 q2.symm s2 k5.1
theorem own_ret (R:Rel E fix F0 w0 F ρ st a w)(hU:∀b,w0.U b→w0.w.heap.size≤b){k m:Nat}{root t:Ty}{xs:List t.den}{fz:Bool}{lk:List (List Stp×Nat)}{u:Value}(hL:hl st.hp k=some (some ⟨true,.arr m t,xs,fz,lk⟩))
 (hw:HW (ρ k) true xs.length root [] u) (hr:root= .arr m t) (wb:Bool) (hwb:wb=true→fz=false) {need:Bool} {G:FH} (hG1:need=true→G=F) (hG0:need=false→∀b i,w0.w.heap.size≤b→G b i=none) (hf:need=false→t.flat=true):
 (ρ k=none∧u= .slice none 0 0∧xs=[])∨∃b cap,ρ k=some (b,cap)∧OwnAt wb G w.heap w0.w.heap.size t xs u b:=by
 subst hr
 rcases hw with⟨z1,z2,z3,z4,z5⟩|⟨bb,cap,n,u',off,z1,z2,z3⟩
 ·exact .inl ⟨z1,z5,List.eq_nil_of_length_eq_zero z4⟩
 ·refine .inr ⟨bb,cap,z1, ?_⟩
  obtain⟨c,eid,fr,hd,cl,rest,g1,g2,g3,g4,g5,g6⟩:=R.rel.live hL z1 rfl (isOpen_row rfl)
  simp only[RepC,if_true] at g5
  have hoff:off=0:=by simp[Ty.nav] at z2;exact z2.2.symm
  subst hoff
  have hrep:RepL (Rep G t) xs cl:=by
   cases need
   ·exact repL_mono (fun x cs=>rep_flat t (hf rfl) x cs) _ _ g5.1
   ·rw[hG1 rfl];exact g5.1
  refine⟨cap,c,eid,fr,hd,cl,rest,by simpa[lcap] using z3,hU bb g1,g2,g3,⟨g4.1,g4.2.2⟩,hrep,g5.2.1,g5.2.2, ?_⟩
  cases wb with
  |true=>
   have hz:=hwb rfl
   have h0:=R.rel.base0 hL z1 hz
   refine⟨h0,fun i=> ?_⟩
   cases need
   ·exact hG0 rfl bb i (hU bb g1)
   ·rw[hG1 rfl]
    have:=g6 i
    rw[h0,Nat.zero_add] at this
    rw[this,hz];rfl
  |false=>
   show(∀i,G bb (cap.2+i)=none)∨∀i,G bb (cap.2+i)=cl[i]?
   cases need
   ·exact .inl (fun i=>hG0 rfl bb _ (hU bb g1))
   ·rw[hG1 rfl]
    cases fz with
    |true=>exact .inr (fun i=>by rw[g6 i];rfl)
    |false=>exact .inl (fun i=>by rw[g6 i];rfl)
theorem rows_ret (R:Rel E fix F0 w0 F ρ st a w)(hU:∀b,w0.U b→w0.w.heap.size≤b){t:Ty}{x:t.den}{v:Value}{l:List (List Stp×Nat)}(hv:RepAV F ρ (hl st.hp) (.vlk t x l) v):∀(ps:List (List Stp×Ty×Nat)) (l2:List (Nat×Nat)),readL st t l ps=some l2→
 RowsAt F w.heap w0.w.heap.size t x v ps ((l2.map (·.2)).filterMap (fun k=>(ρ k).map (·.1)))∧∀k,k∈l2.map (·.2)→∃b,hl st.hp k=some (some b):=by
 obtain⟨v',e0,hr,hlk⟩:=repA_nt hv rfl
 simp only[List.cons.injEq,and_true] at e0
 subst e0
 intro ps
 induction ps with
 |nil=>intro l2 e;cases e;exact⟨rfl,fun k hk=>by cases hk⟩
 |cons q ps ih=>
  obtain⟨p,u,m⟩:=q
  intro l2 e
  simp only[readL] at e
  split at e
  ·rename_i hn
   split at e
   ·rename_i kk l3 e1 e2
    split at e
    ·rename_i n' u' xs lk' e3
     split at e
     ·rename_i hu
      subst hu
      cases e
      obtain⟨i1,i2⟩:=ih l3 e2
      obtain⟨f0,u2,off,hvv,f1,f2,f3⟩:=hlk p kk (lkAt_mem _ e1)
      have hu2:u2=u':=by rw[f1] at hn;simpa using hn
      subst hu2
      have hL:hl st.hp kk=some (some ⟨true,.arr n' u2,xs,true,lk'⟩):=e3
      obtain⟨w1,w2,w3⟩:=f3 _ hL
      simp only[Blk.len,lenT] at w1 w3
      obtain⟨z,hz⟩:=getP_fld t x p _ _ f0 f1
      obtain⟨o2,o3,o4,o5⟩:=getP_rep t x _ p (repV_cells hr) (fld_ok _ _ _ _ f0 f1) ⟨.slc u2,z⟩ hz
      simp only at o3 o4 o5
      rw[f1] at o3;cases o3
      have hlt:off<v.cells.toList.length:=(List.getElem?_eq_some_iff.1 f2).1
      have hcell:(v.cells.toList.drop off).take (Ty.slc u2).size=[hvv]:=by
       have h2:=List.getElem?_eq_some_iff.1 f2
       rw[List.drop_eq_getElem_cons hlt,h2.2];rfl
      rw[hcell] at o5
      obtain⟨v2,e5,hs⟩:=o5
      cases e5
      have hrow:rowOf t x p u2=z:=by
       simp only[rowOf,hz,TV.as,castT]
       simp
      have hm0:n'=0:=by injection w1
      subst hm0
      have hzx:=row_data R.rel hL hs w3
      refine⟨⟨f0,off,hvv,f1,f2, ?_⟩,fun k hk=> ?_⟩
      ·simp only[hrow,hzx]
       rcases own_ret R hU hL w3 rfl false (fun h=>by cases h) (need:=true) (G:=F) (fun _=>rfl) (fun h=>by cases h) (fun h=>by cases h) with⟨a1,a2,a3⟩|⟨b,cap,a1,a2⟩
       ·refine .inl ⟨a2,a3, ?_⟩
        rw[List.map_cons,List.filterMap_cons,a1];exact i1
       ·refine .inr ⟨b,_,by rw[List.map_cons,List.filterMap_cons,a1];rfl,a2,i1⟩
      ·rcases List.mem_cons.1 hk with rfl|hk
       ·exact⟨_,hL⟩
       ·exact i2 k hk
     ·cases e
    ·cases e
   ·cases e
  ·cases e
theorem readR_sound (hE:Ok E)(R:Rel E fix F0 w0 F ρ st a w){need:Bool}{G:FH}(hG1:need=true→G=F)(hG0:need=false→∀b i,w0.w.heap.size≤b→G b i=none)(hU:∀b,w0.U b→w0.w.heap.size≤b):
 ∀(rs:List RK) (vs:List ResultVar) (r:RTup rs) (cs:List Prop) (ks:List Nat),(need=false→rs.all RK.flatOk=true)→readR E st need rs vs=some (r,cs,ks)→(∀c,c∈cs→c)→
 ∃us,(vs.mapM (resRun a.tmps)).run E.P w= .ok us w∧RepRets G w.heap w0.w.heap.size rs r us (ks.filterMap (fun k=>(ρ k).map (·.1)))∧∀k,k∈ks→∃b,hl st.hp k=some (some b):=by
 intro rs
 induction rs with
 |nil=>
  intro vs r cs ks _ e _
  cases vs with
  |nil=>cases e;exact⟨[],by simp,⟨rfl,rfl⟩,(fun k hk=>by cases hk)⟩
  |cons v vs=>simp[readR] at e
 |cons rk rs ih=>
  intro vs r cs ks hf e hc
  cases vs with
  |nil=>simp[readR] at e
  |cons v vs=>
   simp only[readR] at e
   split at e
   ·cases e
   rename_i y cs1 ks1 e1
   split at e
   ·cases e
   rename_i av hav
   obtain⟨u,hu1,hu2⟩:=resAV_sound hE R hav
   have hf2:need=false→rs.all RK.flatOk=true:=fun h=>by have:=hf h;simp only[List.all_cons,Bool.and_eq_true] at this;exact this.2
   have hf1:need=false→rk.flatOk=true:=fun h=>by have:=hf h;simp only[List.all_cons,Bool.and_eq_true] at this;exact this.1
   have hrun:∀us,(vs.mapM (resRun a.tmps)).run E.P w= .ok us w→((v::vs).mapM (resRun a.tmps)).run E.P w= .ok (u::us) w:=by
    intro us h
    simp only[List.mapM_cons,Sem.run_bind,hu1,h,Result.andThen_ok,Sem.run_pure]
   cases rk with
   |deep t=>
    simp only at e
    split at e
    ·rename_i x cs2 e2
     cases e
     obtain⟨c1,c2⟩:=mem2 hc
     obtain⟨us,i1,i2,i3⟩:=ih vs y cs1 _ hf2 e1 c2
     have hr:=deepV_sound (E:=need) R.rel hu2 (blkOf_eqM st.hp av) e2 c1
     have hr':RepV G t x u:=by
      cases need
      ·exact repV_flat (hf1 rfl) hr
      ·rw[hG1 rfl];exact hr
     exact⟨u::us,hrun us i1,⟨u,us,rfl,hr',i2⟩,i3⟩
    ·cases e
   |own t=>
    simp only at e
    split at e
    ·cases e
     obtain⟨us,i1,i2,i3⟩:=ih vs y _ _ hf2 e1 hc
     have hv:u= .slice none 0 0:=by have:=repA_nt hu2 rfl;simpa[RepA] using this
     exact⟨u::us,hrun us i1,⟨u,us,rfl,.inl ⟨hv,rfl,i2⟩⟩,i3⟩
    ·rename_i k root
     split at e
     ·rename_i m w' xs fz lk hL
      split at e
      ·rename_i x e2
       cases e
       have:=TV.as_eq e2
       cases this
       obtain⟨us,i1,i2,i3⟩:=ih vs y _ _ hf2 e1 hc
       have hL':hl st.hp k=some (some ⟨true,.arr m t,x,fz,lk⟩):=hL
       obtain⟨q1,q2,q3⟩:=repAV_whole.1 hu2 _ hL'
       refine⟨u::us,hrun us i1,⟨u,us,rfl, ?_⟩,fun k' hk'=> ?_⟩
       ·rcases own_ret R hU hL' (by simpa[Blk.len,lenT] using q3) q1.symm false (fun h=>by cases h) hG1 hG0 hf1 with⟨a1,a2,a3⟩|⟨b,cap,a1,a2⟩
        ·refine .inl ⟨a2,a3, ?_⟩
         rw[List.filterMap_cons,a1];exact i2
        ·exact .inr ⟨b,_,by rw[List.filterMap_cons,a1];rfl,a2,i2⟩
       ·rcases List.mem_cons.1 hk' with rfl|h
        ·exact⟨_,hL'⟩
        ·exact i3 k' h
      ·cases e
     ·cases e
    ·cases e
   |ownw t=>
    simp only at e
    split at e
    ·cases e
     obtain⟨us,i1,i2,i3⟩:=ih vs y _ _ hf2 e1 hc
     have hv:u= .slice none 0 0:=by have:=repA_nt hu2 rfl;simpa[RepA] using this
     exact⟨u::us,hrun us i1,⟨u,us,rfl,.inl ⟨hv,rfl,i2⟩⟩,i3⟩
    ·rename_i k root
     split at e
     ·rename_i m w' xs lk hL
      split at e
      ·rename_i x e2
       cases e
       have:=TV.as_eq e2
       cases this
       obtain⟨us,i1,i2,i3⟩:=ih vs y _ _ hf2 e1 hc
       have hL':hl st.hp k=some (some ⟨true,.arr m t,x,false,lk⟩):=hL
       obtain⟨q1,q2,q3⟩:=repAV_whole.1 hu2 _ hL'
       refine⟨u::us,hrun us i1,⟨u,us,rfl, ?_⟩,fun k' hk'=> ?_⟩
       ·rcases own_ret R hU hL' (by simpa[Blk.len,lenT] using q3) q1.symm true (fun _=>rfl) hG1 hG0 hf1 with⟨a1,a2,a3⟩|⟨b,cap,a1,a2⟩
        ·refine .inl ⟨a2,a3, ?_⟩
         rw[List.filterMap_cons,a1];exact i2
        ·exact .inr ⟨b,_,by rw[List.filterMap_cons,a1];rfl,a2,i2⟩
       ·rcases List.mem_cons.1 hk' with rfl|h
        ·exact⟨_,hL'⟩
        ·exact i3 k' h
      ·cases e
     ·cases e
    ·cases e
   |vlk t ps=>
    have hneed:need=true:=by
     cases need
     ·have:=hf1 rfl;cases this
     ·rfl
    simp only at e
    split at e
    ·rename_i t' x' l
     split at e
     ·rename_i x e2
      have:=TV.as_eq e2
      cases this
      split at e
      ·rename_i l2 e3
       cases e
       obtain⟨us,i1,i2,i3⟩:=ih vs y _ _ hf2 e1 hc
       obtain⟨j1,j2⟩:=rows_ret R hU hu2 ps l2 e3
       obtain⟨v',e0,hr,_⟩:=repA_nt hu2 rfl
       simp only[List.cons.injEq,and_true] at e0
       subst e0
       rw[hG1 hneed] at i2⊢
       refine⟨u::us,hrun us i1,⟨u,us,_,_,rfl,List.filterMap_append,hr,j1,i2⟩,fun k hk=> ?_⟩
       rcases List.mem_append.1 hk with hk|hk
       ·exact j2 k hk
       ·exact i3 k hk
      ·cases e
     ·cases e
    ·cases e
theorem argAV_rep {t:Ty}{x:t.den}{v:Value}(h:RepV F t x v):(argAV t x).keys=[]∧∀ρ L,RepAV F ρ L (argAV t x) v:=by
 cases t<;>first
  |exact⟨rfl,fun ρ L=>repAV_val.2 h⟩
  |(refine⟨rfl,fun ρ L=> ?_⟩
    obtain⟨b,off,ds,e,h1,h2⟩:=h
    simp only[List.cons.injEq,and_true] at e
    exact repAV_cptr.2 ⟨b,off,ds,e,h1,h2⟩)
theorem initTm_look :∀(ts:List Ty) (i:Nat) (xs:Tup ts) (vs:List Value) (n:Nat) (av:AV),RepArgs F ts xs vs→look n (initTm i ts xs)=some av→av.keys=[]∧∃v,vs[n-i]? =some v∧i≤n∧∀ρ L,RepAV F ρ L av v:=by
 intro ts
 induction ts with
 |nil=>intro i xs vs n av _ h;cases h
 |cons t ts ih=>
  rintro i xs vs n av ⟨v,r,rfl,h1,h2⟩ h
  simp only[initTm,look_cons] at h
  split at h
  ·rename_i hn;subst hn;cases h
   exact⟨(argAV_rep h1).1,v,by simp,Nat.le_refl _,(argAV_rep h1).2⟩
  ·rename_i hn
   obtain⟨k1,u,k2,k3,k4⟩:=ih (i+1) xs.2 r n av h2 h
   refine⟨k1,u, ?_,by omega,k4⟩
   rw[show n-i=(n-(i+1))+1 by omega,List.getElem?_cons_succ];exact k2
theorem repArgs_len :∀(ts:List Ty) (xs:Tup ts) (vs:List Value),RepArgs F ts xs vs→vs.length=ts.length:=by
 intro ts
 induction ts with
 |nil=>intro xs vs h;cases h;rfl
 |cons t ts ih=>rintro xs vs ⟨v,r,rfl,_,h⟩;simp[ih _ _ h]
theorem fn_sound (hE:Ok E)(hm:E.P.follows .mixedOrders=true){f:FuncId}{fn:Func}{body:Code}{c:Con}{N:Tup c.params→Notes}(hf:E.P.funcs[f]? =some fn)(hn:(fn.name== "runtime.NumGoroutine")=false)
 (hb:fn.body=some body) (hnt:E.ntm=fn.ntmps) (hpl:c.params.length≤fn.ntmps) (h:fnVC E c N body fn.results.toList):Sound E.P E.glob f c:=by
 refine⟨⟨fn,hf,hn,by rw[hb];rfl⟩, ?_⟩
 intro F w xs vs hcons hgl hargs hpre
 have hvl:=repArgs_len _ _ _ hargs
 refine calls_of_wp hf hb ?_
 have hvc:=tall_at _ _ h xs hpre
 have R:Rel E (fun _=>none) F ⟨w,fun b=>w.heap.size≤b⟩ F (fun _=>none) ⟨initTm 0 c.params xs,[]⟩ {tmps:=vs.toArray++Array.replicate (fn.ntmps-vs.toArray.size) undef,defers:=[]} w:=by
  refine⟨⟨hcons,(fun k blk h=>by cases h),(fun k k' x x' b c c' h=>by cases h),(fun k blk h=>by cases h)⟩,Kept.refl _ _,(fun b hb=>hb),hgl,FH.le.rfl,fun _ _=>rfl,fun n av hn=> ?_,fun n av hn k hk=> ?_, ?_,rfl,(fun n v h=>by cases h),(fun n v h=>by cases h)⟩
  ·obtain⟨_,v,h1,_,h2⟩:=initTm_look _ _ _ _ _ _ hargs hn
   simp only[Nat.sub_zero] at h1
   have hlt:n<vs.length:=(List.getElem?_eq_some_iff.1 h1).1
   have:(vs.toArray++Array.replicate (fn.ntmps-vs.toArray.size) undef).getD n undef=v:=by
    rw[Array.getD_eq_getD_getElem?,Array.getElem?_append_left (by simpa using hlt)]
    simp[h1]
   rw[this];exact h2 _ _
  ·obtain⟨h1,_⟩:=initTm_look _ _ _ _ _ _ hargs hn
   rw[h1] at hk;cases hk
  ·rw[hnt];simp;omega
 refine wp_mono (wpA_sound body hE hm R hvc) ?_
 rintro e a' w' ⟨st',F',ρ',R',hq⟩
 have fin:retQ E c fn.results.toList xs .ret st'→a'.defers=[]∧∃v,(results fn a'.tmps).run E.P w'= .ok v w'∧∃u F'' rv bs,Ending.returned v= .returned u∧F.le F''∧(∀b,b<w.heap.size→F'' b=F b)∧(∀b i v,F'' b i=some v→cellAt w'.heap b i=some v)∧
  RepRets F'' w'.heap w.heap.size c.rets (c.fn xs) rv bs∧bs.Nodup∧RetV rv u∧Below w.heap.size w w':=by
  intro hq
  simp only[retQ] at hq
  split at hq
  ·rename_i r cs ks er
   split at hq
   ·rename_i hks
    obtain⟨hc,hr⟩:=conjK_out cs hq
    have hkn:=nodup_of hks
    have hG:∃G:FH,((!(c.rets.all RK.flatOk))=true→G=F')∧((!(c.rets.all RK.flatOk))=false→∀b i,w.heap.size≤b→G b i=none)∧F.le G∧(∀b,b<w.heap.size→G b=F b)∧(∀b i v,G b i=some v→cellAt w'.heap b i=some v):=by
     cases hfl:c.rets.all RK.flatOk
     ·exact⟨F',fun _=>rfl,(fun h=>by cases h),R'.le,fun b hb=>R'.base b (Nat.not_le_of_lt hb),R'.rel.cons⟩
     ·refine⟨F,(fun h=>by cases h),fun _ b i hb=> ?_,FH.le.rfl,fun _ _=>rfl,fun b i v h=>R'.rel.cons _ _ _ (R'.le _ _ _ h)⟩
      cases hq2:F b i with
      |none=>rfl
      |some v=>have:=cellAt_lt (hcons _ _ _ hq2);omega
    obtain⟨G,g1,g2,g3,g4,g5⟩:=hG
    obtain⟨us,i1,i2,i3⟩:=readR_sound hE R' g1 g2 (fun b hb=>hb) c.rets fn.results.toList r cs ks (fun h=>by simpa using h) er hc
    have hrun:(results fn a'.tmps).run E.P w'= .ok (if h:us.toArray.size=1 then us.toArray[0] else .tuple us.toArray) w':=by
     rw[results_eq,Array.mapM_eq_mapM_toList,Sem.run_bind,Sem.run_map,i1]
     simp
    refine⟨R'.defers,_,hrun,_,G,us,_,rfl,g3,g4,g5,by rw[←hr];exact i2, ?_, ?_,⟨R'.below.os,R'.below.tape,R'.below.output,R'.below.size,fun k hk=>R'.below.block k (Nat.not_le_of_lt hk)⟩⟩
    ·
     clear i2 hr er hq
     induction ks with
     |nil=>exact List.nodup_nil
     |cons k ks ih=>
      rw[List.nodup_cons] at hkn
      simp only[nodupB,Bool.and_eq_true] at hks
      rw[List.filterMap_cons]
      have i4:=ih hks.2 hkn.2 (fun k' h=>i3 k' (List.mem_cons_of_mem _ h))
      cases hρ:ρ' k with
      |none=>exact i4
      |some p=>
       obtain⟨b,cap⟩:=p
       simp only[Option.map_some]
       rw[List.nodup_cons]
       refine⟨fun hmem=> ?_,i4⟩
       simp only[List.mem_filterMap] at hmem
       obtain⟨k',hk',hb'⟩:=hmem
       obtain⟨b1,hb1⟩:=i3 k List.mem_cons_self
       obtain⟨b2,hb2⟩:=i3 k' (List.mem_cons_of_mem _ hk')
       cases hρ2:ρ' k' with
       |none=>rw[hρ2] at hb';cases hb'
       |some p2=>
        obtain⟨b',cap'⟩:=p2
        rw[hρ2] at hb'
        simp at hb'
        subst hb'
        have:=R'.rel.inj _ _ _ _ _ _ _ hb1 hb2 hρ hρ2
        subst this
        exact hkn.1 hk'
    ·by_cases h1:us.length=1
     ·refine .inl ⟨us.toArray[0]'(by simp[h1]), ?_,by simp[h1]⟩
      obtain⟨x,rfl⟩:=List.length_eq_one_iff.1 h1
      rfl
     ·exact .inr ⟨h1,by simp[h1]⟩
   ·exact hq.elim
  ·exact hq.elim
 cases e with
 |normal=>exact fin hq
 |ret=>exact fin hq
 |_=>exact hq.elim
def initP (c:ConP)(x:c.t.den)(ys:Tup c.params):St:=⟨(0,.ptr base c.t [])::initTm 1 c.params ys,mkHp c.vars (x,())⟩
def retP (E:Env)(c:ConP)(res:List ResultVar)(x:c.t.den)(ys:Tup c.params)(e:Exit)(s:St):Prop:=
 match e with
 | .normal| .ret=>match readV s c.vars,readR E s false c.rets res with
   |some (y,ks),some (r,cs,_)=>if nodupB (ks.map (·.2)) then conjK cs ((y.1,r)=c.fn x ys) else False
   |_,_=>False
 |_=>False
def fnVCP (E:Env)(c:ConP)(N:c.t.den→Tup c.params→Notes)(body:Code)(res:List ResultVar):Prop:=
 ∀x:c.t.den,tall c.params (fun ys=>c.pre x ys→wpA (N x ys) E body (retP E c res x ys) (initP c x ys))
theorem readR_plain (hE:Ok E)(R:Rel E fix F0 w0 F ρ st a w):
 ∀(rs:List RK) (vs:List ResultVar) (r:RTup rs) (cs:List Prop) (ks:List Nat),rs.all RK.plain=true→readR E st false rs vs=some (r,cs,ks)→(∀c,c∈cs→c)→
 ∃us,(vs.mapM (resRun a.tmps)).run E.P w= .ok us w∧∀(G:FH) (H:Array Obj) (B:Nat),RepRets G H B rs r us []:=by
 intro rs
 induction rs with
 |nil=>
  intro vs r cs ks _ e _
  cases vs with
  |nil=>cases e;exact⟨[],by simp,fun _ _ _=>⟨rfl,rfl⟩⟩
  |cons v vs=>simp[readR] at e
 |cons rk rs ih=>
  intro vs r cs ks hf e hc
  simp only[List.all_cons,Bool.and_eq_true] at hf
  cases vs with
  |nil=>simp[readR] at e
  |cons v vs=>
   simp only[readR] at e
   split at e
   ·cases e
   rename_i y cs1 ks1 e1
   split at e
   ·cases e
   rename_i av hav
   obtain⟨u,hu1,hu2⟩:=resAV_sound hE R hav
   cases rk with
   |deep t=>
    simp only at e
    split at e
    ·rename_i x cs2 e2
     cases e
     obtain⟨c1,c2⟩:=mem2 hc
     obtain⟨us,i1,i2⟩:=ih vs y cs1 _ hf.2 e1 c2
     have hr:=deepV_sound (E:=false) R.rel hu2 (blkOf_eqM st.hp av) e2 c1
     refine⟨u::us, ?_,fun G H B=>⟨u,us,rfl,repV_flat hf.1 hr,i2 G H B⟩⟩
     simp only[List.mapM_cons,Sem.run_bind,hu1,i1,Result.andThen_ok,Sem.run_pure]
    ·cases e
   |own t=>simp[RK.plain] at hf
   |ownw t=>simp[RK.plain] at hf
   |vlk t ps=>simp[RK.plain] at hf
theorem fnP_sound (hE:Ok E)(hm:E.P.follows .mixedOrders=true){f:FuncId}{fn:Func}{body:Code}{c:ConP}{N:c.t.den→Tup c.params→Notes}(hf:E.P.funcs[f]? =some fn)(hn:(fn.name== "runtime.NumGoroutine")=false)
 (hb:fn.body=some body) (hnt:E.ntm=fn.ntmps) (hpl:c.params.length+1≤fn.ntmps) (hlk:0∈E.lock) (hnm:nodupB (0::c.ps.map (·.2.2))=true) (hplain:c.rets.all RK.plain=true)
 (h:fnVCP E c N body fn.results.toList):SoundP E.P E.glob f c:=by
 refine⟨⟨fn,hf,hn,by rw[hb];rfl⟩, ?_⟩
 intro F U w ρ x ys b cap vs hrel hρ hup hgl hargs hpre
 have hvl:=repArgs_len _ _ _ hargs
 have hvn:(c.vars.flatMap names).Nodup:=by
  simpa[ConP.vars,names] using nodup_of hnm
 refine calls_of_wp hf hb ?_
 have hvc:=tall_at _ _ (h x) ys hpre
 have hpb:hl (mkHp c.vars (x,())) base=some (some ⟨false,c.t,x,false,c.ps.map (fun q=>(q.1,base+q.2.2))⟩):=by
  have:=look_mkHp_at (vs:=c.vars) (x:=(x,())) hvn (m:=0) (blk:=⟨false,c.t,x,false,c.ps.map (fun q=>(q.1,base+q.2.2))⟩) (by simp[ConP.vars,allBlks,blksOf])
  exact this
 have hnav:c.t.nav []=some (c.t,0):=by cases c.t<;>rfl
 have tm0:((Value.pointer (some ⟨b,0,none⟩)::vs).toArray++Array.replicate (fn.ntmps-(Value.pointer (some ⟨b,0,none⟩)::vs).toArray.size) undef).getD 0 undef= .pointer (some ⟨b,0,none⟩):=by
  rw[Array.getD_eq_getD_getElem?,Array.getElem?_append_left (by simp)];simp
 have R:Rel E (fun n=>if n=0 then some (.pointer (some ⟨b,0,none⟩)) else none) F ⟨w,U⟩ F ρ (initP c x ys) {tmps:=(Value.pointer (some ⟨b,0,none⟩)::vs).toArray++Array.replicate (fn.ntmps-(Value.pointer (some ⟨b,0,none⟩)::vs).toArray.size) undef,defers:=[]} w:=by
  refine⟨hrel,Kept.refl _ _,hup,hgl,FH.le.rfl,fun _ _=>rfl,fun n av hn=> ?_,fun n av hn k hk=> ?_, ?_,rfl,fun n v hfx=> ?_,fun n v hfx=> ?_⟩
  ·simp only[initP,look_cons] at hn
   split at hn
   ·rename_i h0
    subst h0
    cases hn
    rw[tm0]
    refine repAV_ptr.2 (fun blk hb=> ?_)
    have hb:hl (mkHp c.vars (x,())) base=some (some blk):=hb
    rw[hpb] at hb
    cases hb
    exact⟨rfl,by simp[okB,okT],b,cap,c.t,0,hρ,hnav,by rw[hrel.base0 hpb hρ rfl]⟩
   ·rename_i h0
    obtain⟨_,v,h1,h3,h2⟩:=initTm_look _ _ _ _ _ _ hargs hn
    have hlt:n-1<vs.length:=(List.getElem?_eq_some_iff.1 h1).1
    have:((Value.pointer (some ⟨b,0,none⟩)::vs).toArray++Array.replicate (fn.ntmps-(Value.pointer (some ⟨b,0,none⟩)::vs).toArray.size) undef).getD n undef=v:=by
     rw[Array.getD_eq_getD_getElem?,Array.getElem?_append_left (by simp;omega)]
     have:n=(n-1)+1:=by omega
     rw[this]
     simp[h1]
    rw[this];exact h2 _ _
  ·simp only[initP,look_cons] at hn
   split at hn
   ·cases hn
    simp only[AV.keys,List.mem_singleton] at hk
    subst hk
    show(hl (mkHp c.vars (x,())) base).isSome=true
    rw[hpb];rfl
   ·obtain⟨h1,_⟩:=initTm_look _ _ _ _ _ _ hargs hn
    rw[h1] at hk;cases hk
  ·rw[hnt];simp;omega
  ·split at hfx
   ·rename_i h0;subst h0;cases hfx;exact tm0
   ·cases hfx
  ·split at hfx
   ·rename_i h0;subst h0;exact hlk
   ·cases hfx
 refine wp_mono (wpA_sound body hE hm R hvc) ?_
 rintro e a' w' ⟨st',F',ρ',R',hq⟩
 have fin:retP E c fn.results.toList x ys .ret st'→a'.defers=[]∧∃v,(results fn a'.tmps).run E.P w'= .ok v w'∧∃u F'' ρ'' rv,Ending.returned v= .returned u∧F.le F''∧(∀b,¬U b→F'' b=F b)∧HRel F'' ρ'' (hl (mkHp c.vars ((c.fn x ys).1,()))) w'.heap U∧(∃cap',ρ'' base=some (b,cap'))∧
  RepRets F'' w'.heap w.heap.size c.rets (c.fn x ys).2 rv []∧RetV rv u∧Kept U w w':=by
  intro hq
  simp only[retP] at hq
  split at hq
  ·rename_i y ks r cs ks2 er1 er2
   split at hq
   ·rename_i hks
    obtain⟨hc,hr⟩:=conjK_out cs hq
    obtain⟨us,i1,i2⟩:=readR_plain hE R' c.rets fn.results.toList r cs _ hplain er2 hc
    have hrun:(results fn a'.tmps).run E.P w'= .ok (if h:us.toArray.size=1 then us.toArray[0] else .tuple us.toArray) w':=by
     rw[results_eq,Array.mapM_eq_mapM_toList,Sem.run_bind,Sem.run_map,i1]
     simp
    have hsl:slotsOk (⟨[],[],c.vars,fun _=>True,fun _=>0⟩:Ann)=true:=by
     show nodupB _=true
     simpa[ConP.vars,names] using hnm
    have R2:=cut_sound (A:=⟨[],[],c.vars,fun _=>True,fun _=>0⟩) hsl R' er1 hks (kept:=[]) (fun n av h=>by cases h)
    have h0:=R2.tm 0 (.ptr base c.t []) rfl
    rw[R2.fixed 0 _ (if_pos rfl)] at h0
    obtain⟨y1,yu⟩:=y
    have hpb2:hl (mkHp c.vars (y1,yu)) base=some (some ⟨false,c.t,y1,false,c.ps.map (fun q=>(q.1,base+q.2.2))⟩):=by
     have:=look_mkHp_at (vs:=c.vars) (x:=(y1,yu)) hvn (m:=0) (blk:=⟨false,c.t,y1,false,c.ps.map (fun q=>(q.1,base+q.2.2))⟩) (by simp[ConP.vars,allBlks,blksOf])
     exact this
    obtain⟨_,_,b',cap',u',off',g1,g2,g3⟩:=repAV_ptr.1 h0 _ hpb2
    have hbb:b'=b:=by
     simp only[Value.pointer.injEq,Option.some.injEq,Addr.mk.injEq] at g3
     exact g3.1.symm
    subst hbb
    rw[←hr]
    refine⟨R'.defers,_,hrun,_,F',cutρ ks ρ',us,rfl,R'.le,R'.base,R2.rel,⟨cap',g1⟩,i2 _ _ _, ?_,R'.below⟩
    by_cases h1:us.length=1
    ·refine .inl ⟨us.toArray[0]'(by simp[h1]), ?_,by simp[h1]⟩
     obtain⟨x,rfl⟩:=List.length_eq_one_iff.1 h1
     rfl
    ·exact .inr ⟨h1,by simp[h1]⟩
   ·exact hq.elim
  ·exact hq.elim
 cases e with
 |normal=>exact fin hq
 |ret=>exact fin hq
 |_=>exact hq.elim
def initV (c:ConV)(x:c.t.den)(ys:Tup c.params):St:=⟨(0,avOf 0 (.valL c.t c.ps) x)::initTm 1 c.params ys,mkHp c.vars (x,())⟩
def retV (E:Env)(c:ConV)(res:List ResultVar)(x:c.t.den)(ys:Tup c.params)(e:Exit)(s:St):Prop:=
 match e with
 | .normal| .ret=>match res with
   |[v]=>match resAV E s v with
    |some av=>match readV ⟨[(0,av)],s.hp⟩ c.vars with
     |some (y,ks)=>if nodupB (ks.map (·.2)) then y.1=c.fn x ys else False
     |none=>False
    |none=>False
   |_=>False
 |_=>False
def fnVCV (E:Env)(c:ConV)(N:c.t.den→Tup c.params→Notes)(body:Code)(res:List ResultVar):Prop:=
 ∀x:c.t.den,tall c.params (fun ys=>c.pre x ys→wpA (N x ys) E body (retV E c res x ys) (initV c x ys))
theorem resAV_keys (R:Rel E fix F0 w0 F ρ st a w){v:ResultVar}{av:AV}(e:resAV E st v=some av):∀k,k∈av.keys→(hl st.hp k).isSome:=by
 cases v with
 |tmp t=>exact R.keys _ _ e
 |cell x tid=>
  simp only[resAV] at e
  split at e
  ·rename_i k root hk
   split at e
   ·rename_i b hb
    split at e
    ·cases e
    ·split at e
     ·cases e
      intro kk hkk
      split at hkk
      ·cases hkk
      ·simp only[AV.keys,List.mem_map] at hkk
       obtain⟨q,hq,rfl⟩:=hkk
       exact(R.rel.lnk k b hb q.1 q.2 hq).1
     ·cases e
   ·cases e
  ·cases e
theorem fnV_sound (hE:Ok E)(hm:E.P.follows .mixedOrders=true){f:FuncId}{fn:Func}{body:Code}{c:ConV}{N:c.t.den→Tup c.params→Notes}(hf:E.P.funcs[f]? =some fn)(hn:(fn.name== "runtime.NumGoroutine")=false)
 (hb:fn.body=some body) (hnt:E.ntm=fn.ntmps) (hpl:c.params.length+1≤fn.ntmps) (hnm:nodupB (0::c.ps.map (·.2.2))=true)
 (h:fnVCV E c N body fn.results.toList):SoundV E.P E.glob f c:=by
 refine⟨⟨fn,hf,hn,by rw[hb];rfl⟩, ?_⟩
 intro F U w ρ x ys v0 vs hrel hval hup hgl hargs hpre
 have hvl:=repArgs_len _ _ _ hargs
 have hvn:(c.vars.flatMap names).Nodup:=by
  simpa[ConV.vars,names] using nodup_of hnm
 refine calls_of_wp hf hb ?_
 have hvc:=tall_at _ _ (h x) ys hpre
 have tm0:((v0::vs).toArray++Array.replicate (fn.ntmps-(v0::vs).toArray.size) undef).getD 0 undef=v0:=by
  rw[Array.getD_eq_getD_getElem?,Array.getElem?_append_left (by simp)];simp
 have hlive:∀q,q∈c.ps→(hl (mkHp c.vars (x,())) (base+q.2.2)).isSome:=by
  intro q hq
  have:hl (mkHp c.vars (x,())) (base+q.2.2)=some (some (linkB c.t x q).2):=look_mkHp_at hvn (by
   simp only[ConV.vars,allBlks,blksOf,List.append_nil,List.mem_map]
   exact⟨q,hq,rfl⟩)
  rw[this];rfl
 have R:Rel E (fun _=>none) F ⟨w,U⟩ F ρ (initV c x ys) {tmps:=(v0::vs).toArray++Array.replicate (fn.ntmps-(v0::vs).toArray.size) undef,defers:=[]} w:=by
  refine⟨hrel,Kept.refl _ _,hup,hgl,FH.le.rfl,fun _ _=>rfl,fun n av hn=> ?_,fun n av hn k hk=> ?_, ?_,rfl,fun n v hfx=>(by cases hfx),fun n v hfx=>(by cases hfx)⟩
  ·simp only[initV,look_cons] at hn
   split at hn
   ·rename_i h0
    subst h0
    cases hn
    rw[tm0];exact hval
   ·rename_i h0
    obtain⟨_,v,h1,h3,h2⟩:=initTm_look _ _ _ _ _ _ hargs hn
    have hlt:n-1<vs.length:=(List.getElem?_eq_some_iff.1 h1).1
    have:((v0::vs).toArray++Array.replicate (fn.ntmps-(v0::vs).toArray.size) undef).getD n undef=v:=by
     rw[Array.getD_eq_getD_getElem?,Array.getElem?_append_left (by simp;omega)]
     have:n=(n-1)+1:=by omega
     rw[this]
     simp[h1]
    rw[this];exact h2 _ _
  ·simp only[initV,look_cons] at hn
   split at hn
   ·cases hn
    simp only[avOf,AV.keys,List.map_map,List.mem_map] at hk
    obtain⟨q,hq,rfl⟩:=hk
    exact hlive q hq
   ·obtain⟨h1,_⟩:=initTm_look _ _ _ _ _ _ hargs hn
    rw[h1] at hk;cases hk
  ·rw[hnt];simp;omega
 refine wp_mono (wpA_sound body hE hm R hvc) ?_
 rintro e a' w' ⟨st',F',ρ',R',hq⟩
 have fin:retV E c fn.results.toList x ys .ret st'→a'.defers=[]∧∃v,(results fn a'.tmps).run E.P w'= .ok v w'∧∃u F'' ρ'',Ending.returned v= .returned u∧F.le F''∧(∀b,¬U b→F'' b=F b)∧HRel F'' ρ'' (hl (mkHp c.vars (c.fn x ys,()))) w'.heap U∧
  RepAV F'' ρ'' (hl (mkHp c.vars (c.fn x ys,()))) (avOf 0 (.valL c.t c.ps) (c.fn x ys)) u∧Kept U w w':=by
  intro hq
  simp only[retV] at hq
  split at hq
  ·rename_i rv hres
   split at hq
   ·rename_i av hav
    split at hq
    ·rename_i y ks er1
     split at hq
     ·rename_i hks
      obtain⟨u,hu1,hu2⟩:=resAV_sound hE R' hav
      have hkeys:=resAV_keys R' hav
      have hrun:(results fn a'.tmps).run E.P w'= .ok u w':=by
       rw[results_eq,Array.mapM_eq_mapM_toList,Sem.run_bind,Sem.run_map,hres]
       simp only[List.mapM_cons,List.mapM_nil,Sem.run_bind,hu1,Result.andThen_ok,Sem.run_pure]
       simp
      have R0:Rel {E with ntm:=1,lock:=[]} (fun _=>none) F ⟨w,U⟩ F' ρ' ⟨[(0,av)],st'.hp⟩ {a' with tmps:= #[u]} w':=by
       refine⟨R'.rel,R'.below,R'.up,R'.glob,R'.le,R'.base, ?_, ?_,rfl,R'.defers,fun n v h=>(by cases h),fun n v h=>(by cases h)⟩
       ·intro n av2 h
        simp only[look_cons] at h
        split at h
        ·rename_i hn;subst hn;cases h;exact hu2
        ·cases h
       ·intro n av2 h kk hkk
        simp only[look_cons] at h
        split at h
        ·cases h;exact hkeys kk hkk
        ·cases h
      have hsl:slotsOk (⟨[],[],c.vars,fun _=>True,fun _=>0⟩:Ann)=true:=by
       show nodupB _=true
       simpa[ConV.vars,names] using hnm
      have R2:=cut_sound (A:=⟨[],[],c.vars,fun _=>True,fun _=>0⟩) hsl R0 er1 hks (kept:=[]) (fun n av h=>by cases h)
      obtain⟨y1,yu⟩:=y
      have hq:y1=c.fn x ys:=hq
      subst hq
      have h0:=R2.tm 0 (avOf 0 (.valL c.t c.ps) (c.fn x ys)) rfl
      exact⟨R'.defers,_,hrun,_,F',cutρ ks ρ',rfl,R'.le,R'.base,R2.rel,h0,R'.below⟩
     ·exact hq.elim
    ·exact hq.elim
   ·exact hq.elim
  ·exact hq.elim
 cases e with
 |normal=>exact fin hq
 |ret=>exact fin hq
 |_=>exact hq.elim
end
end Lc
namespace Lc
open Go Go.RowKit
def Ret1 {α:Type}(a b:α):Prop:=(a,())=(b,())
def Ret2 {α β:Type}(a:α)(b:β)(y:α×β):Prop:=(a,(b,()))=(y.1,(y.2,()))
def Ret3 {α β γ:Type}(a:α)(b:β)(c:γ)(y:α×β×γ):Prop:=(a,(b,(c,())))=(y.1,(y.2.1,(y.2.2,())))
theorem ret1 {α:Type}{a b:α}:Ret1 a b↔a=b:=by simp[Ret1]
theorem ret2 {α β:Type}{a:α}{b:β}{y:α×β}:Ret2 a b y↔(a,b)=y:=by obtain⟨y1,y2⟩:=y;simp[Ret2]
theorem ret3 {α β γ:Type}{a:α}{b:β}{c:γ}{y:α×β×γ}:Ret3 a b c y↔(a,b,c)=y:=by obtain⟨y1,y2,y3⟩:=y;simp[Ret3]
def bytesOf (s:ByteArray):List Int:=(ByteArray.toList s).map fun(c:UInt8)=>((c.toNat:Nat):Int)
theorem look_mem {α:Type}{n:Nat}{v:α}:∀{l:List (Nat×α)},look n l=some v→(n,v)∈l:=by
 intro l
 induction l with
 |nil=>intro h;cases h
 |cons p l ih=>
  obtain⟨m,u⟩:=p
  intro h
  simp only[look] at h
  split at h
  ·rename_i hb
   cases h
   have:n=m:=Nat.eq_of_beq_eq_true hb
   subst this
   exact List.mem_cons_self
  ·exact List.mem_cons_of_mem _ (ih h)
def tabB (P:Program)(tab:List (Nat×Ty)):Bool:=tab.all fun p=>tOkB P p.2 (.inl p.1)
def bytB (P:Program)(byt:List (Nat×Nat))(tab:List (Nat×Ty)):Bool:=tab.all fun p=>match p.2 with
 | .slc _=>match P.underlying p.1 with
   |some (.slice e)=>match P.info? e with
    |some i=>Nat.ble i.bytes ((look p.1 byt).getD 0)
    |none=>true
   |_=>true
 |_=>true
theorem envOk_of {E:Env}{tab:List (Nat×Ty)}{byt:List (Nat×Nat)}(h1:E.ty=fun n=>look n tab)(h2:E.bytes=fun n=>(look n byt).getD 0)
 (h3:tabB E.P tab=true) (h4:bytB E.P byt tab=true) (h5:∀f m,E.turn f=some m→SoundM E.P f m:=by intro f m h;cases h) (h6:∀f u,E.grow f=some u→SoundG E.P f u:=by intro f u h;cases h):EnvOk E:=by
 refine⟨?_, ?_,h5,h6⟩
 ·intro id t e
  rw[h1] at e
  exact(List.all_eq_true.1 h3) _ (look_mem e)
 ·intro id u e i e1 e2 e3
  rw[h1] at e1
  have:=(List.all_eq_true.1 h4) _ (look_mem e1)
  simp only[e2,e3] at this
  rw[h2]
  exact Nat.le_of_ble_eq_true this
def SoundAll (P:Program)(G:Nat→Option TV)(l:List (Nat×Con)):Prop:=∀p,p∈l→SoundC P G p.1 p.2
theorem SoundAll.nil {P:Program}{G:Nat→Option TV}:SoundAll P G []:=fun _ h=>by cases h
theorem SoundAll.cons {P:Program}{G:Nat→Option TV}{l:List (Nat×Con)}{f:Nat}{c:Con}(h:SoundAll P G l)(hs:Sound P G f c):SoundAll P G ((f,c)::l):=by
 intro p hp
 rcases List.mem_cons.1 hp with rfl|hp
 ·exact .inl hs
 ·exact h _ hp
theorem SoundAll.consE {P:Program}{G:Nat→Option TV}{l:List (Nat×Con)}{f:Nat}{c:Con}(h:SoundAll P G l)(hs:SoundE P f c):SoundAll P G ((f,c)::l):=by
 intro p hp
 rcases List.mem_cons.1 hp with rfl|hp
 ·exact .inr hs
 ·exact h _ hp
def SoundPAll (P:Program)(G:Nat→Option TV)(l:List (Nat×ConP)):Prop:=∀p,p∈l→SoundP P G p.1 p.2
theorem SoundPAll.nil {P:Program}{G:Nat→Option TV}:SoundPAll P G []:=fun _ h=>by cases h
theorem SoundPAll.cons {P:Program}{G:Nat→Option TV}{l:List (Nat×ConP)}{f:Nat}{c:ConP}(h:SoundPAll P G l)(hs:SoundP P G f c):SoundPAll P G ((f,c)::l):=by
 intro p hp
 rcases List.mem_cons.1 hp with rfl|hp
 ·exact hs
 ·exact h _ hp
theorem ok_of {E:Env}{l:List (Nat×Con)}(h:EnvOk E)(hc:E.con=fun f=>look f l)(hs:SoundAll E.P E.glob l)(hp:∀f c,E.ptr f=some c→SoundP E.P E.glob f c)(hv:∀f c,E.byv f=some c→SoundV E.P E.glob f c):Ok E:=
 ⟨h,fun f c e=>hs _ (look_mem (by rw[hc] at e;exact e)),hp,hv⟩
theorem ptr_of {P:Program}{G:Nat→Option TV}{l:List (Nat×ConP)}(h:SoundPAll P G l):∀f c,look f l=some c→SoundP P G f c:=fun f c e=>h (f,c) (look_mem e)
def SoundVAll (P:Program)(G:Nat→Option TV)(l:List (Nat×ConV)):Prop:=∀p,p∈l→SoundV P G p.1 p.2
theorem SoundVAll.nil {P:Program}{G:Nat→Option TV}:SoundVAll P G []:=fun _ h=>by cases h
theorem SoundVAll.cons {P:Program}{G:Nat→Option TV}{l:List (Nat×ConV)}{f:Nat}{c:ConV}(h:SoundVAll P G l)(hs:SoundV P G f c):SoundVAll P G ((f,c)::l):=by
 intro p hp
 rcases List.mem_cons.1 hp with rfl|hp
 ·exact hs
 ·exact h _ hp
theorem byv_of {P:Program}{G:Nat→Option TV}{l:List (Nat×ConV)}(h:SoundVAll P G l):∀f c,look f l=some c→SoundV P G f c:=fun f c e=>h (f,c) (look_mem e)
def FnOk (P:Program)(f:FuncId):Prop:=∃fn,P.funcs[f]? =some fn∧(fn.name== "runtime.NumGoroutine")=false∧fn.body.isSome=true
theorem SoundP.void {P:Program}{G:Nat→Option TV}{f:FuncId}{c:ConP}(hf:FnOk P f)(h:∀x ys,¬c.pre x ys):SoundP P G f c:=
 ⟨hf,fun _ _ _ _ x ys _ _ _ _ _ _ _ _ hp=>absurd hp (h x ys)⟩
theorem SoundV.void {P:Program}{G:Nat→Option TV}{f:FuncId}{c:ConV}(hf:FnOk P f)(h:∀x ys,¬c.pre x ys):SoundV P G f c:=
 ⟨hf,fun _ _ _ _ x ys _ _ _ _ _ _ _ hp=>absurd hp (h x ys)⟩
theorem SoundV.ex {P:Program}{G:Nat→Option TV}{f:FuncId}{t:Ty}{ps:List (List Stp×Ty×Nat)}{params:List Ty}{pre:Nat→t.den→Tup params→Prop}{fn:t.den→Tup params→t.den}
 (h:∀n,SoundV P G f ⟨t,ps,params,pre n,fn⟩):SoundV P G f ⟨t,ps,params,fun x ys=>∃n,pre n x ys,fn⟩:=
 ⟨(h 0).fn,fun F U w ρ x ys v vs h1 h2 h3 h4 h5 ⟨n,h6⟩=>(h n).calls F U w ρ x ys v vs h1 h2 h3 h4 h5 h6⟩
theorem Sound.void {P:Program}{G:Nat→Option TV}{f:FuncId}{c:Con}(hf:FnOk P f)(h:∀xs,¬c.pre xs):Sound P G f c:=
 ⟨hf,fun _ _ xs _ _ _ _ hp=>absurd hp (h xs)⟩
theorem SoundP.ex {P:Program}{G:Nat→Option TV}{f:FuncId}{t:Ty}{ps:List (List Stp×Ty×Nat)}{params:List Ty}{rets:List RK}{pre:Nat→t.den→Tup params→Prop}{fn:t.den→Tup params→t.den×RTup rets}
 (h:∀n,SoundP P G f ⟨t,ps,params,rets,pre n,fn⟩):SoundP P G f ⟨t,ps,params,rets,fun x ys=>∃n,pre n x ys,fn⟩:=
 ⟨(h 0).fn,fun F U w ρ x ys b cap vs h1 h2 h3 h4 h5 ⟨n,h6⟩=>(h n).calls F U w ρ x ys b cap vs h1 h2 h3 h4 h5 h6⟩
theorem Sound.ex {P:Program}{G:Nat→Option TV}{f:FuncId}{params:List Ty}{rets:List RK}{pre:Nat→Tup params→Prop}{fn:Tup params→RTup rets}
 (h:∀n,Sound P G f ⟨params,rets,pre n,fn⟩):Sound P G f ⟨params,rets,fun xs=>∃n,pre n xs,fn⟩:=
 ⟨(h 0).fn,fun F w xs vs h1 h2 h3 ⟨n,h6⟩=>(h n).calls F w xs vs h1 h2 h3 h6⟩
end Lc
namespace Lc
open Go Go.RowKit Go.ChangeShapes Go.WideShapes Go.ChangeAt
def Ty.one :Ty→Bool
 | .pair a b=>a.one&&b.one
 | .arr _ t=>t.one
 | .slc t=>t.one&&decide (0<t.size)
 | .map _ _| .fn _ _| .ref _=>false
 |_=>true
def Rng :(t:Ty)→t.den→Prop
 | .int k,x=>k.min≤x∧x≤k.max
 | .bool,_=>True
 | .str,s=>ByteArray.size s≤2^63-1
 | .unit,_=>True
 | .pair a b,x=>Rng a x.1∧Rng b x.2
 | .arr n t,xs=>List.length xs=n∧∀x,x∈xs→Rng t x
 | .slc t,xs=>List.length xs≤2^63-1∧∀x,x∈xs→Rng t x
 | .map _ _,_=>True
 | .fn _ _,_=>True
 | .ref _,_=>True
def RngT :(ts:List Ty)→Tup ts→Prop
 |[],_=>True
 |t::ts,x=>Rng t x.1∧RngT ts x.2
def Small (n:Nat):(t:Ty)→t.den→Prop
 | .int _,_=>True
 | .bool,_=>True
 | .str,s=>ByteArray.size s≤n
 | .unit,_=>True
 | .pair a b,x=>Small n a x.1∧Small n b x.2
 | .arr _ t,xs=>∀x,x∈xs→Small n t x
 | .slc t,xs=>List.length xs≤n∧∀x,x∈xs→Small n t x
 | .map _ _,_=>True
 | .fn _ _,_=>True
 | .ref _,_=>True
def SmallT (n:Nat):(ts:List Ty)→Tup ts→Prop
 |[],_=>True
 |t::ts,x=>Small n t x.1∧SmallT n ts x.2
theorem Small.mono {n m:Nat}(h:n≤m):∀(t:Ty) (x:t.den),Small n t x→Small m t x:=by
 intro t
 induction t with
 |int k=>intro x _;trivial
 |bool=>intro x _;trivial
 |str=>intro x h1;exact Nat.le_trans h1 h
 |unit=>intro x _;trivial
 |pair a b iha ihb=>intro x h1;exact⟨iha _ h1.1,ihb _ h1.2⟩
 |arr k t ih=>intro x h1 y hy;exact ih y (h1 y hy)
 |slc t ih=>intro x h1;exact⟨Nat.le_trans h1.1 h,fun y hy=>ih y (h1.2 y hy)⟩
 |map k v _ _=>intro x _;trivial
 |fn f c _=>intro x _;trivial
 |ref c _=>intro x _;trivial
structure Meas {H:Type}(B:DataW H→Nat):Prop where
 str:∀l,l.length≤B (.lit (.string l))
 agg:∀ps p,p∈ps→B p≤B (.agg ps)
 len:∀es sp,es.length≤B (.slice es sp)
 elem:∀es sp e,e∈es→B e≤B (.slice es sp)
theorem cellsOf_eq {P:Program}{t:Ty}{id:TypeId}(h:TyOk P t id):P.cellsOf id=t.size:=by
 obtain⟨i,z,i1,i2,_⟩:=h.info.out
 simp[Program.cellsOf,i1,i2]
section
variable {H : Type} {enc : TypeId × Value → H} {P : Program} {w : World} {base : Nat} {sp : Nat → Bool} {held : Bool}
theorem cells?_get {a:Addr}{n:Nat}{cs:List Value}(h:w.cells? base a n=some cs)(ha:a.spot=none):cs.length=n∧FAt (full w.heap) a.block a.off cs:=by
 unfold World.cells? at h
 split at h
 ·have hl:=Lib.mapM_length h
  refine⟨by simpa using hl,fun i c hc=> ?_⟩
  have hi:i<n:=by
   have:=(List.getElem?_eq_some_iff.1 hc).1
   simp at hl;omega
  obtain⟨b,hb1,hb2⟩:=Lib.mapM_at h i i (by simp[hi])
  rw[hc] at hb1;cases hb1
  simp only[full]
  rw[←cell?_eq]
  have:a.add i=⟨a.block,a.off+i,none⟩:=by
   obtain⟨b,o,s⟩:=a
   simp only at ha
   subst ha
   simp[Addr.add]
  rw[←this];exact hb2
 ·cases h
theorem repL_of {u:Ty}{F:FH}{Q:u.den→Prop}:∀(n:Nat) (cs:List Value),cs.length=n*u.size→(∀i,i<n→∃y:u.den,Rep F u y ((cs.drop (i*u.size)).take u.size)∧Q y)→
 ∃ys:List u.den,ys.length=n∧RepL (Rep F u) ys cs∧∀y,y∈ys→Q y:=by
 intro n
 induction n with
 |zero=>intro cs hl _;exact⟨[],rfl,List.eq_nil_of_length_eq_zero (by simpa using hl),(fun y hy=>by cases hy)⟩
 |succ n ih=>
  intro cs hl h
  obtain⟨y,h1,h2⟩:=h 0 (by omega)
  obtain⟨ys,k1,k2,k3⟩:=ih (cs.drop u.size) (by rw[List.length_drop,hl,Nat.add_mul];omega) (fun i hi=>by
   obtain⟨z,z1,z2⟩:=h (i+1) (by omega)
   refine⟨z, ?_,z2⟩
   rw[List.drop_drop]
   rw[show u.size+i*u.size=(i+1)*u.size by rw[Nat.add_mul];omega]
   exact z1)
  refine⟨y::ys,by simp[k1],⟨cs.take u.size,cs.drop u.size,(List.take_append_drop _ _).symm, ?_,k2⟩, ?_⟩
  ·simpa using h1
  ·intro z hz
   rcases List.mem_cons.1 hz with rfl|hz
   ·exact h2
   ·exact k3 z hz
theorem cells?_spot {a:Addr}{n:Nat}{cs:List Value}(h:w.cells? base a n=some cs)(hn:0<n):a.spot=none:=by
 unfold World.cells? at h
 split at h
 ·obtain⟨b,_,hb2⟩:=Lib.mapM_at h 0 0 (by simp[hn])
  unfold World.cell? at hb2
  split at hb2
  ·obtain⟨ab,ao,as⟩:=a
   cases as with
   |none=>rfl
   |some q=>simp[Addr.add] at hb2
  ·cases hb2
 ·cases h
theorem wf_rng {k:IntKind}{n:Int}(h:(Lit.int k n).wf=true):k.min≤n∧n≤k.max:=by
 simpa[Lit.wf] using h
theorem trod_rep (hspare:∀b,sp b=true):∀(t:Ty),
 (∀(fuel:Nat) (id:TypeId) (cs:List Value) (x:DataW H×List MemPlace),TyOk P t id→t.one=true→DataW.trod enc P w base sp held fuel id cs=some x→
   ∃y:t.den,Rep (full w.heap) t y cs∧Rng t y∧∀B:DataW H→Nat,Meas B→Small (B x.1) t y)∧
 (∀(n:Nat) (fs:List Field) (off:Nat) (cs:List Value),tOkB P t (.inr (fs,off))=true→t.one=true→cs.length=off+t.size→
   (∀f,f∈fs→∃z,DataW.trod enc P w base sp held n f.type ((cs.drop f.offset).take (P.cellsOf f.type))=some z)→∃y:t.den,Rep (full w.heap) t y (cs.drop off)∧Rng t y∧
     ∀(B:DataW H→Nat) (m:Nat),Meas B→(∀f,f∈fs→∀z,DataW.trod enc P w base sp held n f.type ((cs.drop f.offset).take (P.cellsOf f.type))=some z→B z.1≤m)→Small m t y):=by
 intro t
 induction t with
 |int k=>
  refine⟨fun fuel id cs x hty _ h=> ?_,fun n fs off cs h=>by cases fs<;>cases h⟩
  obtain⟨m,rfl,rfl,hw⟩:=DataW.trod_int hty.int h
  exact⟨m,rfl,wf_rng hw,fun _ _=>trivial⟩
 |map k v _ _=>exact⟨fun fuel id cs x hty h1=>(by cases h1),fun n fs off cs h=>by cases fs<;>cases h⟩
 |fn f c _=>exact⟨fun fuel id cs x hty h1=>(by cases h1),fun n fs off cs h=>by cases fs<;>cases h⟩
 |ref c _=>exact⟨fun fuel id cs x hty h1=>(by cases h1),fun n fs off cs h=>by cases fs<;>cases h⟩
 |bool=>
  refine⟨fun fuel id cs x hty _ h=> ?_,fun n fs off cs h=>by cases fs<;>cases h⟩
  obtain⟨m,rfl,rfl⟩:=DataW.trod_bool hty.bool h
  exact⟨m,rfl,trivial,fun _ _=>trivial⟩
 |str=>
  refine⟨fun fuel id cs x hty _ h=> ?_,fun n fs off cs h=>by cases fs<;>cases h⟩
  obtain⟨m,rfl,rfl,hm⟩:=DataW.trod_string hty.str h
  exact⟨m,rfl,hm,fun B hB=>by have:=hB.str m.data.toList;rw[Array.length_toList] at this;exact this⟩
 |unit=>
  refine⟨fun fuel id cs x hty _ h=> ?_,fun n fs off cs h _ hl _=> ?_⟩
  ·obtain⟨fs,h1,h2,h3⟩:=hty.unit
   obtain⟨xs,m,rfl,rfl,hl,_⟩:=DataW.trod_struct h1 h
   refine⟨(), ?_,trivial,fun _ _=>trivial⟩
   rw[cellsOf_eq hty] at hl
   exact List.eq_nil_of_length_eq_zero hl
  ·refine⟨(), ?_,trivial,fun _ _ _ _=>trivial⟩
   exact List.eq_nil_of_length_eq_zero (by rw[List.length_drop,hl];simp[Ty.size])
 |pair a b iha ihb=>
  have step:∀(n:Nat) (f:Field) (fs:List Field) (off:Nat) (cs:List Value),f.offset=off→TyOk P a f.type→tOkB P b (.inr (fs,off+a.size))=true→(Ty.pair a b).one=true→cs.length=off+(Ty.pair a b).size→
   (∀g,g∈f::fs→∃z,DataW.trod enc P w base sp held n g.type ((cs.drop g.offset).take (P.cellsOf g.type))=some z)→∃y:(Ty.pair a b).den,Rep (full w.heap) (.pair a b) y (cs.drop off)∧Rng (.pair a b) y∧
     ∀(B:DataW H→Nat) (m:Nat),Meas B→(∀g,g∈f::fs→∀z,DataW.trod enc P w base sp held n g.type ((cs.drop g.offset).take (P.cellsOf g.type))=some z→B z.1≤m)→Small m (.pair a b) y:=by
   intro n f fs off cs ho hta htb hone hl hf
   simp only[Ty.one,Bool.and_eq_true] at hone
   obtain⟨z,hz⟩:=hf f List.mem_cons_self
   have hz0:=hz
   rw[ho,cellsOf_eq hta] at hz
   obtain⟨ya,a1,a2,a3⟩:=iha.1 n f.type _ z hta hone.1 hz
   obtain⟨yb,b1,b2,b3⟩:=ihb.2 n fs (off+a.size) cs htb hone.2 (by rw[hl];simp[Ty.size];omega) (fun g hg=>hf g (List.mem_cons_of_mem _ hg))
   refine⟨(ya,yb),⟨_,_, ?_,a1,b1⟩,⟨a2,b2⟩,fun B m hB hm=>⟨(a3 B hB).mono (hm f List.mem_cons_self z hz0) _ _,b3 B m hB (fun g hg=>hm g (List.mem_cons_of_mem _ hg))⟩⟩
   rw[←List.drop_drop]
   exact(List.take_append_drop _ _).symm
  refine⟨fun fuel id cs x hty hone h=> ?_,fun n fs off cs h hone hl hf=> ?_⟩
  ·obtain⟨fs,f,r,h1,h2,h3,h4,h5,h6,h7,h8⟩:=hty.pair
   obtain⟨xs,m,rfl,rfl,hl,hlen,hfs⟩:=DataW.trod_struct h1 h
   rw[cellsOf_eq hty] at hl
   have:=step m f r 0 cs h4 h7 (by rw[Nat.zero_add];exact h8) hone (by omega) (fun g hg=>by
    rw[←h3] at hg
    obtain⟨i,hi,e⟩:=List.getElem_of_mem hg
    have hi':i<fs.size:=by simpa using hi
    have e2:fs[i]? =some g:=by rw[Array.getElem?_eq_getElem hi'];simpa using e
    have:=hfs i g e2
    rw[this]
    exact⟨_,List.getElem?_eq_getElem (by omega)⟩)
   rw[List.drop_zero] at this
   obtain⟨y,y1,y2,y3⟩:=this
   refine⟨y,y1,y2,fun B hB=>y3 B _ hB (fun g hg z hz=> ?_)⟩
   rw[←h3] at hg
   obtain⟨i,hi,e⟩:=List.getElem_of_mem hg
   have hi':i<fs.size:=by simpa using hi
   have e2:fs[i]? =some g:=by rw[Array.getElem?_eq_getElem hi'];simpa using e
   rw[hfs i g e2] at hz
   exact hB.agg _ _ (List.mem_map.2 ⟨z,List.mem_of_getElem? hz,rfl⟩)
  ·cases fs with
   |nil=>cases h
   |cons f fs=>
    simp only[tOkB,Bool.and_eq_true,beq_iff_eq,bne_iff_ne,ne_eq] at h
    exact step n f fs off cs h.1.1.1.1 h.1.2 h.2 hone hl hf
 |arr n u ih=>
  refine⟨fun fuel id cs x hty hone h=> ?_,fun n fs off cs h=>by cases fs<;>cases h⟩
  obtain⟨e,h1,h2⟩:=hty.arr
  obtain⟨xs,m,rfl,rfl,hl,hlen,hfs⟩:=DataW.trod_array h1 h
  rw[cellsOf_eq hty] at hl
  obtain⟨ys,y1,y2,y3⟩:=repL_of (F:=full w.heap) (u:=u) (Q:=fun y=>Rng u y∧∀B:DataW H→Nat,Meas B→Small (B (.agg (xs.map (·.1)))) u y) n cs hl (fun i hi=>by
   have h3:=hfs i hi
   rw[cellsOf_eq h2,List.getElem?_eq_getElem (by omega)] at h3
   obtain⟨y,q1,q2,q3⟩:=ih.1 m e _ _ h2 hone h3
   exact⟨y,q1,q2,fun B hB=>(q3 B hB).mono (hB.agg _ _ (List.mem_map.2 ⟨_,List.getElem_mem _,rfl⟩)) _ _⟩)
  exact⟨ys,⟨y1,y2⟩,⟨y1,fun y hy=>(y3 y hy).1⟩,fun B hB y hy=>(y3 y hy).2 B hB⟩
 |slc u ih=>
  refine⟨fun fuel id cs x hty hone h=> ?_,fun n fs off cs h=>by cases fs<;>cases h⟩
  obtain⟨e,h1,h2⟩:=hty.slc
  simp only[Ty.one,Bool.and_eq_true,decide_eq_true_eq] at hone
  rcases DataW.trod_slice h1 h with⟨rfl,rfl⟩|⟨a,len,cap,elems,rest,m,rfl,rfl,rfl,hb,hlc,hcap,hel,hes,hre,_⟩
  ·exact⟨[],⟨_,rfl,.inl ⟨⟨_,rfl⟩,rfl,rfl⟩⟩,⟨by simp,(fun y hy=>by cases hy)⟩,fun B hB=>⟨by simp,(fun y hy=>by cases hy)⟩⟩
  ·by_cases hc0:cap=0
   ·subst hc0
    obtain rfl:len=0:=by omega
    exact⟨[],⟨_,rfl,.inl ⟨⟨_,rfl⟩,rfl,rfl⟩⟩,⟨by simp,(fun y hy=>by cases hy)⟩,fun B hB=>⟨by simp,(fun y hy=>by cases hy)⟩⟩
   have hspot:a.spot=none:=by
    have key:∀{z:DataW H×List MemPlace},(w.cells? base (a.add 0) (P.cellsOf e)).bind (DataW.trod enc P w base sp held m e)=some z→a.spot=none:=by
     intro z hz
     rw[Option.bind_eq_some_iff] at hz
     obtain⟨cc,c1,_⟩:=hz
     have:=cells?_spot c1 (by rw[cellsOf_eq h2];exact hone.2)
     simpa[Addr.add] using this
    by_cases hl0:len=0
    ·obtain⟨r1,r2⟩:=hre (hspare _)
     have h3:=r2 0 (by omega)
     rw[show(len+0)*P.cellsOf e=0 by rw[hl0,Nat.zero_add,Nat.zero_mul],List.getElem?_eq_getElem (by omega)] at h3
     exact key h3
    ·have h3:=hes 0 (by omega)
     rw[List.getElem?_eq_getElem (by omega),Nat.zero_mul] at h3
     exact key h3
   have hel2:∀i,i<len→∃(y:u.den) (cc:List Value),cc.length=u.size∧FAt (full w.heap) a.block (a.off+i*u.size) cc∧Rep (full w.heap) u y cc∧(Rng u y∧∀B:DataW H→Nat,Meas B→Small (B (.slice (elems.map (·.1)) (rest.map (·.1)))) u y):=by
    intro i hi
    have h3:=hes i hi
    rw[List.getElem?_eq_getElem (by omega),Option.bind_eq_some_iff] at h3
    obtain⟨cc,c1,c2⟩:=h3
    rw[cellsOf_eq h2] at c1
    have hadd:a.add (i*u.size)=⟨a.block,a.off+i*u.size,none⟩:=by
     obtain⟨b,o,s⟩:=a
     simp only at hspot
     subst hspot
     simp[Addr.add]
    rw[hadd] at c1
    obtain⟨d1,d2⟩:=cells?_get c1 rfl
    obtain⟨y,y1,y2,y3⟩:=ih.1 m e cc _ h2 hone.1 c2
    exact⟨y,cc,d1,d2,y1,y2,fun B hB=>(y3 B hB).mono (hB.elem _ _ _ (List.mem_map.2 ⟨_,List.getElem_mem _,rfl⟩)) _ _⟩
   have build:∀k,k≤len→∃(ys:List u.den) (cc:List Value),ys.length=k∧cc.length=k*u.size∧RepL (Rep (full w.heap) u) ys cc∧FAt (full w.heap) a.block a.off cc∧∀y,y∈ys→(Rng u y∧∀B:DataW H→Nat,Meas B→Small (B (.slice (elems.map (·.1)) (rest.map (·.1)))) u y):=by
    intro k
    induction k with
    |zero=>intro _;exact⟨[],[],rfl,by simp,rfl,(fun i c hc=>by cases hc),(fun y hy=>by cases hy)⟩
    |succ k ihk=>
     intro hk
     obtain⟨ys,cc,q1,q2,q3,q4,q5⟩:=ihk (by omega)
     obtain⟨y,c2,p1,p2,p3,p4⟩:=hel2 k (by omega)
     refine⟨ys++[y],cc++c2,by simp[q1],by rw[List.length_append,q2,p1,Nat.add_mul];omega, ?_, ?_, ?_⟩
     ·clear q1 q2 q4 q5
      induction ys generalizing cc with
      |nil=>cases q3;exact⟨c2,[],by simp,p3,rfl⟩
      |cons z zs ihz=>
       obtain⟨c3,c4,rfl,r1,r2⟩:=q3
       exact⟨c3,c4++c2,by simp,r1,ihz c4 r2⟩
     ·intro i c hc
      rw[List.getElem?_append] at hc
      split at hc
      ·exact q4 i c hc
      ·rename_i hi
       have:=p2 (i-cc.length) c hc
       rw[q2] at this
       rw[show a.off+i=a.off+k*u.size+(i-k*u.size) by omega]
       exact this
     ·intro z hz
      rcases List.mem_append.1 hz with hz|hz
      ·exact q5 z hz
      ·rw[List.mem_singleton] at hz;subst hz;exact p4
   obtain⟨ys,cc,q1,q2,q3,q4,q5⟩:=build len (Nat.le_refl _)
   refine⟨ys,⟨_,rfl,.inr ⟨a.block,a.off,cap,cc, ?_,by simp only[q1];exact hlc,q3,q4⟩⟩,⟨?_,fun y hy=>(q5 y hy).1⟩,fun B hB=>⟨?_,fun y hy=>(q5 y hy).2 B hB⟩⟩
   ·obtain⟨b,o,s⟩:=a
    simp only at hspot
    subst hspot
    simp[q1]
   ·simp only[q1]
    exact Nat.le_trans hlc hcap
   ·have:=hB.len (elems.map (·.1)) (rest.map (·.1))
    rw[List.length_map,hel] at this
    rw[q1];exact this
end
def tysOkB (P:Program):List Ty→List TypeId→Bool
 |[],[]=>true
 |t::ts,i::is=>tOkB P t (.inl i)&&t.one&&P.readableRec i&&decide (i<P.types.size)&&tysOkB P ts is
 |_,_=>false
theorem shapeV {H:Type}{enc:TypeId×Value→H}{P:Program}{w:World}{base b0:Nat}{sp:Nat→Bool}{held:Bool}{t:Ty}{i:TypeId}{v:Value}{d:DataW H}{ps:List MemPlace}
 (hspare:∀b,sp b=true) (hty:TyOk P t i) (hone:t.one=true) (hv:Value.okWide P w .any b0 i v) (h:DataW.Trod enc P w base sp held i v d ps):∃x:t.den,RepV (full w.heap) t x v∧Rng t x∧∀B:DataW H→Nat,Meas B→Small (B d) t x:=by
 obtain⟨n,hn⟩:=h
 obtain⟨y,h1,h2,h3⟩:=(trod_rep hspare t).1 n i _ _ hty hone hn
 refine⟨y,repV_of_cells ?_ h1,h2,h3⟩
 unfold Value.okWide at hv
 have scal:(∀cs,v≠ .agg cs)→isAggV v=false:=by
  intro h;cases v<;>first|rfl|exact absurd rfl (h _)
 have noAgg:Cell.okWide P w .any b0 i v→∀cs,v≠ .agg cs:=by
  rintro h cs rfl
  unfold Cell.okWide at h
  cases hu:P.underlying i with
  |none=>simp[hu,Cell.ok] at h
  |some d=>rw[hu] at h;cases d<;>simp[Cell.ok,hu] at h
 cases t with
 |int k=>rw[hty.int] at hv;simp only at hv;rw[scal (noAgg hv)];rfl
 |bool=>rw[hty.bool] at hv;simp only at hv;rw[scal (noAgg hv)];rfl
 |str=>rw[hty.str] at hv;simp only at hv;rw[scal (noAgg hv)];rfl
 |slc u=>obtain⟨e,h1,_⟩:=hty.slc;rw[h1] at hv;simp only at hv;rw[scal (noAgg hv)];rfl
 |map p q=>cases hone
 |fn p q=>cases hone
 |ref p=>cases hone
 |unit=>obtain⟨fs,h1,_⟩:=hty.unit;rw[h1] at hv;obtain⟨cs,rfl,_⟩:=hv;rfl
 |pair a b=>obtain⟨fs,_,_,h1,_⟩:=hty.pair;rw[h1] at hv;obtain⟨cs,rfl,_⟩:=hv;rfl
 |arr n u=>obtain⟨e,h1,_⟩:=hty.arr;rw[h1] at hv;obtain⟨cs,rfl,_⟩:=hv;rfl
theorem args_rep {H:Type}{enc:TypeId×Value→H}{P:Program}{w:World}{b0:Nat}:∀(ts:List Ty) (is:List TypeId) (vs:List Value) (ds:List (DataW H)) (ps:List MemPlace),tysOkB P ts is=true→
 (∀(j:Nat) t v,is[j]? =some t→vs[j]? =some v→Value.okWide P w .any b0 t v)→DataW.TrodAll enc P w 0 (fun _=>true) true is vs ds ps→∃xs:Tup ts,RepArgs (full w.heap) ts xs vs∧RngT ts xs∧∀(B:DataW H→Nat) (m:Nat),Meas B→(∀d,d∈ds→B d≤m)→SmallT m ts xs:=by
 intro ts
 induction ts with
 |nil=>
  intro is vs ds ps h hv ht
  cases is with
  |nil=>obtain⟨rfl,_,_⟩:=trodAll_nil ht;exact⟨(),rfl,trivial,fun _ _ _ _=>trivial⟩
  |cons i is=>cases h
 |cons t ts ih=>
  intro is vs ds ps h hv ht
  cases is with
  |nil=>cases h
  |cons i is=>
   simp only[tysOkB,Bool.and_eq_true] at h
   obtain⟨v,vs',d,ds',p,q,rfl,rfl,rfl,h0,r0⟩:=trodAll_cons ht
   obtain⟨x,x1,x2,x3⟩:=shapeV (fun _=>rfl) h.1.1.1.1 h.1.1.1.2 (hv 0 i v rfl rfl) h0
   obtain⟨xs,y1,y2,y3⟩:=ih is vs' ds' q h.2 (fun j t v h1 h2=>hv (j+1) t v h1 h2) r0
   exact⟨(x,xs),⟨v,vs',rfl,x1,y1⟩,⟨x2,y2⟩,fun B m hB hm=>⟨(x3 B hB).mono (hm d List.mem_cons_self) _ _,y3 B m hB (fun e he=>hm e (List.mem_cons_of_mem _ he))⟩⟩
theorem args_stay {H:Type}{enc:TypeId×Value→H}{P:Program}(hl:laidOutB P=true){W W':World}(hb:Below W.heap.size W W'){sp:Nat→Bool}:∀(ts:List Ty) (is:List TypeId) (vs:List Value) (ds:List (DataW H)) (ps:List MemPlace),tysOkB P ts is=true→
 DataW.TrodAll enc P W 0 (fun _=>true) true is vs ds ps→(∀p,p∈ps→p.block<W.heap.size)→(∀p,p∈ps→sp p.block=true)→DataW.TrodAll enc P W' 0 sp true is vs ds ps:=by
 intro ts
 induction ts with
 |nil=>
  intro is vs ds ps h ht _ _
  cases is with
  |nil=>obtain⟨rfl,rfl,rfl⟩:=trodAll_nil ht;exact trodAll_mk0
  |cons i is=>cases h
 |cons t ts ih=>
  intro is vs ds ps h ht hlt hsp
  cases is with
  |nil=>cases h
  |cons i is=>
   simp only[tysOkB,Bool.and_eq_true,decide_eq_true_eq] at h
   obtain⟨v,vs',d,ds',p,q,rfl,rfl,rfl,h0,r0⟩:=trodAll_cons ht
   refine trodAll_cons_mk (WideElems.Trod_stays hl h.1.1.2 h.1.2 h0 (fun x hx=>hb.same (hlt x (List.mem_append_left _ hx))) (fun x hx=>hsp x (List.mem_append_left _ hx))) ?_
   exact ih is vs' ds' q h.2 r0 (fun x hx=>hlt x (List.mem_append_right _ hx)) (fun x hx=>hsp x (List.mem_append_right _ hx))
theorem law_postB {H:Type}{enc:TypeId×Value→H}{P:Program}{G:Nat→Option TV}{f:FuncId}{fn:Func}{ts:List Ty}{pre:Tup ts→Prop}{s:ChangeSpec}{fresh handsOn again:Bool}{tb:TypeId}{is:List TypeId}
 {W:World} {base:Nat} {args:Array Value} {ds gs:List (DataW H)} {before:List MemPlace}
 (hS:Sound P G f ⟨ts,[.deep .bool],pre,fun _=>(true,())⟩) (hl:laidOutB P=true) (hp:fn.params.toList=is) (hty:tysOkB P ts is=true) (hres:fn.resultTypes= #[tb]) (hb:P.underlying tb=some .bool)
 (hvars:s.vars=[]) (hspec:∀ds:List (DataW H),ds.length=ts.length→s.fn H ds={results:=[.lit (.bool true)],args:=ds})
 (hval:∀(j:Nat) t v,fn.params[j]? =some t→args[j]? =some v→Value.okWide P W .any base t v)
 (hW:DataW.Whole enc P fn.params.toList s.vars false W args.toList ds gs before) (hG:GlobOk G (full W.heap)) (hpre:∀xs,RngT ts xs→(∀(B:DataW H→Nat) (m:Nat),Meas B→(∀d,d∈ds→B d≤m)→SmallT m ts xs)→pre xs):
 Calls P f args W fun e W'=>∃v,e= .returned v∧s.post enc P fn false fresh handsOn again W args v W':=by
 have hW':=hW
 rw[hvars] at hW
 obtain⟨p,q,hA,hV,rfl,hz,hn⟩:=hW
 obtain⟨rfl,rfl⟩:=trodVars_none hV
 rw[hp] at hA
 obtain⟨xs,x1,x2,x3⟩:=args_rep ts is args.toList ds p hty (fun j t v h1 h2=>hval j t v (by rw[←hp] at h1;simpa using h1) (by simpa using h2)) hA
 have hc:=hS.calls (full W.heap) W xs args.toList (fun b i v h=>h) hG x1 (hpre xs x2 x3)
 have hlen:ds.length=ts.length:=by
  have:∀(ts:List Ty) (is:List TypeId) (vs:List Value) (ds:List (DataW H)) (ps:List MemPlace),tysOkB P ts is=true→DataW.TrodAll enc P W 0 (fun _=>true) true is vs ds ps→ds.length=ts.length:=by
   intro ts
   induction ts with
   |nil=>intro is vs ds ps h ht;cases is with
    |nil=>obtain⟨_,rfl,_⟩:=trodAll_nil ht;rfl
    |cons i is=>cases h
   |cons t ts ih=>intro is vs ds ps h ht;cases is with
    |nil=>cases h
    |cons i is=>
     simp only[tysOkB,Bool.and_eq_true] at h
     obtain⟨v,vs',d,ds',p,q,rfl,rfl,rfl,h0,r0⟩:=trodAll_cons ht
     simp[ih is vs' ds' q h.2 r0]
  exact this ts is _ _ _ hty hA
 have eargs:args.toList.toArray=args:=by simp
 rw[eargs] at hc
 refine hc.mono fun e W' ⟨v,F',rv,bs,he,hle,hF1,hF2,hr,hnd,hrv,hbel⟩=> ?_
 subst he
 obtain⟨v0,r,rfl,hv0,hr0⟩:=hr
 obtain⟨rfl,rfl⟩:r=[]∧bs=[]:=hr0
 have hv0:v0= .bool true:=repV_bool.1 hv0
 subst hv0
 have hv:v= .bool true:=by
  rcases hrv with⟨u,h1,h2⟩|⟨h1,_⟩
  ·cases h1;exact h2
  ·exact absurd rfl h1
 subst hv
 refine⟨_,rfl, ?_⟩
 have hlt:∀x,x∈p→x.block<W.heap.size:=fun x hx=>by simpa using hW'.lt x (by simpa using hx)
 simp only[List.append_nil] at hW'
 have hs:=hspec ds hlen
 refine⟨ds,[],p,[],p,[],hW', ?_, ?_, ?_, ?_,fun _=>⟨?_, ?_⟩⟩
 ·rw[List.append_nil,hs,hres]
  exact trodAll_cons_mk (shut_bool hb _) trodAll_mk0
 ·rw[List.append_nil,hs,hp]
  exact args_stay hl hbel ts is _ _ _ hty hA hlt (fun x hx=>by simpa using hlt x hx)
 ·rw[List.append_nil,hs,hvars]
  rfl
 ·exact World.keptBut_mono (fun x hx=>⟨hx,.inr (by simpa using hx)⟩) (hbel.frame (·∈p))
 ·exact ok_one hres rfl (okWide_bool_mk hb _)
 ·refine⟨[.lit (.bool true)]++ds,[],([]++p)++[],⟨[]++p,[], ?_, ?_,rfl, ?_, ?_⟩, ?_⟩
  ·refine trodAll_append ?_ ?_
   ·rw[hp]
    exact args_stay hl hbel ts is _ _ _ hty hA hlt (fun _ _=>rfl)
   ·rw[hres]
    exact trodAll_cons_mk (shut_bool hb _) trodAll_mk0
  ·rw[hvars];rfl
  ·intro b off hb'
   have hb2:MemPlace.cell b off∈p:=by simpa using hb'
   rw[hbel.frozen (hlt _ hb2)]
   exact hz b off (by simpa using hb2)
  ·intro h;cases h
  ·intro x hx _;simpa using hx
theorem law_post {H:Type}{enc:TypeId×Value→H}{P:Program}{G:Nat→Option TV}{f:FuncId}{fn:Func}{ts:List Ty}{pre:Tup ts→Prop}{s:ChangeSpec}{fresh handsOn again:Bool}{tb:TypeId}{is:List TypeId}
 {W:World} {base:Nat} {args:Array Value} {ds gs:List (DataW H)} {before:List MemPlace}
 (hS:Sound P G f ⟨ts,[.deep .bool],pre,fun _=>(true,())⟩) (hl:laidOutB P=true) (hp:fn.params.toList=is) (hty:tysOkB P ts is=true) (hres:fn.resultTypes= #[tb]) (hb:P.underlying tb=some .bool)
 (hvars:s.vars=[]) (hspec:∀ds:List (DataW H),ds.length=ts.length→s.fn H ds={results:=[.lit (.bool true)],args:=ds})
 (hval:∀(j:Nat) t v,fn.params[j]? =some t→args[j]? =some v→Value.okWide P W .any base t v)
 (hW:DataW.Whole enc P fn.params.toList s.vars false W args.toList ds gs before) (hG:GlobOk G (full W.heap)) (hpre:∀xs,RngT ts xs→pre xs):
 Calls P f args W fun e W'=>∃v,e= .returned v∧s.post enc P fn false fresh handsOn again W args v W':=
 law_postB hS hl hp hty hres hb hvars hspec hval hW hG (fun xs h _=>hpre xs h)
theorem globOk_tabs {P:Program}{W:World}{G:Nat→Option TV}(l:List (Nat×TV))(hG:G=fun n=>look n l)
 (h:∀p,p∈l→∃name k zs,P.globalNamed name=some p.1∧Lib.TabIs P W name k zs∧p.2=⟨.arr zs.length (.int k),zs⟩):GlobOk G (full W.heap):=by
 intro g tv e
 rw[hG] at e
 obtain⟨name,k,zs,h1,h2,h3⟩:=h _ (look_mem e)
 simp only at h1 h3
 subst h3
 have h2':W.var? P name=some (zs.map fun z=>Value.int k z).toArray:=h2
 simp only[World.var?,h1,Option.bind_some] at h2'
 refine⟨zs.map (fun z=>Value.int k z),⟨rfl, ?_⟩, ?_⟩
 ·clear h2 h2' e
  induction zs with
  |nil=>rfl
  |cons z zs ih=>exact⟨[.int k z],zs.map (fun z=>Value.int k z),rfl,rfl,ih⟩
 ·intro i c hc
  simp only[full,cellAt,Nat.zero_add]
  split at h2'
  ·rename_i cs t fr hh
   rw[hh]
   simp only[Option.some.injEq] at h2'
   subst h2'
   simpa using hc
  ·cases h2'
end Lc
