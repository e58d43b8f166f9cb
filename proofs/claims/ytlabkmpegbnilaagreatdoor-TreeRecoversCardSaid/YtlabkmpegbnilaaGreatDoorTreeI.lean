/- The tree of headers: what the laws need: hashes of contexts, the first node with the greatest work, good inserts, made trees at a late time. -/
import Derived.Test.YtlabkmpegbnilaaGreatDoorMades
set_option linter.unusedVariables false
set_option linter.unusedSimpArgs false
set_option maxRecDepth 100000
namespace Lc
open Go
theorem check_prev {p:Par}{c:Cx}{h:Hdr}{now:Int}(hc:checkFn p c h now=0):h.2.1=c.2.1:=by
 unfold checkFn at hc
 split at hc
 ·rename_i hr;exact absurd hc hr
 split at hc
 ·exact absurd hc (by decide)
 rename_i hb
 exact(b32_eq _ _).1 (by simpa using hb)
theorem Valid15.best {p:Par}{t:Tre}{cs:List Cx}(h:Valid15 p t cs):0<t.1.length:=h.fit.2.1
theorem Valid15.hash {p:Par}{t:Tre}{cs:List Cx}(h:Valid15 p t cs){n:Nat}(hn:n<t.1.length):(atFn p t.1 n).2.1=(t.1.getD n zn).2.1:=by
 by_cases h0:n=0
 ·subst h0
  rw[at_zero,h.fit.2.2.2,startFn,if_neg (by simp[h.fit.1])];rfl
 ·obtain⟨s,_⟩:=h.step n (by omega) hn
  have hr:=step_room s
  rw[h.at _ (by have:=s.1;have:=s.2.1;omega)] at hr
  rw[at_step h.linked (by omega) hn,adv_ok hr]
  exact(congrArg (fun n:Nd=>n.2.1) s.2.2.2.2).symm
theorem vfind {p:Par}{t:Tre}(h:validT p t=true){i:Nat}(hi:i<t.1.length):findFn t.1 (t.1.getD i zn).2.1=i:=by
 obtain⟨cs,h1,h2,h3⟩:=valid_of h
 refine find_self hi (fun m hm=> ?_)
 exact(h2.step i (by omega) hi).1.2.2.1 m hm
theorem find_none {l:List Nd}{x:List Int}(h:∀j,j<l.length→(l.getD j zn).2.1≠x):findFn l x<0:=by
 rcases find_spec l x with⟨h1,_⟩|⟨j,h1,_,h3,_⟩
 ·omega
 ·exact absurd h3 (h j h1)
def wk (l:List Nd)(j:Nat):Nat:=N4 (l.getD j zn).2.2.2.2.1
theorem bestUp_max (l:List Nd):∀i j,j<i→wk l j≤wk l (bestUp l i)∧(j<bestUp l i→wk l j<wk l (bestUp l i))
 |0,j,h=>by omega
 |i+1,j,h=>by
  have hle:=bestUp_le l i
  have hs:bestUp l (i+1)=if wk l (bestUp l i)<wk l i then i else bestUp l i:=rfl
  rw[hs]
  by_cases hc:wk l (bestUp l i)<wk l i
  ·rw[if_pos hc]
   by_cases e:j=i
   ·subst e;exact⟨Nat.le_refl _,fun h=>by omega⟩
   ·have:=bestUp_max l i j (by omega);exact⟨by omega,fun _=>by omega⟩
  ·rw[if_neg hc]
   by_cases e:j=i
   ·subst e;exact⟨by omega,fun h=>by omega⟩
   ·exact bestUp_max l i j (by omega)
theorem bestUp_only {l:List Nd}{n b:Nat}(hb:b<n)(h:∀j,j<n→wk l j≤wk l b∧(j<b→wk l j<wk l b)):bestUp l n=b:=by
 obtain⟨m,rfl⟩:∃m,n=m+1:=⟨n-1,by omega⟩
 have hlt:=bestUp_lt l m
 have h1:=bestUp_max l (m+1) b hb
 have h2:=h (bestUp l (m+1)) (by omega)
 rcases Nat.lt_trichotomy (bestUp l (m+1)) b with hq|hq|hq
 ·have:=h2.2 hq;omega
 ·exact hq
 ·have:=h1.2 hq;omega
theorem first_lt {l:List Nd}(h:0<l.length):bestUp l l.length<l.length:=by
 obtain⟨m,hm⟩:∃m,l.length=m+1:=⟨l.length-1,by omega⟩
 rw[hm];have:=bestUp_lt l m;omega
theorem valid_ordered' {p:Par}{t:Tre}(h:validT p t=true):0≤t.2.1∧t.2.1<t.1.length:=by
 obtain⟨cs,_,hv,hb⟩:=valid_of h
 have:=first_lt hv.best
 rw[hb,firstFn];omega
theorem insert_go {p:Par}{t:Tre}{h:Hdr}{now:Int}(hv:validT p t=true)(h1:findFn t.1 (hashH h)<0){k:Nat}(hk:findFn t.1 h.2.1=k)(hc:checkFn p (atFn p t.1 k) h now=0)(h4:t.1.length≠4096):
 insertT p t h now=((t.1++[childFn (t.1.getD k zn) k h],firstFn (t.1++[childFn (t.1.getD k zn) k h]),()),(t.1.length:Int),0):=by
 rw[insertT,if_neg (by simp[hv]),if_neg (by omega),if_neg (by omega),hk,Int.toNat_natCast,if_neg (by rw[hc];decide),if_neg h4,insNode,hk,Int.toNat_natCast]
theorem Linked.left {l r:List Nd}(h:Linked (l++r)):Linked l:=fun j h1 h2=>by
 have:=h j h1 (by rw[List.length_append];omega)
 rwa [getD_app zn h2] at this
theorem at_app {p:Par}{l r:List Nd}(hk:Linked (l++r)):∀n,n<l.length→atFn p (l++r) n=atFn p l n:=by
 intro n
 induction n using Nat.strongRecOn with
 |_ n ih=>
  intro hn
  by_cases h0:n=0
  ·subst h0;rfl
  ·obtain⟨p1,p2⟩:=hk.left n (by omega) hn
   rw[at_step hk (by omega) (by rw[List.length_append];omega),at_step hk.left (by omega) hn,getD_app zn hn,ih _ (by omega) (by omega)]
def LateT (p:Par)(t:Tre):Prop:=∀j,0<j→j<t.1.length→checkFn p (atFn p t.1 (t.1.getD j zn).2.2.1.toNat) (t.1.getD j zn).1 1073741824=0
theorem late_insert {p:Par}{t:Tre}{h:Hdr}(hp:PGood p)(hl:LateT p t)(he:(insertT p t h 1073741824).2.2=0):LateT p (insertT p t h 1073741824).1:=by
 obtain⟨h1,h2,h3,h4,h5,h6⟩:=insert_spec he
 obtain⟨cs,_,hv,_⟩:=valid_of (insert_valid hp he)
 have hk:=hv.linked
 rw[h6] at hk⊢
 have hk:Linked (t.1++[insNode p t h]):=hk
 have hlt:=find_lt h3
 intro j j0 j1
 show checkFn p (atFn p (t.1++[insNode p t h]) ((t.1++[insNode p t h]).getD j zn).2.2.1.toNat) ((t.1++[insNode p t h]).getD j zn).1 1073741824=0
 have j1:j<(t.1++[insNode p t h]).length:=j1
 rw[List.length_append,List.length_singleton] at j1
 by_cases e:j=t.1.length
 ·subst e
  rw[getD_last]
  show checkFn p (atFn p (t.1++[insNode p t h]) (findFn t.1 h.2.1).toNat) h 1073741824=0
  rw[at_app hk _ hlt];exact h4
 ·obtain⟨p1,p2⟩:=hk.left j j0 (by omega)
  rw[getD_app zn (by omega),at_app hk _ (by omega)]
  exact hl j j0 (by omega)
theorem insert_len {p:Par}{t:Tre}{h:Hdr}{now:Int}(he:(insertT p t h now).2.2=0):(insertT p t h now).1.1.length=t.1.length+1:=by
 obtain⟨_,_,_,_,_,h6⟩:=insert_spec he
 rw[h6]
 show(t.1++[insNode p t h]).length=_
 rw[List.length_append,List.length_singleton]
theorem step_late {p:Par}{t:Tre}{s i:Int}(hp:PGood p)(hl:LateT p t):LateT p (treeStep p t s i)∧(treeStep p t s i).1.length≤t.1.length+1:=by
 unfold treeStep
 split
 ·exact⟨hl,by omega⟩
 split
 ·rename_i he;exact⟨late_insert hp hl he,by rw[insert_len he];omega⟩
 ·exact⟨hl,by omega⟩
theorem treeGo_late {p:Par}(hp:PGood p):∀(l:List Int) (t:Tre) (i:Int),LateT p t→LateT p (treeGo p t i l)∧(treeGo p t i l).1.length≤t.1.length+l.length
 |[],t,i,h=>⟨h,by rw[treeGo];simp⟩
 |s::r,t,i,h=>by
  obtain⟨h1,h2⟩:=step_late (s:=s) (i:=i) hp h
  obtain⟨h3,h4⟩:=treeGo_late hp r _ (i+1) h1
  rw[treeGo]
  exact⟨h3,by rw[List.length_cons];omega⟩
theorem made_late {v:Int}{l:List Int}(hv:0≤v∧v≤255):LateT (madeParams v) (madeT v l)∧(madeT v l).1.length≤15:=by
 have h0:LateT (madeParams v) (startT (madeParams v)).1:=by
  rw[startT_fit (made_valid hv)]
  intro j j0 j1
  have j1:j<1:=j1
  omega
 obtain⟨h1,h2⟩:=treeGo_late (made_ok hv) (l.take 14) _ 0 h0
 refine⟨h1, ?_⟩
 have:(startT (madeParams v)).1.1.length=1:=by rw[startT_fit (made_valid hv)];rfl
 rw[List.length_take] at h2
 show(treeGo _ _ 0 (l.take 14)).1.length≤15
 omega
theorem node_child {p:Par}{t:Tre}{cs:List Cx}(h:Valid15 p t cs){j:Nat}(j0:0<j)(j1:j<t.1.length):
 (t.1.getD j zn).2.1=hashH (t.1.getD j zn).1∧t.1.getD j zn=childFn (t.1.getD (t.1.getD j zn).2.2.1.toNat zn) (t.1.getD j zn).2.2.1 (t.1.getD j zn).1∧
 (t.1.getD j zn).1.2.1=(t.1.getD (t.1.getD j zn).2.2.1.toNat zn).2.1:=by
 obtain⟨s,_⟩:=h.step j j0 j1
 refine⟨congrArg (fun n:Nd=>n.2.1) s.2.2.2.2,s.2.2.2.2, ?_⟩
 have hc:=check_prev s.2.2.2.1
 have hp:(t.1.getD j zn).2.2.1.toNat<t.1.length:=by have:=s.1;have:=s.2.1;omega
 rw[h.at _ hp,h.hash hp] at hc
 exact hc
end Lc
