/- The tree of headers: what the laws need: hashes of contexts, the first node with the greatest work, good inserts, made trees at a late time. -/
import Derived.Test.YtkbnmdjmjjfdmaaMades
set_option linter.unusedVariables false
set_option linter.unusedSimpArgs false
set_option maxRecDepth 100000
namespace Lc
open Go
theorem Valid15.best {p:Par}{t:Tre}{cs:List Cx}(h:Valid15 p t cs):0<t.1.length:=h.fit.2.1
theorem Valid15.hash {p:Par}{t:Tre}{cs:List Cx}(h:Valid15 p t cs){n:Nat}(hn:n<t.1.length):(atFn p t.1 n).2.1=(t.1.getD n zn).2.1:=by
 by_cases h0:n=0
 ·subst h0
  rw[at_zero,h.fit.2.2.2,startFn,if_neg (by simp[h.fit.1])];rfl
 ·obtain⟨s,_⟩:=h.step n (by omega) hn
  have hr:=step_room s
  rw[h.at _ (by have:=s.1;have:=s.2.1;omega)] at hr
  rw[at_step h.linked (by omega) hn,adv_ok hr]
  exact(congrArg (fun n:Nd=>n.2.1) s.2.2.2.2).symm
theorem first_lt {l:List Nd}(h:0<l.length):bestUp l l.length<l.length:=by
 obtain⟨m,hm⟩:∃m,l.length=m+1:=⟨l.length-1,by omega⟩
 rw[hm];have:=bestUp_lt l m;omega
theorem valid_ordered' {p:Par}{t:Tre}(h:validT p t=true):0≤t.2.1∧t.2.1<t.1.length:=by
 obtain⟨cs,_,hv,hb⟩:=valid_of h
 have:=first_lt hv.best
 rw[hb,firstFn];omega
theorem Linked.left {l r:List Nd}(h:Linked (l++r)):Linked l:=fun j h1 h2=>by
 have:=h j h1 (by rw[List.length_append];omega)
 rwa [getD_app zn h2] at this
theorem at_app {p:Par}{l r:List Nd}(hk:Linked (l++r)):∀n,n<l.length→atFn p (l++r) n=atFn p l n:=by
 intro n
 induction n using Nat.strongRecOn with
 |_ n ih=>
  intro hn
  by_cases h0:n=0
  ·subst h0;rfl
  ·obtain⟨p1,p2⟩:=hk.left n (by omega) hn
   rw[at_step hk (by omega) (by rw[List.length_append];omega),at_step hk.left (by omega) hn,getD_app zn hn,ih _ (by omega) (by omega)]
def LateT (p:Par)(t:Tre):Prop:=∀j,0<j→j<t.1.length→checkFn p (atFn p t.1 (t.1.getD j zn).2.2.1.toNat) (t.1.getD j zn).1 1073741824=0
theorem late_insert {p:Par}{t:Tre}{h:Hdr}(hp:PGood p)(hl:LateT p t)(he:(insertT p t h 1073741824).2.2=0):LateT p (insertT p t h 1073741824).1:=by
 obtain⟨h1,h2,h3,h4,h5,h6⟩:=insert_spec he
 obtain⟨cs,_,hv,_⟩:=valid_of (insert_valid hp he)
 have hk:=hv.linked
 rw[h6] at hk⊢
 have hk:Linked (t.1++[insNode p t h]):=hk
 have hlt:=find_lt h3
 intro j j0 j1
 show checkFn p (atFn p (t.1++[insNode p t h]) ((t.1++[insNode p t h]).getD j zn).2.2.1.toNat) ((t.1++[insNode p t h]).getD j zn).1 1073741824=0
 have j1:j<(t.1++[insNode p t h]).length:=j1
 rw[List.length_append,List.length_singleton] at j1
 by_cases e:j=t.1.length
 ·subst e
  rw[getD_last]
  show checkFn p (atFn p (t.1++[insNode p t h]) (findFn t.1 h.2.1).toNat) h 1073741824=0
  rw[at_app hk _ hlt];exact h4
 ·obtain⟨p1,p2⟩:=hk.left j j0 (by omega)
  rw[getD_app zn (by omega),at_app hk _ (by omega)]
  exact hl j j0 (by omega)
theorem insert_len {p:Par}{t:Tre}{h:Hdr}{now:Int}(he:(insertT p t h now).2.2=0):(insertT p t h now).1.1.length=t.1.length+1:=by
 obtain⟨_,_,_,_,_,h6⟩:=insert_spec he
 rw[h6]
 show(t.1++[insNode p t h]).length=_
 rw[List.length_append,List.length_singleton]
theorem step_late {p:Par}{t:Tre}{s i:Int}(hp:PGood p)(hl:LateT p t):LateT p (treeStep p t s i)∧(treeStep p t s i).1.length≤t.1.length+1:=by
 unfold treeStep
 split
 ·exact⟨hl,by omega⟩
 split
 ·rename_i he;exact⟨late_insert hp hl he,by rw[insert_len he];omega⟩
 ·exact⟨hl,by omega⟩
theorem treeGo_late {p:Par}(hp:PGood p):∀(l:List Int) (t:Tre) (i:Int),LateT p t→LateT p (treeGo p t i l)∧(treeGo p t i l).1.length≤t.1.length+l.length
 |[],t,i,h=>⟨h,by rw[treeGo];simp⟩
 |s::r,t,i,h=>by
  obtain⟨h1,h2⟩:=step_late (s:=s) (i:=i) hp h
  obtain⟨h3,h4⟩:=treeGo_late hp r _ (i+1) h1
  rw[treeGo]
  exact⟨h3,by rw[List.length_cons];omega⟩
theorem made_late {v:Int}{l:List Int}(hv:0≤v∧v≤255):LateT (madeParams v) (madeT v l)∧(madeT v l).1.length≤15:=by
 have h0:LateT (madeParams v) (startT (madeParams v)).1:=by
  rw[startT_fit (made_valid hv)]
  intro j j0 j1
  have j1:j<1:=j1
  omega
 obtain⟨h1,h2⟩:=treeGo_late (made_ok hv) (l.take 14) _ 0 h0
 refine⟨h1, ?_⟩
 have:(startT (madeParams v)).1.1.length=1:=by rw[startT_fit (made_valid hv)];rfl
 rw[List.length_take] at h2
 show(treeGo _ _ 0 (l.take 14)).1.length≤15
 omega
end Lc
