/- The tree of headers: inserting the nodes of a made tree again, in their order or in another one, and behind a chain of good headers. -/
import Derived.Test.YtlabkmpegbnilaaGreatDoorTreeI
set_option linter.unusedVariables false
set_option linter.unusedSimpArgs false
set_option maxRecDepth 100000
namespace Lc
open Go
theorem take_at {α:Type}(d:α){l:List α}{i:Nat}(h:i<l.length):l.take (i+1)=l.take i++[l.getD i d]:=by
 rw[List.take_add_one,List.getD_eq_getElem?_getD,List.getElem?_eq_getElem h];rfl
theorem best_step {p:Par}{t:Tre}{cs:List Cx}(hv:Valid15 p t cs)(hl:LateT p t)(h15:t.1.length≤4096){i:Nat}(i0:0<i)(i1:i<t.1.length)(hu:validT p (t.1.take i,firstFn (t.1.take i),())=true):
 insertT p (t.1.take i,firstFn (t.1.take i),()) (t.1.getD i zn).1 1073741824=((t.1.take (i+1),firstFn (t.1.take (i+1)),()),(i:Int),0):=by
 obtain⟨n1,n2,n3⟩:=node_child hv i0 i1
 obtain⟨s,_⟩:=hv.step i i0 i1
 obtain⟨k,hk⟩:∃k:Nat,(t.1.getD i zn).2.2.1=k:=⟨(t.1.getD i zn).2.2.1.toNat,by have:=s.1;omega⟩
 have hki:k<i:=by have:=s.2.1;omega
 have hlen:(t.1.take i).length=i:=by rw[List.length_take];omega
 rw[hk,Int.toNat_natCast] at n2 n3
 have hla:=hl i i0 i1
 rw[hk,Int.toNat_natCast] at hla
 have hgk:(t.1.take i).getD k zn=t.1.getD k zn:=getD_take zn _ _ _ hki
 have hf:findFn (t.1.take i) (t.1.getD i zn).1.2.1=k:=by
  rw[n3,←hgk];exact vfind hu (show k<(t.1.take i).length by omega)
 have hlk:=hv.linked
 rw[←List.take_append_drop i t.1] at hlk
 have ha:atFn p (t.1.take i) k=atFn p t.1 k:=by
  have:=at_app (p:=p) hlk k (by omega)
  rw[List.take_append_drop] at this
  exact this.symm
 have h1:findFn (t.1.take i) (hashH (t.1.getD i zn).1)<0:=find_none (fun j hj=>by
  rw[getD_take zn _ _ _ (by omega),←n1];exact s.2.2.1 j (by omega))
 have:=insert_go (p:=p) (t:=(t.1.take i,firstFn (t.1.take i),())) (h:=(t.1.getD i zn).1) (now:=1073741824) hu h1 hf (by rw[ha];exact hla) (by show(t.1.take i).length≠4096;omega)
 rw[this]
 show((t.1.take i++[childFn ((t.1.take i).getD k zn) k (t.1.getD i zn).1],_,()),((t.1.take i).length:Int),(0:Int))=_
 rw[hgk,←n2,hlen,take_at zn i1]
structure OrdI (p:Par)(t u:Tre)(ws:List Nd):Prop where
 valid:validT p u=true
 img:∀i,i<u.1.length→∃j,j<t.1.length∧(u.1.getD i zn).1=(t.1.getD j zn).1∧(u.1.getD i zn).2.1=(t.1.getD j zn).2.1∧(u.1.getD i zn).2.2.2=(t.1.getD j zn).2.2.2∧atFn p u.1 i=atFn p t.1 j
 wait:∀w,w∈ws→∃j,0<j∧j<t.1.length∧w=t.1.getD j zn
 all:∀j,j<t.1.length→(∃i,i<u.1.length∧(u.1.getD i zn).2.1=(t.1.getD j zn).2.1)∨t.1.getD j zn∈ws
 apart:∀w,w∈ws→∀i,i<u.1.length→(u.1.getD i zn).2.1≠w.2.1
 once:ws.Pairwise (fun a b=>a.2.1≠b.2.1)
 len:u.1.length+ws.length=t.1.length
theorem hash_only {p:Par}{t:Tre}(hv:validT p t=true){i j:Nat}(hi:i<t.1.length)(hj:j<t.1.length)(h:(t.1.getD i zn).2.1=(t.1.getD j zn).2.1):i=j:=by
 have h1:=vfind hv hi
 have h2:=vfind hv hj
 rw[h] at h1;omega
theorem ord_first {p:Par}{t:Tre}(hv:validT p t=true)(hs:validT p (startT p).1=true):OrdI p t (startT p).1 (t.1.drop 1):=by
 obtain⟨cs,_,h2,_⟩:=valid_of hv
 have hpos:=h2.fit.2.1
 have hst:=startT_fit h2.fit.1
 rw[hst] at hs⊢
 have hg:∀i,(t.1.drop 1).getD i zn=t.1.getD (i+1) zn:=fun i=>by
  rw[List.getD_eq_getElem?_getD,List.getElem?_drop,Nat.add_comm,←List.getD_eq_getElem?_getD]
 have hm:∀w,w∈t.1.drop 1→∃j,0<j∧j<t.1.length∧w=t.1.getD j zn:=fun w hw=>by
  obtain⟨i,hi,rfl⟩:=List.getElem_of_mem hw
  rw[List.length_drop] at hi
  refine⟨i+1,by omega,by omega, ?_⟩
  rw[←hg,List.getD_eq_getElem?_getD,List.getElem?_eq_getElem,Option.getD_some]
 refine⟨hs,fun i hi=> ?_,hm,fun j hj=> ?_,fun w hw i hi=> ?_, ?_, ?_⟩
 ·have hi:i<1:=hi
  obtain rfl:i=0:=by omega
  refine⟨0,by omega, ?_⟩
  rw[h2.fit.2.2.2]
  exact⟨rfl,rfl,rfl,rfl⟩
 ·by_cases e:j=0
  ·subst e
   refine .inl ⟨0,by show 0<1;omega, ?_⟩
   rw[h2.fit.2.2.2];rfl
  ·right
   have:(t.1.drop 1).getD (j-1) zn∈t.1.drop 1:=get_at zn (P:=fun x=>x∈t.1.drop 1) (fun x hx=>hx) (by rw[List.length_drop];omega)
   rwa [hg,show j-1+1=j by omega] at this
 ·have hi:i<1:=hi
  obtain rfl:i=0:=by omega
  obtain⟨j,j0,j1,rfl⟩:=hm w hw
  show(startN p).2.1≠_
  rw[←h2.fit.2.2.2]
  exact(h2.step j j0 j1).1.2.2.1 0 j0
 ·rw[List.pairwise_iff_getElem]
  intro i j hi hj hij he
  rw[List.length_drop] at hi hj
  have e1:(t.1.drop 1)[i]=t.1.getD (i+1) zn:=by rw[←hg,List.getD_eq_getElem?_getD,List.getElem?_eq_getElem,Option.getD_some]
  have e2:(t.1.drop 1)[j]=t.1.getD (j+1) zn:=by rw[←hg,List.getD_eq_getElem?_getD,List.getElem?_eq_getElem,Option.getD_some]
  rw[e1,e2] at he
  have:=hash_only hv (show i+1<t.1.length by omega) (show j+1<t.1.length by omega) he
  omega
 ·show 1+(t.1.drop 1).length=_
  rw[List.length_drop];omega
theorem mem_cut {α:Type}(d:α){l:List α}{k:Nat}(hk:k<l.length)(x:α):x∈l↔x=l.getD k d∨x∈l.take k++l.drop (k+1):=by
 have h:=drop_at d (l:=l) (i:=(k:Int)) (by omega) (by omega)
 rw[Int.toNat_natCast,show((k:Int)+1).toNat=k+1 by omega] at h
 conv=>lhs;rw[←List.take_append_drop k l,h]
 simp only[List.mem_append,List.mem_cons]
 constructor
 ·rintro(h|h|h)
  ·exact .inr (.inl h)
  ·exact .inl h
  ·exact .inr (.inr h)
 ·rintro(h|h|h)
  ·exact .inr (.inl h)
  ·exact .inl h
  ·exact .inr (.inr h)
theorem ord_step {p:Par}{t u:Tre}{ws:List Nd}(hp:PGood p)(hv:validT p t=true)(hl:LateT p t)(h15:t.1.length≤4096)(h:OrdI p t u ws){k:Nat}(hk:k<ws.length):
 (insertT p u (ws.getD k zn).1 1073741824).2.2=151∨((insertT p u (ws.getD k zn).1 1073741824).2.2=0∧OrdI p t (insertT p u (ws.getD k zn).1 1073741824).1 (ws.take k++ws.drop (k+1))):=by
 obtain⟨cs,_,h2,_⟩:=valid_of hv
 obtain⟨cu,_,u2,_⟩:=valid_of h.valid
 have hw:ws.getD k zn∈ws:=get_at zn (P:=fun x=>x∈ws) (fun x hx=>hx) hk
 obtain⟨j,j0,j1,hj⟩:=h.wait _ hw
 have hap:=h.apart _ hw
 have hlen:=h.len
 have hmem:=mem_cut zn hk
 have hnod:=h.once
 have hcut:ws.Pairwise (fun a b=>a.2.1≠b.2.1)→∀w,w∈ws.take k++ws.drop (k+1)→(ws.getD k zn).2.1≠w.2.1:=by
  intro hp w hw
  have hd:=drop_at zn (l:=ws) (i:=(k:Int)) (by omega) (by omega)
  rw[Int.toNat_natCast,show((k:Int)+1).toNat=k+1 by omega] at hd
  rw[←List.take_append_drop k ws,hd,List.pairwise_append,List.pairwise_cons] at hp
  rw[←List.take_append_drop k ws,hd] at hw
  obtain⟨p1,⟨p2,p3⟩,p4⟩:=hp
  rw[←hd,List.take_append_drop] at hw
  rcases List.mem_append.1 hw with hw|hw
  ·exact fun e=>p4 w hw _ (List.mem_cons_self) e.symm
  ·exact p2 w hw
 have hne:=hcut hnod
 generalize ws.getD k zn=w at*
 subst hj
 obtain⟨n1,n2,n3⟩:=node_child h2 j0 j1
 obtain⟨s,_⟩:=h2.step j j0 j1
 obtain⟨m,hm⟩:∃m:Nat,(t.1.getD j zn).2.2.1=m:=⟨(t.1.getD j zn).2.2.1.toNat,by have:=s.1;omega⟩
 have hmj:m<j:=by have:=s.2.1;omega
 have hla:=hl j j0 j1
 rw[hm,Int.toNat_natCast] at hla n2 n3
 have hf1:findFn u.1 (hashH (t.1.getD j zn).1)<0:=find_none (fun i hi=>by rw[←n1];exact hap i hi)
 rcases find_spec u.1 (t.1.getD j zn).1.2.1 with⟨f1,_⟩|⟨i,i1,f2,f3,_⟩
 ·left
  rw[insertT,if_neg (by simp[h.valid]),if_neg (by omega),if_pos (by omega)]
 right
 obtain⟨j',g1,g2,g3,g4,g5⟩:=h.img i i1
 have hjm:j'=m:=hash_only hv g1 (by omega) (by rw[←g3,f3,n3])
 subst hjm
 have hins:=insert_go (p:=p) (t:=u) (h:=(t.1.getD j zn).1) (now:=1073741824) h.valid hf1 f2 (by rw[g5];exact hla) (by omega)
 have hchild:(childFn (u.1.getD i zn) i (t.1.getD j zn).1).1=(t.1.getD j zn).1∧(childFn (u.1.getD i zn) i (t.1.getD j zn).1).2.1=(t.1.getD j zn).2.1∧(childFn (u.1.getD i zn) i (t.1.getD j zn).1).2.2.2=(t.1.getD j zn).2.2.2∧(childFn (u.1.getD i zn) i (t.1.getD j zn).1).2.2.1=i:=by
  refine⟨rfl,n1.symm, ?_,rfl⟩
  have:=congrArg (fun n:Nd=>n.2.2.2) n2
  refine Eq.trans ?_ this.symm
  show(IntKind.i64.wrap ((u.1.getD i zn).2.2.2.1+1),totFn (u.1.getD i zn).2.2.2.2.1 _,())=(IntKind.i64.wrap ((t.1.getD j' zn).2.2.2.1+1),totFn (t.1.getD j' zn).2.2.2.2.1 _,())
  rw[g4]
 generalize childFn (u.1.getD i zn) i (t.1.getD j zn).1=x at*
 obtain⟨x1,x2,x3,x4⟩:=hchild
 have hval:=insert_valid (p:=p) (t:=u) (h:=(t.1.getD j zn).1) (now:=1073741824) hp (by rw[hins])
 obtain⟨cv,_,v2,_⟩:=valid_of hval
 have hlk:=v2.linked
 rw[hins] at hval hlk⊢
 have hlk:Linked (u.1++[x]):=hlk
 refine⟨rfl,hval,fun q hq=> ?_,fun w hw=>h.wait w ((hmem w).2 (.inr hw)),fun q hq=> ?_,fun w hw q hq=> ?_, ?_, ?_⟩
 ·have hq:q<(u.1++[x]).length:=hq
  rw[List.length_append,List.length_singleton] at hq
  show∃j,_∧((u.1++[x]).getD q zn).1=_∧((u.1++[x]).getD q zn).2.1=_∧((u.1++[x]).getD q zn).2.2.2=_∧atFn p (u.1++[x]) q=_
  by_cases e:q=u.1.length
  ·subst e
   refine⟨j,j1, ?_⟩
   rw[at_step hlk (by omega) (by rw[List.length_append,List.length_singleton];omega),getD_last,x4,Int.toNat_natCast,at_app hlk _ i1,g5,x1,at_step h2.linked j0 j1,hm,Int.toNat_natCast]
   exact⟨rfl,x2,x3,rfl⟩
  ·obtain⟨j'',e1,e2,e3,e4,e5⟩:=h.img q (by omega)
   refine⟨j'',e1, ?_⟩
   rw[getD_app zn (by omega),at_app hlk _ (by omega)]
   exact⟨e2,e3,e4,e5⟩
 ·rcases h.all q hq with⟨i',e1,e2⟩|hq2
  ·refine .inl ⟨i',by show i'<(u.1++[x]).length;rw[List.length_append];omega, ?_⟩
   show((u.1++[x]).getD i' zn).2.1=_
   rw[getD_app zn e1];exact e2
  ·rcases(hmem _).1 hq2 with e|e
   ·refine .inl ⟨u.1.length,by show u.1.length<(u.1++[x]).length;rw[List.length_append,List.length_singleton];omega, ?_⟩
    show((u.1++[x]).getD u.1.length zn).2.1=_
    rw[getD_last,x2,e]
   ·exact .inr e
 ·have hq:q<(u.1++[x]).length:=hq
  rw[List.length_append,List.length_singleton] at hq
  show((u.1++[x]).getD q zn).2.1≠_
  by_cases e:q=u.1.length
  ·subst e;rw[getD_last,x2];exact hne w hw
  ·rw[getD_app zn (by omega)];exact h.apart w ((hmem w).2 (.inr hw)) q (by omega)
 ·refine hnod.sublist ?_
  have hd:=drop_at zn (l:=ws) (i:=(k:Int)) (by omega) (by omega)
  rw[Int.toNat_natCast,show((k:Int)+1).toNat=k+1 by omega] at hd
  conv=>rhs;rw[←List.take_append_drop k ws,hd]
  exact(List.Sublist.refl _).append (List.sublist_cons_self _ _)
 ·show(u.1++[x]).length+_=_
  rw[List.length_append,List.length_append,List.length_take,List.length_drop,List.length_singleton];omega
theorem ok4_inj {a b:List Int}(ha:Ok4 a)(hb:Ok4 b)(h:N4 a=N4 b):a=b:=by rw[ha.W.symm,hb.W.symm,h]
theorem ord_end {p:Par}{t u:Tre}(hv:validT p t=true)(ht:TreOk t)(hu:TreOk u)(h:OrdI p t u []):
 (t.1.getD t.2.1.toNat zn).2.2.2.2.1=(u.1.getD u.2.1.toNat zn).2.2.2.2.1∧
 ∃j,j<t.1.length∧(t.1.getD j zn).2.2.2.2.1=(t.1.getD t.2.1.toNat zn).2.2.2.2.1∧(u.1.getD u.2.1.toNat zn).2.1=(t.1.getD j zn).2.1:=by
 obtain⟨cs,_,h2,h3⟩:=valid_of hv
 obtain⟨cu,_,u2,u3⟩:=valid_of h.valid
 have hb:t.2.1.toNat=bestUp t.1 t.1.length:=by rw[h3,firstFn,Int.toNat_natCast]
 have hbu:u.2.1.toNat=bestUp u.1 u.1.length:=by rw[u3,firstFn,Int.toNat_natCast]
 have l1:=first_lt h2.best
 have l2:=first_lt u2.best
 rw[hb,hbu]
 obtain⟨j,g1,g2,g3,g4,_⟩:=h.img _ l2
 have m1:=(bestUp_max t.1 t.1.length j g1).1
 have hw:∀{i j:Nat},(u.1.getD i zn).2.2.2=(t.1.getD j zn).2.2.2→wk u.1 i=wk t.1 j:=fun e=>by unfold wk;rw[e]
 have hN:wk t.1 (bestUp t.1 t.1.length)=wk u.1 (bestUp u.1 u.1.length):=by
  rcases h.all _ l1 with⟨i,i1,i2⟩|hq
  ·obtain⟨j',e1,e2,e3,e4,_⟩:=h.img i i1
   have:j'=bestUp t.1 t.1.length:=hash_only hv e1 l1 (by rw[←e3,i2])
   subst this
   have m2:=(bestUp_max u.1 u.1.length i i1).1
   rw[hw e4] at m2
   rw[hw g4] at m2⊢
   omega
  ·cases hq
 refine⟨ok4_inj (ht.get l1).2.2 (hu.get l2).2.2 hN,j,g1,ok4_inj (ht.get g1).2.2 (ht.get l1).2.2 ?_,g3⟩
 rw[hw g4] at hN
 exact hN.symm
def Chn (p:Par):Cx→List Hdr→Prop
 |_,[]=>True
 |c,h::r=>checkFn p c h 1073741824=0∧Chn p (advFn p c h).1 r
theorem chn_at {p:Par}{t:Tre}{n:Nat}{h:Hdr}(hp:PGood p)(hv:validT p t=true)(h15:t.1.length<4096)(hn:n<t.1.length)(hc:checkFn p (atFn p t.1 n) h 1073741824=0):
 (insertT p t h 1073741824).2.2=150∨((insertT p t h 1073741824)=((t.1++[childFn (t.1.getD n zn) n h],firstFn (t.1++[childFn (t.1.getD n zn) n h]),()),(t.1.length:Int),0)∧
   validT p (t.1++[childFn (t.1.getD n zn) n h],firstFn (t.1++[childFn (t.1.getD n zn) n h]),())=true∧atFn p (t.1++[childFn (t.1.getD n zn) n h]) t.1.length=(advFn p (atFn p t.1 n) h).1):=by
 obtain⟨cs,_,h2,_⟩:=valid_of hv
 have hprev:=check_prev hc
 rw[h2.hash hn] at hprev
 have hf:=vfind hv hn
 rw[←hprev] at hf
 by_cases hq:0≤findFn t.1 (hashH h)
 ·left
  rw[insertT,if_neg (by simp[hv]),if_pos hq]
 right
 have hins:=insert_go (p:=p) (t:=t) (h:=h) (now:=1073741824) hv (by omega) hf hc (by omega)
 have hval:=insert_valid (p:=p) (t:=t) (h:=h) (now:=1073741824) hp (by rw[hins])
 rw[hins] at hval
 obtain⟨cv,_,v2,_⟩:=valid_of hval
 have hlk:Linked (t.1++[childFn (t.1.getD n zn) n h]):=v2.linked
 refine⟨hins,hval, ?_⟩
 rw[at_step hlk h2.best (by rw[List.length_append,List.length_singleton];omega),getD_last]
 show(advFn p (atFn p _ ((n:Int)).toNat) h).1=_
 rw[Int.toNat_natCast,at_app hlk _ hn]
theorem headers_chn {p:Par}:∀(l:List Int) (c:Cx),Chn p c (headersGo p c l)
 |[],c=>trivial
 |s::r,c=>by
  rw[headersGo]
  split
  ·trivial
  ·rename_i hc
   exact⟨Decidable.byContradiction hc,headers_chn r _⟩
end Lc
