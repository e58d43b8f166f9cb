/- The engine, part O, third text: cuts. -/
import Derived.Test.YtlhdieoemhjjiaaGreatDoorEngNO
import Derived.Test.YtlhdieoemhjjiaaGreatDoorEngOo
set_option linter.unusedVariables false
set_option linter.unusedSimpArgs false
namespace Lc
open Go Go.RowKit
section
variable {E : Env} {fix : Nat → Option Value} {F0 : FH} {w0 : Ctx} {F : FH} {ρ : RM} {st : St} {a : Act} {w : World}
theorem set_self {H:Array Obj}{b:Nat}{o:Obj}(h:H[b]? =some o):H.setIfInBounds b o=H:=by
 apply Array.ext_getElem?
 intro j
 rw[Array.getElem?_setIfInBounds]
 split
 ·rename_i hj;subst hj
  rw[if_pos (Array.getElem?_eq_some_iff.1 h).1,h]
 ·rfl
theorem freeze_one {F:FH}{ρ:RM}{s:St}(R:Rel E fix F0 w0 F ρ s a w){k:Nat}{blk:Blk}(hL:hl s.hp k=some (some blk))(hnm:¬(blk.row&&isMapT blk.t)=true)(hno:blk.isOpen=false):
 ∃F' ρ',Rel E fix F0 w0 F' ρ' ⟨s.tm,(k,some ⟨blk.row,blk.t,blk.x,true,[]⟩)::s.hp⟩ a w:=by
 have build:∀(F':FH) (ρ':RM),F.le F'→(∀b,¬w0.U b→F' b=F b)→HRel F' ρ' (upd (hl s.hp) k (some (some ⟨blk.row,blk.t,blk.x,true,[]⟩))) w.heap w0.U→
  LLe (hl s.hp) ρ (upd (hl s.hp) k (some (some ⟨blk.row,blk.t,blk.x,true,[]⟩))) ρ'→Rel E fix F0 w0 F' ρ' ⟨s.tm,(k,some ⟨blk.row,blk.t,blk.x,true,[]⟩)::s.hp⟩ a w:=by
  intro F' ρ' h1 h2 h3 h4
  refine⟨by rw[hl_cons];exact h3,R.below,R.up,R.glob,R.le.trans h1,fun b hb=>(h2 b hb).trans (R.base b hb),fun m av hm=> ?_,fun m av hm q hq=> ?_,R.ntm,R.defers,R.fixed,R.lock⟩
  ·rw[hl_cons];exact repAV_ext h1 h4 (R.keys _ _ hm) (R.tm _ _ hm)
  ·rw[hl_cons]
   have:=R.keys _ _ hm q hq
   by_cases hqk:q=k
   ·subst hqk;rw[upd_same];rfl
   ·rw[upd_ne _ _ hqk];exact this
 have e0:upd (upd (hl s.hp) k (some none)) k (some (some (⟨blk.row,blk.t,blk.x,true,[]⟩:Blk)))=upd (hl s.hp) k (some (some ⟨blk.row,blk.t,blk.x,true,[]⟩)):=by
  funext q;by_cases h:q=k<;>simp[upd,h]
 rcases R.rel.blk _ _ hL with h1|⟨b,cap,c,e,fr,hd,cs,rest,g1,g2,g3,g4,g5,g6,g7⟩|⟨K,V,ys,hm⟩
 rotate_left 2
 ·exact absurd (by rw[hm.row,show blk.t= .map K V from congrArg TV.t hm.eq];rfl) hnm
 ·have hLL:=LLe.redo (ρ:=ρ) (blk':=⟨blk.row,blk.t,blk.x,true,[]⟩) hL (.inl ⟨rfl,rfl,rfl,rfl⟩) h1
  rw[e0] at hLL
  exact⟨F,upd ρ k none,build F _ FH.le.rfl (fun _ _=>rfl) (R.rel.freshNil hLL rfl) hLL⟩
 ·rw[holes_shut hno] at g6
  rw[still_shut hno] at g7
  obtain⟨F',f1,f2,f3⟩:=R.rel.redo (k':=k) (blk':=⟨blk.row,blk.t,blk.x,true,[]⟩) (c':=c) (hd:=hd) (cs:=cs) (cs':=cs) (rest:=rest) (rest':=rest) hL (.inl ⟨rfl,rfl,rfl,rfl⟩) g1 g3 g2 g4 g5 g7 rfl g5.2.2 g6 (fun _=>⟨rfl,fun _ _ h=>h⟩) (fun p kk hm=>by cases hm)
  rw[set_self g3,e0] at f3
  refine⟨F',_,build F' _ f1 (fun b' hb'=>f2 b' (fun e=>hb' (by rw[e];exact g2))) f3 ?_⟩
  have:=LLe.redo (ρ:=ρ) (blk':=⟨blk.row,blk.t,blk.x,true,[]⟩) hL (.inl ⟨rfl,rfl,rfl,rfl⟩) g1
  rw[e0] at this
  exact this
theorem close_hole {F:FH}{ρ:RM}{s:St}(R:Rel E fix F0 w0 F ρ s a w){k kk n:Nat}{blk:Blk}{u:Ty}{xs:(Ty.arr n u).den}{sp:Stp}{p:List Stp}{z:blk.t.den}(hL:hl s.hp k=some (some blk))(ho:blk.isOpen=true)
 (hl1:blk.lk=[(sp::p,kk)]) (hK:hl s.hp kk=some (some ⟨true,.arr n u,xs,true,[]⟩)) (hz:setP blk.t blk.x (sp::p) ⟨.slc u,xs⟩=some z):
 ∃F' ρ',Rel E fix F0 w0 F' ρ' ⟨s.tm,(k,some ⟨false,blk.t,z,false,[]⟩)::s.hp⟩ a w:=by
 have hrow:blk.row=false:=(isOpen_is ho).1
 have hlen:(⟨false,blk.t,z,false,[]⟩:Blk).len=blk.len:=lenT_setP hz (by simp)
 have hk0:(k=k∧(⟨false,blk.t,z,false,[]⟩:Blk).t=blk.t∧(⟨false,blk.t,z,false,[]⟩:Blk).row=blk.row∧(⟨false,blk.t,z,false,[]⟩:Blk).len=blk.len)∨hl s.hp k=none:= .inl ⟨rfl,rfl,hrow.symm,hlen⟩
 have build:∀(F':FH) (ρ':RM),F.le F'→(∀b,¬w0.U b→F' b=F b)→HRel F' ρ' (upd (hl s.hp) k (some (some ⟨false,blk.t,z,false,[]⟩))) w.heap w0.U→
  LLe (hl s.hp) ρ (upd (hl s.hp) k (some (some ⟨false,blk.t,z,false,[]⟩))) ρ'→Rel E fix F0 w0 F' ρ' ⟨s.tm,(k,some ⟨false,blk.t,z,false,[]⟩)::s.hp⟩ a w:=by
  intro F' ρ' h1 h2 h3 h4
  refine⟨by rw[hl_cons];exact h3,R.below,R.up,R.glob,R.le.trans h1,fun b hb=>(h2 b hb).trans (R.base b hb),fun m av hm=> ?_,fun m av hm q hq=> ?_,R.ntm,R.defers,R.fixed,R.lock⟩
  ·rw[hl_cons];exact repAV_ext h1 h4 (R.keys _ _ hm) (R.tm _ _ hm)
  ·rw[hl_cons]
   have:=R.keys _ _ hm q hq
   by_cases hqk:q=k
   ·subst hqk;rw[upd_same];rfl
   ·rw[upd_ne _ _ hqk];exact this
 have e0:upd (upd (hl s.hp) k (some none)) k (some (some (⟨false,blk.t,z,false,[]⟩:Blk)))=upd (hl s.hp) k (some (some ⟨false,blk.t,z,false,[]⟩)):=by
  funext q;by_cases h:q=k<;>simp[upd,h]
 cases hρ:ρ k with
 |none=>
  have hLL:=LLe.redo (ρ:=ρ) (blk':=⟨false,blk.t,z,false,[]⟩) hL hk0 hρ
  rw[e0] at hLL
  exact⟨F,upd ρ k none,build F _ FH.le.rfl (fun _ _=>rfl) (R.rel.freshNil hLL rfl) hLL⟩
 |some bc=>
  obtain⟨bb,cap⟩:=bc
  obtain⟨hc0,c,eid,fr,u',offp,v,g1,g2,g3,g4,g5,g6,g7,g8,g9,g10⟩:=R.rel.open hL ho hl1 hρ
  have hokT:=fld_ok _ _ _ _ g5 g6
  have hn0:(Ty.arr n u)= .arr 0 u':=(repAV_whole.1 g8 _ hK).1
  cases hn0
  have hb:some (⟨true,.arr 0 u,xs,true,[]⟩:Blk)=blkL (hl s.hp) (.whole kk (.arr 0 u) []):=by
   simp only[blkL,blkF,AV.key,hK];rfl
  have hv:RepV F (.slc u) xs v:=by
   have:=deepV_sound (E:=true) (t:= .slc u) (x:=xs) (cs:=[]) R.rel g8 hb (by simp[deepV,getP,TV.as,castT]) (by simp)
   simpa using this
  have hvc:Rep F (.slc u) xs [v]:=hv
  obtain⟨o2,n1,n2,n3⟩:=setP_rep _ _ _ _ g10 hokT ⟨.slc u,xs⟩ z hz _ hvc
  rw[g6] at n1
  cases n1
  have lc:=rep_len _ _ _ g10
  simp only[List.length_set,Array.length_toList] at lc
  simp only[Ty.size] at n2 n3
  have hlt:offp<c.toList.length:=by simp;omega
  have hcells:(c.toList.set offp (.slice none 0 0)).take offp++[v]++(c.toList.set offp (.slice none 0 0)).drop (offp+1)=c.toList:=by
   rw[List.take_set_of_le (Nat.le_refl _),List.drop_set_of_lt (by omega)]
   have h1:c.toList[offp]=v:=(List.getElem?_eq_some_iff.1 g7).2
   conv=>rhs;rw[←List.take_append_drop offp c.toList,List.drop_eq_getElem_cons hlt,h1]
   simp
  rw[hcells] at n3
  obtain⟨F',f1,f2,f3⟩:=R.rel.redoG (s:=false) (k':=k) (blk':=⟨false,blk.t,z,false,[]⟩) (c':=c) (hd:=[]) (cs:=c.toList) (rest:=[]) (cs':=c.toList) (rest':=[])
   hL hk0 hρ g2 g1 g3 ⟨by simp[hc0],fun _=>hc0,by simp⟩ (fun i=>by rw[g4];rfl) rfl (by simp)
   (by rw[holes_shut rfl];exact repC_of n3 (by simp) hc0) (fun h=>by cases h) (fun p' kk' hm=>by cases hm)
  rw[set_self g2,e0] at f3
  refine⟨F',_,build F' _ f1 (fun b' hb'=>f2 b' (fun e=>hb' (by rw[e];exact g1))) f3 ?_⟩
  have:=LLe.redo (ρ:=ρ) (blk':=⟨false,blk.t,z,false,[]⟩) hL hk0 hρ
  rw[e0] at this
  exact this
theorem closeA_sound {F:FH}{ρ:RM}{s:St}(R:Rel E fix F0 w0 F ρ s a w){k:Nat}{blk:Blk}(hL:hl s.hp k=some (some blk))(ho:blk.isOpen=true):∃F' ρ',Rel E fix F0 w0 F' ρ' (closeA s k blk) a w:=by
 unfold closeA
 split
 ·rename_i sp p kk hlk
  split
  ·rename_i n u xs lks hK
   split
   ·rename_i z hz
    have hK':hl s.hp kk=some (some ⟨true,.arr n u,xs,false,lks⟩):=hK
    obtain⟨F1,ρ1,R1⟩:=freeze_one R hK' (by simp[isMapT]) rfl
    have hne:k≠kk:=by
     intro h
     subst h
     rw[hL] at hK'
     cases hK'
     cases (isOpen_is ho).1
    exact close_hole (blk:=blk) R1 (by rw[hl_cons,upd_ne _ _ hne];exact hL) ho hlk (by rw[hl_cons,upd_same]) hz
   ·exact⟨F,ρ,R⟩
  ·exact⟨F,ρ,R⟩
 ·exact⟨F,ρ,R⟩
theorem freeze_sound :∀(ns:List Nat) {F:FH} {ρ:RM},Rel E fix F0 w0 F ρ st a w→∃F' ρ',Rel E fix F0 w0 F' ρ' (freeze st ns) a w:=by
 intro ns
 induction ns with
 |nil=>intro F ρ R;exact⟨F,ρ,R⟩
 |cons n ns ih=>
  intro F ρ R
  obtain⟨F1,ρ1,R1⟩:=ih R
  simp only[freeze]
  generalize freeze st ns=s at R1
  split
  ·exact⟨F1,ρ1,R1⟩
  ·rename_i av hav
   split
   ·exact⟨F1,ρ1,R1⟩
   ·rename_i k hk
    split
    ·rename_i blk hb
     have hL:hl s.hp k=some (some blk):=hb
     split
     ·exact⟨F1,ρ1,R1⟩
     ·rename_i hnm
      split
      ·rename_i ho
       exact closeA_sound R1 hL ho
      ·rename_i ho
       exact freeze_one R1 hL hnm (by simpa using ho)
    ·exact⟨F1,ρ1,R1⟩
theorem repL_fun {α:Type}{R:α→List Value→Prop}{sz:Nat}(hl:∀x cs,R x cs→cs.length=sz)(h:∀x y cs,R x cs→R y cs→x=y):∀(xs ys:List α) (cs:List Value),xs.length=ys.length→RepL R xs cs→RepL R ys cs→xs=ys:=by
 intro xs
 induction xs with
 |nil=>intro ys cs e _ _;cases ys with|nil=>rfl|cons y ys=>simp at e
 |cons x xs ih=>
  intro ys cs e h1 h2
  cases ys with
  |nil=>simp at e
  |cons y ys=>
   obtain⟨c1,c2,rfl,a1,a2⟩:=h1
   obtain⟨d1,d2,e2,b1,b2⟩:=h2
   obtain⟨q1,q2⟩:=List.append_inj e2 (by rw[hl _ _ a1,hl _ _ b1])
   subst q1;subst q2
   rw[h _ _ _ a1 b1,ih ys c2 (by simpa using e) a2 b2]
theorem fat_fun {F:FH}{b off:Nat}{cs ds:List Value}(h:FAt F b off cs)(h':FAt F b off ds)(hl:cs.length=ds.length):cs=ds:=by
 apply List.ext_getElem?
 intro i
 by_cases hi:i<cs.length
 ·have e1:=h i _ (List.getElem?_eq_getElem hi)
  have e2:=h' i _ (List.getElem?_eq_getElem (by omega))
  rw[e1] at e2
  rw[List.getElem?_eq_getElem hi,List.getElem?_eq_getElem (show i<ds.length by omega)];exact e2
 ·rw[List.getElem?_eq_none (by omega),List.getElem?_eq_none (by omega)]
theorem rep_fun {F:FH}:∀(t:Ty) (x y:t.den) (cs:List Value),Rep F t x cs→Rep F t y cs→x=y:=by
 intro t
 induction t with
 |int k=>intro x y cs h h';cases h;cases h';rfl
 |bool=>intro x y cs h h';cases h;cases h';rfl
 |str=>intro x y cs h h';cases h;cases h';rfl
 |unit=>intro x y cs h h';rfl
 |pair a b iha ihb=>
  rintro x y cs ⟨c1,c2,rfl,h1,h2⟩ ⟨d1,d2,e,g1,g2⟩
  obtain⟨q1,q2⟩:=List.append_inj e (by rw[rep_len _ _ _ h1,rep_len _ _ _ g1])
  subst q1;subst q2
  exact Prod.ext (iha _ _ _ h1 g1) (ihb _ _ _ h2 g2)
 |arr n t ih=>
  rintro x y cs ⟨h1,h2⟩ ⟨g1,g2⟩
  exact repL_fun (fun x cs=>rep_len t x cs) ih x y cs (h1.trans g1.symm) h2 g2
 |slc t ih=>
  rintro x y cs ⟨v,rfl,h⟩ ⟨v',e,h'⟩
  cases e
  rcases h with⟨⟨_,rfl⟩,h1,_⟩|⟨b,off,cap,cl,rfl,h1,h2,h3⟩
  ·have e1:x=[]:=List.eq_nil_of_length_eq_zero h1
   rcases h' with⟨_,g1,_⟩|⟨b',off',cap',cl',g0,_⟩
   ·rw[e1,List.eq_nil_of_length_eq_zero g1]
   ·injection g0 with q1 q2 q3
    rw[e1,List.eq_nil_of_length_eq_zero q2.symm]
  ·rcases h' with⟨⟨_,g0⟩,q,_⟩|⟨b',off',cap',cl',g0,g1,g2,g3⟩
   ·injection g0 with q1 q2 q3
    rw[List.eq_nil_of_length_eq_zero q2,List.eq_nil_of_length_eq_zero q]
   ·injection g0 with q1 q2 q3
    injection q1 with q1
    injection q1 with q4 q5 q6
    subst q4;subst q5
    have:=fat_fun h3 g3 (by rw[repL_rep_len h2,repL_rep_len g2,q2])
    subst this
    exact repL_fun (fun x cs=>rep_len t x cs) ih x y cl q2 h2 g2
 |map k v _ _=>rintro x y cs ⟨rfl,_⟩ ⟨rfl,_⟩;rfl
 |fn f c ih=>
  rintro x y cs ⟨v,rfl,h⟩ ⟨v',e,h'⟩
  have e:v=v':=by simpa using e
  subst e
  split at h
  ·rename_i hc
   rw[if_pos hc] at h'
   obtain⟨ds,e1,e2⟩:=h
   obtain⟨ds',e3,e4⟩:=h'
   rw[e1] at e3
   have:ds=ds':=by simpa using e3
   subst this
   exact ih _ _ _ e2 e4
  ·rename_i hc
   rw[if_neg hc] at h'
   exact ih _ _ _ h h'
 |ref c ih=>
  rintro x y cs ⟨b,off,ds,rfl,h1,h2⟩ ⟨b',off',ds',e,h1',h2'⟩
  simp only[List.cons.injEq,and_true] at e
  injection e with e
  injection e with e
  injection e with q4 q5 q6
  subst q4;subst q5
  have:=fat_fun h2 h2' (by rw[rep_len _ _ _ h1,rep_len _ _ _ h1'])
  subst this
  exact ih _ _ _ h1 h1'
theorem RepB.lk {F:FH}{H:Array Obj}{U:Nat→Prop}{r:Option (Nat×Cap)}{row fz:Bool}{t:Ty}{x:t.den}{l l':List (List Stp×Nat)}(h:RepB F H U r ⟨row,t,x,fz,l⟩)(hz:row=true∨fz=false:=by first|exact .inl rfl|exact .inr rfl):RepB F H U r ⟨row,t,x,fz,l'⟩:=by
 have o1:(⟨row,t,x,fz,l⟩:Blk).isOpen=false:=hz.elim (fun e=>isOpen_row e) (fun e=>isOpen_fz e)
 have o2:(⟨row,t,x,fz,l'⟩:Blk).isOpen=false:=hz.elim (fun e=>isOpen_row e) (fun e=>isOpen_fz e)
 rcases h with h|h|⟨K,V,xs,h⟩
 ·exact .inl h
 ·refine .inr (.inl ?_)
  simp only[holes_shut o1,still_shut o1] at h
  simp only[holes_shut o2,still_shut o2]
  exact h
 ·exact .inr (.inr ⟨K,V,xs,h.row,h.fz,h.eq,h.out⟩)
theorem getP_fld :∀(t:Ty) (x:t.den) (p:List Stp) (u:Ty) (o:Nat),fldOnly p=true→t.nav p=some (u,o)→∃z,getP t x p=some ⟨u,z⟩:=by
 intro t
 induction t with
 |pair a b iha ihb=>
  intro x p u o hf hn
  cases p with
  |nil=>simp only[Ty.nav,Option.some.injEq,Prod.mk.injEq] at hn;obtain⟨rfl,rfl⟩:=hn;exact⟨x,rfl⟩
  |cons s p=>
   cases s with
   |idx i=>simp[fldOnly] at hf
   |fld i=>
    cases i with
    |zero=>simp only[Ty.nav] at hn;exact iha x.1 p u o hf hn
    |succ i=>
     simp only[Ty.nav] at hn
     split at hn
     ·rename_i u1 o1 e
      cases hn
      exact ihb x.2 (.fld i::p) u o1 hf e
     ·cases hn
 |_=>
  intro x p u o hf hn
  cases p with
  |nil=>simp only[Ty.nav,Option.some.injEq,Prod.mk.injEq] at hn;obtain⟨rfl,rfl⟩:=hn;exact⟨x,rfl⟩
  |cons s p=>cases s<;>simp[Ty.nav,fldOnly] at hn hf
theorem link_data {F:FH}{ρ:RM}{L:HL}{H:Array Obj}{B0:Nat→Prop}(h:HRel F ρ L H B0){k kk b off m:Nat}{cap:Cap}{t u:Ty}{y:t.den}{fz:Bool}{lk lk':List (List Stp×Nat)}{xs:List u.den}{p:List Stp}
 (hk:L k=some (some ⟨false,t,y,fz,lk⟩)) (ho:(⟨false,t,y,fz,lk⟩:Blk).isOpen=false) (hr:ρ k=some (b,cap)) (hm:(p,kk)∈lk) (hkk:L kk=some (some ⟨true,.arr m u,xs,true,lk'⟩)) (hn:t.nav p=some (.slc u,off)):rowOf t y p u=xs∧m=0:=by
 obtain⟨_,g2⟩:=h.lnk k _ hk p kk hm
 obtain⟨f0,u',off',v,n1,n2,n3⟩:=g2 b cap hr
 simp only at n1
 rw[hn] at n1;cases n1
 obtain⟨c,eid,fr,hd,cl,rest,g1,g2',g3,g4,g5,g6⟩:=h.live hk hr rfl ho
 obtain⟨z,hz⟩:=getP_fld t y p _ _ f0 hn
 obtain⟨o2,o3,o4,o5⟩:=blk_get (tv:=⟨.slc u,z⟩) g5 (by simp only[okB,Bool.false_eq_true,if_false];exact fld_ok _ _ _ _ f0 hn) rfl hz
 simp only at o3 o4 o5
 rw[hn] at o3;cases o3
 have hrow:rowOf t y p u=z:=by
  simp only[rowOf,hz,TV.as,castT]
  simp
 have hv:(cl.drop off).take (Ty.slc u).size=[v]:=by
  have e1:c[cap.2+off]? =some v:=by simp only[cellAt,g2'] at n2;exact n2
  have e2:c.toList[cap.2+off]? =some v:=by simpa using e1
  have hlt:off<cl.length:=by simp only[Ty.size] at o4;omega
  rw[g4.2.2,List.getElem?_append_right (by omega),g4.1,Nat.add_sub_cancel_left,List.getElem?_append_left hlt] at e2
  have h2:=List.getElem?_eq_some_iff.1 e2
  rw[List.drop_eq_getElem_cons hlt,h2.2];rfl
 rw[hv] at o5
 obtain⟨v',e,hs⟩:=o5
 cases e
 obtain⟨w1,w2,w3⟩:=repAV_whole.1 n3 _ hkk
 simp only at w1 w3
 have hm0:m=0:=by injection w1
 refine⟨?_,hm0⟩
 rw[hrow]
 rcases w3 with⟨_,_,_,r4,rfl⟩|⟨bb,cap',n',u'',off',r1,r2,rfl⟩
 ·have hx:xs=[]:=List.eq_nil_of_length_eq_zero r4
  rcases hs with⟨_,s1,_⟩|⟨_,_,_,_,s0,_⟩
  ·rw[hx];exact List.eq_nil_of_length_eq_zero s1
  ·cases s0
 ·have hoff:off'=0:=by
   simp[Ty.nav] at r2;exact r2.2.symm
  subst hoff
  obtain⟨c2,eid2,fr2,hd2,cl2,rest2,k1,k2,k3,k4,k5,k6⟩:=h.live hkk r1 rfl (isOpen_row rfl)
  simp only[RepC,if_true] at k5
  have hlen:(lcap true [] (Blk.len ⟨true,.arr m u,xs,true,lk'⟩) cap' n').1=xs.length:=by simp[lcap,Blk.len,lenT]
  rw[hlen] at hs
  rcases hs with⟨⟨_,s0⟩,s1,_⟩|⟨b3,off3,cap3,cs3,s0,s1,s2,s3⟩
  ·injection s0 with q1 q2 q3
   rw[List.eq_nil_of_length_eq_zero q2];exact List.eq_nil_of_length_eq_zero s1
  ·injection s0 with q1 q2 q3
   injection q1 with q1
   injection q1 with q4 q5 q6
   subst q4;subst q5
   have hF:FAt F bb (cap'.2+0) cl2:=by
    intro i c hc
    rw[Nat.add_zero,k6];simpa using hc
   have:=fat_fun s3 hF (by rw[repL_rep_len s2,repL_rep_len k5.1,q2])
   subst this
   exact repL_fun (fun x cs=>rep_len u x cs) (fun x y cs=>rep_fun u x y cs) z xs cs3 q2.symm s2 k5.1
theorem row_data0 {F:FH}{ρ:RM}{L:HL}{H:Array Obj}{B0:Nat→Prop}(h:HRel F ρ L H B0){kk m:Nat}{u:Ty}{z xs:List u.den}{hv:Value}{lk':List (List Stp×Nat)}(hkk:L kk=some (some ⟨true,.arr m u,xs,true,lk'⟩))
 (hs:SlcV F z.length (RepL (Rep F u) z) hv) (w3:HW (ρ kk) true xs.length (.arr m u) [] hv):z=xs:=by
 rcases w3 with⟨_,_,_,r4,rfl⟩|⟨bb,cap',n',u'',off',r1,r2,rfl⟩
 ·have hx:xs=[]:=List.eq_nil_of_length_eq_zero r4
  rcases hs with⟨_,s1,_⟩|⟨_,_,_,_,s0,_⟩
  ·rw[hx];exact List.eq_nil_of_length_eq_zero s1
  ·cases s0
 ·have hoff:off'=0:=by
   simp[Ty.nav] at r2;exact r2.2.symm
  subst hoff
  obtain⟨c2,eid2,fr2,hd2,cl2,rest2,k1,k2,k3,k4,k5,k6⟩:=h.live hkk r1 rfl (isOpen_row rfl)
  simp only[RepC,if_true] at k5
  have hlen:(lcap true [] xs.length cap' n').1=xs.length:=by simp[lcap]
  rw[hlen] at hs
  rcases hs with⟨⟨_,s0⟩,s1,_⟩|⟨b3,off3,cap3,cs3,s0,s1,s2,s3⟩
  ·injection s0 with q1 q2 q3
   rw[List.eq_nil_of_length_eq_zero q2];exact List.eq_nil_of_length_eq_zero s1
  ·injection s0 with q1 q2 q3
   injection q1 with q1
   injection q1 with q4 q5 q6
   subst q4;subst q5
   have hF:FAt F bb (cap'.2+0) cl2:=by
    intro i c hc
    rw[Nat.add_zero,k6];simpa using hc
   have:=fat_fun s3 hF (by rw[repL_rep_len s2,repL_rep_len k5.1,q2])
   subst this
   exact repL_fun (fun x cs=>rep_len u x cs) (fun x y cs=>rep_fun u x y cs) z xs cs3 q2.symm s2 k5.1
theorem vlk_data {F:FH}{ρ:RM}{L:HL}{H:Array Obj}{B0:Nat→Prop}(h:HRel F ρ L H B0){kk off m:Nat}{t u:Ty}{y:t.den}{v:Value}{lks lk':List (List Stp×Nat)}{xs:List u.den}{p:List Stp}
 (hr:RepA F ρ L (.vlk t y lks) [v]) (hm:(p,kk)∈lks) (hkk:L kk=some (some ⟨true,.arr m u,xs,true,lk'⟩)) (hn:t.nav p=some (.slc u,off)):
 rowOf t y p u=xs∧m=0∧fldOnly p=true∧∃hv,v.cells.toList[off]? =some hv∧HW (ρ kk) true xs.length (.arr 0 u) [] hv:=by
 obtain⟨v',e,g1,g2⟩:=hr
 cases e
 obtain⟨f0,u',off',hv,n1,n2,n3⟩:=g2 p kk hm
 rw[hn] at n1;cases n1
 obtain⟨w1,w2,w3⟩:=n3 _ hkk
 have hm0:m=0:=by injection w1
 subst hm0
 obtain⟨z,hz⟩:=getP_fld t y p _ _ f0 hn
 obtain⟨o2,o3,o4,o5⟩:=getP_rep t y v.cells.toList p (repV_cells g1) (fld_ok _ _ _ _ f0 hn) ⟨.slc u,z⟩ hz
 simp only at o3 o4 o5
 rw[hn] at o3;cases o3
 have hrow:rowOf t y p u=z:=by
  simp only[rowOf,hz,TV.as,castT]
  simp
 have hv1:(v.cells.toList.drop off).take (Ty.slc u).size=[hv]:=by
  have h2:=List.getElem?_eq_some_iff.1 n2
  rw[List.drop_eq_getElem_cons h2.1,h2.2];rfl
 rw[hv1] at o5
 obtain⟨v',e,hs⟩:=o5
 cases e
 exact⟨by rw[hrow];exact row_data0 h hkk hs w3,rfl,f0,hv,n2,w3⟩
theorem look_mkTm :∀(vs:List (Nat×Shape)) (x:VDen vs) (ks:List (Nat×Nat)) (n:Nat) (av:AV),readV st vs=some (x,ks)→look n (mkTm vs x)=some av→
 ∃s y l,(n,s)∈vs∧readS st n s=some (y,l)∧av=avOf n s y∧∀q,q∈blksOf n s y→q∈allBlks vs x:=by
 intro vs
 induction vs with
 |nil=>intro x ks n av _ h;cases h
 |cons p vs ih=>
  intro x ks n av e h
  obtain⟨m,s⟩:=p
  simp only[readV] at e
  split at e
  ·rename_i y ks1 z ks2 e1 e2
   cases e
   simp only[mkTm,look_cons] at h
   split at h
   ·rename_i hnm;subst hnm;cases h;exact⟨s,y,ks1,List.mem_cons_self,e1,rfl,fun q hq=>List.mem_append_left _ hq⟩
   ·obtain⟨s',y',l,h1,h2,h3,h4⟩:=ih z ks2 n av e2 h
    exact⟨s',y',l,List.mem_cons_of_mem _ h1,h2,h3,fun q hq=>List.mem_append_right _ (h4 q hq)⟩
  ·cases e
theorem readL_spec {t:Ty}{lk:List (List Stp×Nat)}:∀(ps:List (List Stp×Ty×Nat)) (l:List (Nat×Nat)),readL st t lk ps=some l→l.map (·.1)=ps.map (·.2.2)∧
 ∀p u m,(p,u,m)∈ps→∃kk off n' xs lk',(m,kk)∈l∧t.nav p=some (.slc u,off)∧(p,kk)∈lk∧look kk st.hp=some (some ⟨true,.arr n' u,xs,true,lk'⟩):=by
 intro ps
 induction ps with
 |nil=>intro l e;cases e;exact⟨rfl,fun p u m h=>by cases h⟩
 |cons q ps ih=>
  obtain⟨p,u,m⟩:=q
  intro l e
  simp only[readL] at e
  split at e
  ·rename_i hn
   split at e
   ·rename_i kk l1 e1 e2
    split at e
    ·rename_i n' u' xs lk' e3
     split at e
     ·rename_i hu
      subst hu
      cases e
      obtain⟨i1,i2⟩:=ih l1 e2
      refine⟨by simp[i1],fun p' u2 m' hm=> ?_⟩
      rcases List.mem_cons.1 hm with hm|hm
      ·cases hm
       cases hnv:t.nav p with
       |none=>rw[hnv] at hn;cases hn
       |some w=>
        obtain⟨w1,w2⟩:=w
        rw[hnv] at hn
        simp only[Option.map_some,Option.some.injEq] at hn
        subst hn
        exact⟨kk,w2,n',xs,lk',List.mem_cons_self,rfl,lkAt_mem _ e1,e3⟩
      ·obtain⟨k2,off,n2,x2,lk2,j1,j2⟩:=i2 p' u2 m' hm
       exact⟨k2,off,n2,x2,lk2,List.mem_cons_of_mem _ j1,j2⟩
     ·cases e
    ·cases e
   ·cases e
  ·cases e
theorem readS_names {n:Nat}{s:Shape}{y:s.den}{l:List (Nat×Nat)}(e:readS st n s=some (y,l)):∀q,q∈l→q.1∈names (n,s):=by
 intro q hq
 cases s with
 |val t=>
  simp only[readS] at e
  split at e
  ·cases e
  ·split at e
   ·cases e;cases hq
   ·cases e
 |own t fz=>
  simp only[readS] at e
  split at e
  ·cases e;cases hq
  ·split at e
   ·split at e
    ·cases e
    ·split at e
     ·cases e;simp only[List.mem_singleton] at hq;subst hq;exact List.mem_cons_self
     ·cases e
   ·cases e
  ·cases e
 |ptr t=>
  simp only[readS] at e
  split at e
  ·split at e
   ·split at e
    ·cases e;simp only[List.mem_singleton] at hq;subst hq;exact List.mem_cons_self
    ·cases e
   ·cases e
  ·cases e
 |ptrL t ps=>
  simp only[readS] at e
  split at e
  ·split at e
   ·split at e
    ·split at e
     ·rename_i l1 e1
      cases e
      rcases List.mem_cons.1 hq with hq|hq
      ·subst hq;exact List.mem_cons_self
      ·simp only[names]
       refine List.mem_cons_of_mem _ ?_
       rw[←(readL_spec ps l1 e1).1];exact List.mem_map.2 ⟨_,hq,rfl⟩
     ·cases e
    ·cases e
   ·cases e
  ·cases e
 |valL t ps=>
  simp only[readS] at e
  split at e
  ·split at e
   ·split at e
    ·rename_i l1 e1
     cases e
     simp only[names]
     refine List.mem_cons_of_mem _ ?_
     rw[←(readL_spec ps _ e1).1];exact List.mem_map.2 ⟨_,hq,rfl⟩
    ·cases e
   ·cases e
  ·cases e
 |map K V=>
  simp only[readS] at e
  split at e
  ·split at e
   ·split at e
    ·cases e;simp only[List.mem_singleton] at hq;subst hq;exact List.mem_cons_self
    ·cases e
   ·cases e
  ·cases e
theorem readV_names :∀(vs:List (Nat×Shape)) (x:VDen vs) (old:List (Nat×Nat)),readV st vs=some (x,old)→∀q,q∈old→q.1∈vs.flatMap names:=by
 intro vs
 induction vs with
 |nil=>intro x old e q hq;cases e;cases hq
 |cons p vs ih=>
  intro x old e q hq
  simp only[readV] at e
  split at e
  ·rename_i y ks1 z ks2 e1 e2
   cases e
   rw[List.flatMap_cons,List.mem_append]
   rcases List.mem_append.1 hq with hq|hq
   ·exact .inl (readS_names e1 q hq)
   ·exact .inr (ih z ks2 e2 q hq)
  ·cases e
theorem look_none_of {α:Type}{m:Nat}:∀{l:List (Nat×α)},(∀q,q∈l→q.1≠m)→look m l=none:=by
 intro l
 induction l with
 |nil=>intro _;rfl
 |cons p l ih=>
  obtain⟨k,v⟩:=p
  intro h
  rw[look_cons,if_neg (fun e=>h _ List.mem_cons_self e.symm)]
  exact ih (fun q hq=>h q (List.mem_cons_of_mem _ hq))
theorem blksOf_names {n:Nat}{s:Shape}{y:s.den}:∀q,q∈blksOf n s y→q.1∈names (n,s):=by
 intro q hq
 cases s with
 |val t=>cases hq
 |own t fz=>simp only[blksOf,List.mem_singleton] at hq;subst hq;exact List.mem_cons_self
 |ptr t=>simp only[blksOf,List.mem_singleton] at hq;subst hq;exact List.mem_cons_self
 |map K V=>simp only[blksOf,List.mem_singleton] at hq;subst hq;exact List.mem_cons_self
 |ptrL t ps=>
  simp only[blksOf] at hq
  rcases List.mem_cons.1 hq with hq|hq
  ·subst hq;exact List.mem_cons_self
  ·obtain⟨r,hr,rfl⟩:=List.mem_map.1 hq
   exact List.mem_cons_of_mem _ (List.mem_map.2 ⟨r,hr,rfl⟩)
 |valL t ps=>
  simp only[blksOf] at hq
  obtain⟨r,hr,rfl⟩:=List.mem_map.1 hq
  exact List.mem_cons_of_mem _ (List.mem_map.2 ⟨r,hr,rfl⟩)
theorem readV_part :∀(vs:List (Nat×Shape)) (x:VDen vs) (old:List (Nat×Nat)),readV st vs=some (x,old)→(vs.flatMap names).Nodup→∀q,q∈allBlks vs x→
 ∃n s y l,(n,s)∈vs∧readS st n s=some (y,l)∧q∈blksOf n s y∧(∀q',q'∈blksOf n s y→q'∈allBlks vs x)∧(∀m,m∈names (n,s)→look m old=look m l):=by
 intro vs
 induction vs with
 |nil=>intro x old _ _ q hq;cases hq
 |cons p vs ih=>
  intro x old e hnd q hq
  obtain⟨n,s⟩:=p
  simp only[readV] at e
  split at e
  ·rename_i y ks1 z ks2 e1 e2
   cases e
   rw[List.flatMap_cons,List.nodup_append] at hnd
   rcases List.mem_append.1 hq with hq|hq
   ·refine⟨n,s,y,ks1,List.mem_cons_self,e1,hq,fun q' h'=>List.mem_append_left _ h',fun m hm=> ?_⟩
    rw[look_append]
    cases hl:look m ks1 with
    |some v=>rfl
    |none=>exact look_none_of (fun q' hq' he=>hnd.2.2 m hm _ (readV_names vs z ks2 e2 q' hq') he.symm)
   ·obtain⟨n',s',y',l,h1,h2,h3,h4,h5⟩:=ih z ks2 e2 hnd.2.1 q hq
    refine⟨n',s',y',l,List.mem_cons_of_mem _ h1,h2,h3,fun q' h'=>List.mem_append_right _ (h4 q' h'),fun m hm=> ?_⟩
    rw[look_append]
    rw[look_none_of (l:=ks1) (fun q' hq' he=>hnd.2.2 _ (readS_names e1 q' hq') m (List.mem_flatMap.2 ⟨_,h1,hm⟩) he)]
    exact h5 m hm
  ·cases e
theorem slot_part :∀(vs:List (Nat×Shape)) (x:VDen vs) (old:List (Nat×Nat)),readV st vs=some (x,old)→(vs.flatMap names).Nodup→∀n s,(n,s)∈vs→
 ∃y l,readS st n s=some (y,l)∧(∀m,m∈names (n,s)→look m old=look m l)∧look n (mkTm vs x)=some (avOf n s y)∧(∀q',q'∈blksOf n s y→q'∈allBlks vs x):=by
 intro vs
 induction vs with
 |nil=>intro x old _ _ n s h;cases h
 |cons p vs ih=>
  intro x old e hnd n s hm
  obtain⟨n0,s0⟩:=p
  simp only[readV] at e
  split at e
  ·rename_i y ks1 z ks2 e1 e2
   cases e
   rw[List.flatMap_cons,List.nodup_append] at hnd
   rcases List.mem_cons.1 hm with hm|hm
   ·cases hm
    refine⟨y,ks1,e1,fun m hm=> ?_,by simp only[mkTm,look_cons,if_true],fun q' h'=>List.mem_append_left _ h'⟩
    rw[look_append]
    cases hl:look m ks1 with
    |some v=>rfl
    |none=>exact look_none_of (fun q' hq' he=>hnd.2.2 m hm _ (readV_names vs z ks2 e2 q' hq') he.symm)
   ·obtain⟨y',l,h2,h5,h6,h7⟩:=ih z ks2 e2 hnd.2.1 n s hm
    refine⟨y',l,h2,fun m hm'=> ?_, ?_,fun q' h'=>List.mem_append_right _ (h7 q' h')⟩
    ·rw[look_append]
     rw[look_none_of (l:=ks1) (fun q' hq' he=>hnd.2.2 _ (readS_names e1 q' hq') m (List.mem_flatMap.2 ⟨_,hm,hm'⟩) he)]
     exact h5 m hm'
    ·simp only[mkTm,look_cons]
     rw[if_neg (fun he=>hnd.2.2 n0 List.mem_cons_self n (List.mem_flatMap.2 ⟨_,hm,List.mem_cons_self⟩) he.symm)]
     exact h6
  ·cases e
theorem allBlks_nodup :∀(vs:List (Nat×Shape)) (x:VDen vs),(vs.flatMap names).Nodup→((allBlks vs x).map (·.1)).Nodup:=by
 have one:∀(p:Nat×Shape) (y:p.2.den),(names p).Nodup→((blksOf p.1 p.2 y).map (·.1)).Nodup:=by
  intro p y h
  obtain⟨n,s⟩:=p
  cases s with
  |val t=>exact List.nodup_nil
  |own t fz=>simp[blksOf]
  |ptr t=>simp[blksOf]
  |map K V=>simp[blksOf]
  |ptrL t ps=>
   simp only[names] at h
   simpa[blksOf,linkB,Function.comp_def] using h
  |valL t ps=>
   simp only[names] at h
   have h:=(List.nodup_cons.1 h).2
   simpa[blksOf,linkB,Function.comp_def] using h
 intro vs
 induction vs with
 |nil=>intro x _;exact List.nodup_nil
 |cons p vs ih=>
  intro x hnd
  rw[List.flatMap_cons,List.nodup_append] at hnd
  simp only[allBlks,List.map_append]
  rw[List.nodup_append]
  refine⟨one p x.1 hnd.1,ih x.2 hnd.2.1,fun a ha b hb=> ?_⟩
  obtain⟨q,hq,rfl⟩:=List.mem_map.1 ha
  obtain⟨q',hq',rfl⟩:=List.mem_map.1 hb
  have:∀(vs:List (Nat×Shape)) (x:VDen vs) (q':Nat×Blk),q'∈allBlks vs x→q'.1∈vs.flatMap names:=by
   intro vs
   induction vs with
   |nil=>intro x q' h;cases h
   |cons p vs ih=>
    intro x q' h
    rw[List.flatMap_cons,List.mem_append]
    rcases List.mem_append.1 h with h|h
    ·exact .inl (blksOf_names q' h)
    ·exact .inr (ih x.2 q' h)
  exact hnd.2.2 _ (blksOf_names q hq) _ (this vs x.2 q' hq')
theorem look_mkHp {vs:List (Nat×Shape)}{x:VDen vs}{k:Nat}{ob:Option Blk}(h:look k (mkHp vs x)=some ob):∃m blk,k=base+m∧(m,blk)∈allBlks vs x∧ob=some blk:=by
 have:=look_memN h
 simp only[mkHp,List.mem_map] at this
 obtain⟨q,hq,he⟩:=this
 cases he
 exact⟨q.1,q.2,rfl,hq,rfl⟩
theorem look_mkHp_at {vs:List (Nat×Shape)}{x:VDen vs}(hnd:(vs.flatMap names).Nodup){m:Nat}{blk:Blk}(h:(m,blk)∈allBlks vs x):look (base+m) (mkHp vs x)=some (some blk):=by
 refine look_of_mem (List.mem_map.2 ⟨_,h,rfl⟩) ?_
 have:=allBlks_nodup vs x hnd
 unfold mkHp
 rw[List.map_map]
 have e:((fun(x:Nat×Option Blk)=>x.1)∘fun(q:Nat×Blk)=>(base+q.1,some q.2))=(fun m=>base+m)∘(fun q:Nat×Blk=>q.1):=rfl
 rw[e,←List.map_map]
 rw[List.Nodup,List.pairwise_map]
 exact List.Pairwise.imp (fun h e=>h (by omega)) this
def cutρ (old:List (Nat×Nat))(ρ:RM):RM:=fun m=>if m<base then none else match look (m-base) old with
 |some k=>ρ k
 |none=>none
theorem cutρ_at (old:List (Nat×Nat))(ρ:RM)(n:Nat):cutρ old ρ (base+n)=match look n old with
 |some k=>ρ k
 |none=>none:=by
 unfold cutρ
 rw[if_neg (by omega),Nat.add_sub_cancel_left]
theorem look_val_inj :∀{l:List (Nat×Nat)},(l.map (·.2)).Nodup→∀{m m' k:Nat},look m l=some k→look m' l=some k→m=m':=by
 intro l
 induction l with
 |nil=>intro _ m m' k h;cases h
 |cons p l ih=>
  obtain⟨a,b⟩:=p
  intro hnd m m' k h h'
  simp only[List.map_cons,List.nodup_cons] at hnd
  rw[look_cons] at h h'
  split at h
  ·rename_i e1
   cases h
   split at h'
   ·rename_i e2;rw[e1,e2]
   ·exact absurd (List.mem_map.2 ⟨_,look_memN h',rfl⟩) hnd.1
  ·split at h'
   ·cases h';exact absurd (List.mem_map.2 ⟨_,look_memN h,rfl⟩) hnd.1
   ·exact ih hnd.2 h h'
theorem repAV_keyless {L L':HL}{ρ ρ':RM}{F F':FH}(hF:F.le F'){av:AV}{v:Value}(h:RepAV F ρ L av v)(hf:fixAV av none=some av):RepAV F' ρ' L' av v:=by
 cases av with
 |val t x=>exact repAV_val.2 (repV_mono hF (repAV_val.1 h))
 |cptr t x=>
  obtain⟨b,off,cs,h1,h2,h3⟩:=repAV_cptr.1 h
  exact repAV_cptr.2 ⟨b,off,cs,h1,rep_mono hF _ _ _ h2,fun i c hc=>hF _ _ _ (h3 i c hc)⟩
 |nil=>exact repAV_nt rfl (repA_nt h rfl)
 |raw u=>exact repAV_nt rfl (repA_nt h rfl)
 |cut t xs=>
  refine repAV_nt rfl ?_
  rcases repA_nt h rfl with h1|⟨b,off,cs,e,h1,h2⟩
  ·exact .inl h1
  ·exact .inr ⟨b,off,cs,e,repL_mono (fun x cs=>rep_mono hF t x cs) _ _ h1,fun i c hc=>hF _ _ _ (h2 i c hc)⟩
 |_=>simp[fixAV] at hf
def KeptOk (F:FH)(kept:List (Nat×AV))(a:Act):Prop:=∀n av,look n kept=some av→av.keys=[]∧∀ρ L,RepAV F ρ L av (a.tmps.getD n undef)
theorem fixAV_sound (R:Rel E fix F0 w0 F ρ st a w){n:Nat}{av av':AV}(hn:look n st.tm=some av)(e:fixAV av (mask (blkOf st.hp av))=some av'):av'.keys=[]∧∀ρ' L',RepAV F ρ' L' av' (a.tmps.getD n undef):=by
 have h:=R.tm _ _ hn
 cases av with
 |val t x=>simp only[fixAV,Option.some.injEq] at e;subst e;exact⟨rfl,fun _ _=>repAV_keyless FH.le.rfl h rfl⟩
 |cptr t x=>simp only[fixAV,Option.some.injEq] at e;subst e;exact⟨rfl,fun _ _=>repAV_keyless FH.le.rfl h rfl⟩
 |nil=>simp only[fixAV,Option.some.injEq] at e;subst e;exact⟨rfl,fun _ _=>repAV_keyless FH.le.rfl h rfl⟩
 |raw u=>simp only[fixAV,Option.some.injEq] at e;subst e;exact⟨rfl,fun _ _=>repAV_keyless FH.le.rfl h rfl⟩
 |cut t xs=>simp only[fixAV,Option.some.injEq] at e;subst e;exact⟨rfl,fun _ _=>repAV_keyless FH.le.rfl h rfl⟩
 |ptr k root path=>
  cases hb:mask (blkOf st.hp (.ptr k root path)) with
  |none=>rw[hb] at e;simp[fixAV] at e
  |some blk=>
   rw[hb] at e
   simp only[fixAV] at e
   split at e
   ·rename_i hz
    simp only[Bool.and_eq_true,Bool.not_eq_true'] at hz
    obtain⟨hz,hrow⟩:=hz
    split at e
    ·rename_i t x hg
     cases e
     rw[blkOf_eq] at hb
     obtain⟨k',hk',hL⟩:=blkL_some hb.symm
     cases hk'
     obtain⟨rfl,hok,bb,cap,u',off,h1,h2,h3⟩:=repAV_ptr.1 h blk hL
     refine⟨rfl,fun _ _=> ?_⟩
     obtain⟨c,eid,fr,hd,cl,rest,g1,g2,g3,g4,g5,g6⟩:=R.rel.live hL h1 (notMap_row h2 hrow) (blkL_shut hb.symm)
     obtain⟨o2,n1,n2,n3⟩:=blk_get g5 hok hrow hg
     rw[h2] at n1;cases n1
     exact repAV_cptr.2 ⟨bb,cap.2+off,_,h3,n3,fun i c hc=>by rw[Nat.add_assoc,g6,if_pos hz];exact take_drop_get hc⟩
    ·cases e
   ·cases e
 |whole k root path=>
  cases hb:mask (blkOf st.hp (.whole k root path)) with
  |none=>rw[hb] at e;simp[fixAV] at e
  |some blk=>
   rw[hb] at e
   simp only[fixAV] at e
   split at e
   ·rename_i hz
    split at e
    ·rename_i n t xs hg
     cases e
     refine⟨rfl,fun _ _=>repAV_val.2 ?_⟩
     have:=deepV_sound (E:=true) (t:= .slc t) (b:=some blk) (x:=xs) (cs:=[]) R.rel h (by rw[blkOf_eq] at hb;exact hb.symm) (by
      simp only[deepV,hz,Bool.not_true,Bool.and_false,Bool.false_eq_true,if_false,hg,TV.as,castT]
      simp) (fun c hc=>by cases hc)
     simpa using this
    ·cases e
   ·cases e
 |sub k root path o l=>cases hb:mask (blkOf st.hp (.sub k root path o l))<;>rw[hb] at e<;>simp[fixAV] at e
 |_=>simp[fixAV] at e
theorem keepTm_sound (R:Rel E fix F0 w0 F ρ st a w):∀(ns:List Nat) (kept:List (Nat×AV)),keepTm st ns=some kept→KeptOk F kept a∧∀n,(look n kept).isSome→n∈ns:=by
 intro ns
 induction ns with
 |nil=>intro kept e;cases e;exact⟨(fun n av h=>by cases h),(fun n h=>by cases h)⟩
 |cons m ns ih=>
  intro kept e
  simp only[keepTm] at e
  split at e
  ·cases e
  rename_i av hav
  split at e
  ·rename_i av' l e1 e2
   cases e
   obtain⟨i1,i2⟩:=ih l e2
   refine⟨fun n v h=> ?_,fun n h=> ?_⟩
   ·rw[look_cons] at h
    split at h
    ·rename_i hn;subst hn;cases h;exact fixAV_sound R hav e1
    ·exact i1 n v h
   ·rw[look_cons] at h
    split at h
    ·rename_i hn;rw[hn];exact List.mem_cons_self
    ·exact List.mem_cons_of_mem _ (i2 n h)
  ·cases e
theorem cut_blk (R:Rel E fix F0 w0 F ρ st a w){n:Nat}{s:Shape}{y:s.den}{l:List (Nat×Nat)}(hr:readS st n s=some (y,l))(hnd:(names (n,s)).Nodup){m:Nat}{blk:Blk}(hb:(m,blk)∈blksOf n s y):
 RepB F w.heap w0.U (match look m l with|some k=>ρ k|none=>none) blk∧∀k,look m l=some k→∃b0,hl st.hp k=some (some b0):=by
 cases s with
 |val t=>cases hb
 |own t fz=>
  simp only[blksOf,List.mem_singleton,Prod.mk.injEq] at hb
  obtain⟨rfl,rfl⟩:=hb
  simp only[readS] at hr
  split at hr
  ·cases hr;exact⟨.inl rfl,fun k hk=>by cases hk⟩
  ·rename_i k root hn
   split at hr
   ·rename_i m' u xs fz' lk' hL
    split at hr
    ·cases hr
    rename_i hfz
    have hfz:fz'=fz:=by simpa using hfz
    subst hfz
    split at hr
    ·rename_i y' e1
     cases hr
     have:=TV.as_eq e1
     cases this
     simp only[look_cons,if_true]
     refine⟨?_,fun k' hk=>by cases hk;exact⟨_,hL⟩⟩
     rcases R.rel.blk _ _ hL with h1|⟨b,cap,c,e,fr,hd,cs,rest,g1,g2,g3,g4,g5,g6,g7⟩|⟨K,V,ys,hm⟩
     ·exact .inl h1
     ·exact .inr (.inl ⟨b,cap,c,e,fr,hd,cs,rest,g1,g2,g3,g4,g5,by rw[holes_shut (isOpen_row rfl)] at g6⊢;simpa only[RepC,if_true] using g6,fun i=>by have:=g7 i;rw[still_shut (isOpen_row rfl)] at this⊢;exact this⟩)
     ·have:=congrArg TV.t hm.eq;cases this
    ·cases hr
   ·cases hr
  ·cases hr
 |ptr t=>
  simp only[blksOf,List.mem_singleton,Prod.mk.injEq] at hb
  obtain⟨rfl,rfl⟩:=hb
  simp only[readS] at hr
  split at hr
  ·rename_i k root hn
   split at hr
   ·rename_i u x0 lk' hL
    split at hr
    ·rename_i y' e1
     cases hr
     have:=TV.as_eq e1
     cases this
     simp only[look_cons,if_true]
     exact⟨(R.rel.blk _ _ hL).lk,fun k' hk=>by cases hk;exact⟨_,hL⟩⟩
    ·cases hr
   ·cases hr
  ·cases hr
 |ptrL t ps=>
  simp only[readS] at hr
  split at hr
  ·rename_i k root hn
   split at hr
   ·rename_i u x0 lk' hL
    split at hr
    ·rename_i y' e1
     split at hr
     ·rename_i l1 e2
      cases hr
      have:=TV.as_eq e1
      cases this
      simp only[blksOf] at hb
      simp only[names,List.nodup_cons] at hnd
      obtain⟨j1,j2⟩:=readL_spec ps l1 e2
      rcases List.mem_cons.1 hb with hb|hb
      ·cases hb
       simp only[look_cons,if_true]
       exact⟨(R.rel.blk _ _ hL).lk,fun k' hk=>by cases hk;exact⟨_,hL⟩⟩
      ·obtain⟨⟨p,u,m2⟩,hq,he⟩:=List.mem_map.1 hb
       simp only[linkB] at he
       cases he
       obtain⟨kk,off,n',xs,lk2,q1,q2,q3,q4⟩:=j2 p u m hq
       have hne:m≠n:=fun e=>hnd.1 (by rw[←e];exact List.mem_map.2 ⟨_,hq,rfl⟩)
       rw[look_cons,if_neg hne,look_of_mem q1 (by rw[j1];exact hnd.2)]
       simp only
       have hptr:=repAV_ptr.1 (R.tm _ _ hn) _ hL
       obtain⟨_,_,bb,cap,u',off',z1,_⟩:=hptr
       obtain⟨d1,d2⟩:=link_data R.rel hL (isOpen_fz rfl) z1 q3 q4 q2
       subst d2
       rw[d1]
       exact⟨(R.rel.blk _ _ q4).lk,fun k' hk=>by cases hk;exact⟨_,q4⟩⟩
     ·cases hr
    ·cases hr
   ·cases hr
  ·cases hr
 |valL t ps=>
  simp only[readS] at hr
  split at hr
  ·rename_i u0 x0 lk0 hn
   split at hr
   ·rename_i y' e1
    split at hr
    ·rename_i l1 e2
     cases hr
     have:=TV.as_eq e1
     cases this
     simp only[blksOf] at hb
     simp only[names,List.nodup_cons] at hnd
     obtain⟨j1,j2⟩:=readL_spec ps _ e2
     obtain⟨⟨p,u,m2⟩,hq,he⟩:=List.mem_map.1 hb
     simp only[linkB] at he
     cases he
     obtain⟨kk,off,n',xs,lk2,q1,q2,q3,q4⟩:=j2 p u m hq
     rw[look_of_mem q1 (by rw[j1];exact hnd.2)]
     simp only
     obtain⟨d1,d2,_⟩:=vlk_data R.rel (repA_nt (R.tm _ _ hn) rfl) q3 q4 q2
     subst d2
     rw[d1]
     exact⟨(R.rel.blk _ _ q4).lk,fun k' hk=>by cases hk;exact⟨_,q4⟩⟩
    ·cases hr
   ·cases hr
  ·cases hr
 |map K V=>
  simp only[blksOf,List.mem_singleton,Prod.mk.injEq] at hb
  obtain⟨rfl,rfl⟩:=hb
  simp only[readS] at hr
  split at hr
  ·rename_i k hn
   split at hr
   ·rename_i u x0 lk' hL
    split at hr
    ·rename_i y' e1
     cases hr
     have:=TV.as_eq e1
     cases this
     simp only[look_cons,if_true]
     exact⟨(R.rel.blk _ _ hL).lk,fun k' hk=>by cases hk;exact⟨_,hL⟩⟩
    ·cases hr
   ·cases hr
  ·cases hr
theorem cut_sound {A:Ann}(hsl:slotsOk A=true)(R:Rel E fix F0 w0 F ρ st a w){x:VDen A.vars}{old:List (Nat×Nat)}(e:readV st A.vars=some (x,old))(hks:nodupB (old.map (·.2))=true){kept:List (Nat×AV)}(hk:KeptOk F kept a):
 Rel E fix F0 w0 F (cutρ old ρ) (A.at kept x) a w:=by
 have hvn:=nodup_of hsl
 have hkn:=nodup_of hks
 have hnames:∀n s,(n,s)∈A.vars→(names (n,s)).Nodup:=by
  intro n s hm
  have:∀(vs:List (Nat×Shape)),(n,s)∈vs→(vs.flatMap names).Nodup→(names (n,s)).Nodup:=by
   intro vs
   induction vs with
   |nil=>intro h;cases h
   |cons p vs ih=>
    intro h hn
    rw[List.flatMap_cons,List.nodup_append] at hn
    rcases List.mem_cons.1 h with h|h
    ·subst h;exact hn.1
    ·exact ih h hn.2.1
  exact this A.vars hm hvn
 have hlook:∀n,look n (A.at kept x).tm=match look n (mkTm A.vars x) with|some v=>some v|none=>look n kept:=by
  intro n
  show look n (mkTm A.vars x++kept)=_
  rw[look_append]
  cases look n (mkTm A.vars x)<;>rfl
 have blkAt:∀k blk,look k (mkHp A.vars x)=some (some blk)→∃m,k=base+m∧(m,blk)∈allBlks A.vars x∧RepB F w.heap w0.U (cutρ old ρ k) blk∧∀k',look m old=some k'→∃b0,hl st.hp k'=some (some b0):=by
  intro k blk h
  obtain⟨m,blk',rfl,hm,hb⟩:=look_mkHp h
  cases hb
  obtain⟨n,s,y,l,h1,h2,h3,h4,h5⟩:=readV_part A.vars x old e hvn _ hm
  obtain⟨c1,c2⟩:=cut_blk R h2 (hnames n s h1) h3
  have h6:=h5 m (blksOf_names _ h3)
  refine⟨m,rfl,hm, ?_,by rw[h6];exact c2⟩
  rw[cutρ_at,h6];exact c1
 refine⟨⟨R.rel.cons,fun k blk h=> ?_, ?_, ?_⟩,R.below,R.up,R.glob,R.le,R.base, ?_, ?_,R.ntm,R.defers,R.fixed,R.lock⟩
 ·obtain⟨_,_,_,h3,_⟩:=blkAt k blk h;exact h3
 ·intro k k' x1 x2 b c c' h h' hr hr'
  obtain⟨m,rfl,_,_,c1⟩:=blkAt k x1 h
  obtain⟨m',rfl,_,_,c2⟩:=blkAt k' x2 h'
  rw[cutρ_at] at hr hr'
  split at hr
  ·rename_i q hq
   split at hr'
   ·rename_i q' hq'
    obtain⟨b0,g1⟩:=c1 q hq
    obtain⟨b1,g2⟩:=c2 q' hq'
    have:=R.rel.inj _ _ _ _ _ _ _ g1 g2 hr hr'
    subst this
    rw[look_val_inj hkn hq hq']
   ·cases hr'
  ·cases hr
 ·intro kb blk h p kk hm
  obtain⟨m,rfl,hmem,_,_⟩:=blkAt kb blk h
  obtain⟨n,s,y,l,h1,h2,h3,h4,h5⟩:=readV_part A.vars x old e hvn _ hmem
  cases s with
  |val t=>cases h3
  |own t fz=>simp only[blksOf,List.mem_singleton,Prod.mk.injEq] at h3;obtain⟨_,rfl⟩:=h3;cases hm
  |ptr t=>simp only[blksOf,List.mem_singleton,Prod.mk.injEq] at h3;obtain⟨_,rfl⟩:=h3;cases hm
  |map K V=>simp only[blksOf,List.mem_singleton,Prod.mk.injEq] at h3;obtain⟨_,rfl⟩:=h3;cases hm
  |ptrL t ps=>
   have hnd:=hnames n _ h1
   simp only[names,List.nodup_cons] at hnd
   rcases List.mem_cons.1 h3 with h3'|h3'
   ·cases h3'
    obtain⟨⟨p2,u,m2⟩,hq,he⟩:=List.mem_map.1 hm
    simp only[Prod.mk.injEq] at he
    obtain⟨rfl,rfl⟩:=he
    have hrow:(m2,(⟨true,.arr 0 u,rowOf t y p2 u,true,[]⟩:Blk))∈allBlks A.vars x:=h4 _ (List.mem_cons_of_mem _ (List.mem_map.2 ⟨_,hq,rfl⟩))
    have hat:=look_mkHp_at hvn hrow
    refine⟨by show(look (base+m2) (mkHp A.vars x)).isSome=true;rw[hat];rfl,fun b cap hr=> ?_⟩
    simp only[readS] at h2
    split at h2
    ·rename_i k root hn
     split at h2
     ·rename_i u0 x0 lk' hL
      split at h2
      ·rename_i y' e1
       split at h2
       ·rename_i l1 e2
        cases h2
        have:=TV.as_eq e1
        cases this
        obtain⟨j1,j2⟩:=readL_spec ps l1 e2
        obtain⟨kk,off,n',xs,lk2,q1,q2,q3,q4⟩:=j2 p2 u m2 hq
        have hne:m2≠m:=fun e=>hnd.1 (by rw[←e];exact List.mem_map.2 ⟨_,hq,rfl⟩)
        rw[cutρ_at,h5 m List.mem_cons_self,look_cons,if_pos rfl] at hr
        simp only at hr
        obtain⟨d1,d2⟩:=link_data R.rel hL (isOpen_fz rfl) hr q3 q4 q2
        subst d2
        obtain⟨_,w2⟩:=R.rel.lnk k _ hL p2 kk q3
        obtain⟨f0,u',off',v,n1,n2,n3⟩:=w2 b cap hr
        simp only at n1
        rw[q2] at n1;cases n1
        refine⟨f0,u,off,v,q2,n2,repAV_whole.2 (fun blk hb=> ?_)⟩
        have hb':blk=⟨true,.arr 0 u,rowOf t y p2 u,true,[]⟩:=by
         have:look (base+m2) (mkHp A.vars x)=some (some blk):=hb
         rw[hat] at this;cases this;rfl
        subst hb'
        have hc:cutρ old ρ (base+m2)=ρ kk:=by
         rw[cutρ_at,h5 m2 (List.mem_cons_of_mem _ (List.mem_map.2 ⟨_,hq,rfl⟩)),look_cons,if_neg hne,look_of_mem q1 (by rw[j1];exact hnd.2)]
        rw[hc]
        obtain⟨s1,s2,s3⟩:=repAV_whole.1 n3 _ q4
        refine⟨rfl,by simp[okB], ?_⟩
        simp only[Blk.len,lenT,d1] at s3⊢
        exact s3
       ·cases h2
      ·cases h2
     ·cases h2
    ·cases h2
   ·obtain⟨q,_,he⟩:=List.mem_map.1 h3'
    simp only[linkB] at he
    cases he;cases hm
  |valL t ps=>
   obtain⟨q,_,he⟩:=List.mem_map.1 h3
   simp only[linkB] at he
   cases he;cases hm
 ·intro n av hn
  rw[hlook] at hn
  split at hn
  ·rename_i v hv
   cases hn
   obtain⟨s,y0,l0,h2,h30,hav,h70⟩:=look_mkTm A.vars x old n _ e hv
   obtain⟨y,l,h3,h5,h6,h7⟩:=slot_part A.vars x old e hvn n s h2
   rw[h30] at h3;cases h3
   subst hav
   cases s with
   |val t=>
    simp only[readS] at h30
    split at h30
    ·cases h30
    rename_i av' hav'
    split at h30
    ·rename_i x' e1
     cases h30
     have:=deepV_sound (E:=true) R.rel (R.tm _ _ hav') (blkOf_eqM st.hp av') e1 (fun c hc=>by cases hc)
     exact repAV_val.2 (by simpa using this)
    ·cases h30
   |own t fz=>
    refine repAV_whole.2 (fun blk hL=> ?_)
    have hat:=look_mkHp_at hvn (h7 _ (show(n,(⟨true,.arr 0 t,y0,fz,[]⟩:Blk))∈blksOf n (.own t fz) y0 from List.mem_singleton.2 rfl))
    have hb':blk=⟨true,.arr 0 t,y0,fz,[]⟩:=by
     have:look (base+n) (mkHp A.vars x)=some (some blk):=hL
     rw[hat] at this;cases this;rfl
    subst hb'
    refine⟨rfl,by simp[okB], ?_⟩
    rw[cutρ_at,h5 n List.mem_cons_self]
    simp only[readS] at h30
    split at h30
    ·rename_i hnil
     cases h30
     have:=repA_nt (R.tm _ _ hnil) rfl
     exact .inl ⟨rfl,rfl,rfl,rfl,by simpa[RepA] using this⟩
    ·rename_i k root hn0
     split at h30
     ·rename_i m' u xs fz' lk' hL0
      split at h30
      ·cases h30
      split at h30
      ·rename_i y' e1
       cases h30
       have:=TV.as_eq e1
       cases this
       simp only[look_cons,if_true]
       obtain⟨q1,q2,q3⟩:=repAV_whole.1 (R.tm _ _ hn0) _ hL0
       rcases q3 with⟨z1,z2,z3,z4,z5⟩|⟨bb,cap,m,u,off,z1,z2,z3⟩
       ·exact .inl ⟨z1,rfl,rfl,z4,z5⟩
       ·have hoff:off=0:=by
         simp[Ty.nav] at z2;exact z2.2.symm
        subst hoff
        exact .inr ⟨bb,cap,0,t,0,z1,rfl,by simpa[lcap,Blk.len,lenT] using z3⟩
      ·cases h30
     ·cases h30
    ·cases h30
   |ptr t=>
    refine repAV_ptr.2 (fun blk hL=> ?_)
    have hat:=look_mkHp_at hvn (h7 _ (show(n,(⟨false,t,y0,false,[]⟩:Blk))∈blksOf n (.ptr t) y0 from List.mem_singleton.2 rfl))
    have hb':blk=⟨false,t,y0,false,[]⟩:=by
     have:look (base+n) (mkHp A.vars x)=some (some blk):=hL
     rw[hat] at this;cases this;rfl
    subst hb'
    simp only[readS] at h30
    split at h30
    ·rename_i k root hn0
     split at h30
     ·rename_i u x0 lk' hL0
      split at h30
      ·rename_i y' e1
       cases h30
       obtain⟨q1,q2,bb,cap,u,off,z1,z2,z3⟩:=repAV_ptr.1 (R.tm _ _ hn0) _ hL0
       have hoff:off=0:=by
        simp[Ty.nav] at z2;exact z2.2.symm
       subst hoff
       exact⟨rfl,by simp only[okB,Bool.false_eq_true,if_false];exact okT_nil _,bb,cap,t,0,by rw[cutρ_at,h5 n List.mem_cons_self,look_cons,if_pos rfl];exact z1,by cases t<;>rfl,z3⟩
      ·cases h30
     ·cases h30
    ·cases h30
   |ptrL t ps=>
    refine repAV_ptr.2 (fun blk hL=> ?_)
    have hat:=look_mkHp_at hvn (h7 _ (show(n,(⟨false,t,y0,false,ps.map (fun q=>(q.1,base+q.2.2))⟩:Blk))∈blksOf n (.ptrL t ps) y0 from List.mem_cons_self))
    have hb':blk=⟨false,t,y0,false,ps.map (fun q=>(q.1,base+q.2.2))⟩:=by
     have:look (base+n) (mkHp A.vars x)=some (some blk):=hL
     rw[hat] at this;cases this;rfl
    subst hb'
    simp only[readS] at h30
    split at h30
    ·rename_i k root hn0
     split at h30
     ·rename_i u x0 lk' hL0
      split at h30
      ·rename_i y' e1
       split at h30
       ·cases h30
        obtain⟨q1,q2,bb,cap,u,off,z1,z2,z3⟩:=repAV_ptr.1 (R.tm _ _ hn0) _ hL0
        have hoff:off=0:=by
         simp[Ty.nav] at z2;exact z2.2.symm
        subst hoff
        exact⟨rfl,by simp only[okB,Bool.false_eq_true,if_false];exact okT_nil _,bb,cap,t,0,by rw[cutρ_at,h5 n List.mem_cons_self,look_cons,if_pos rfl];exact z1,by cases t<;>rfl,z3⟩
       ·cases h30
      ·cases h30
     ·cases h30
    ·cases h30
   |valL t ps=>
    simp only[readS] at h30
    split at h30
    ·rename_i u0 x0 lk0 hn0
     split at h30
     ·rename_i y' e1
      split at h30
      ·rename_i l1 e2
       cases h30
       have:=TV.as_eq e1
       cases this
       have hr:=repA_nt (R.tm _ _ hn0) rfl
       obtain⟨j1,j2⟩:=readL_spec ps _ e2
       have hnd:=hnames n _ h2
       simp only[names,List.nodup_cons] at hnd
       refine repAV_nt rfl ⟨_,rfl, ?_,fun p2 kn hm=> ?_⟩
       ·obtain⟨v',e0,g1,_⟩:=hr
        cases e0;exact g1
       ·obtain⟨⟨p3,u,m2⟩,hq,he⟩:=List.mem_map.1 hm
        simp only[Prod.mk.injEq] at he
        obtain⟨rfl,rfl⟩:=he
        obtain⟨kk,off,n',xs,lk2,q1,q2,q3,q4⟩:=j2 p3 u m2 hq
        obtain⟨d1,d2,d3,hv,d4,d5⟩:=vlk_data R.rel hr q3 q4 q2
        have hat:=look_mkHp_at hvn (h7 _ (show(m2,(⟨true,.arr 0 u,rowOf t y0 p3 u,true,[]⟩:Blk))∈blksOf n (.valL t ps) y0 from List.mem_map.2 ⟨_,hq,rfl⟩))
        refine⟨d3,u,off,hv,q2,d4,fun blk hL=> ?_⟩
        have hb':blk=⟨true,.arr 0 u,rowOf t y0 p3 u,true,[]⟩:=by
         have:look (base+m2) (mkHp A.vars x)=some (some blk):=hL
         rw[hat] at this;cases this;rfl
        subst hb'
        have hc:cutρ old ρ (base+m2)=ρ kk:=by
         rw[cutρ_at,h5 m2 (List.mem_cons_of_mem _ (List.mem_map.2 ⟨_,hq,rfl⟩)),look_of_mem q1 (by rw[j1];exact hnd.2)]
        rw[hc]
        refine⟨rfl,by simp[okB], ?_⟩
        simp only[Blk.len,lenT,d1]
        exact d5
      ·cases h30
     ·cases h30
    ·cases h30
   |map K V=>
    refine repAV_nt rfl ⟨_,rfl,fun blk hL=> ?_⟩
    simp only[readS] at h30
    split at h30
    ·rename_i k hn0
     split at h30
     ·rename_i u x0 lk' hL0
      split at h30
      ·rename_i y' e1
       cases h30
       obtain⟨v',z0,z1⟩:=repA_nt (R.tm _ _ hn0) rfl
       cases z0
       obtain⟨bb,cap,z2,z3⟩:=z1 _ hL0
       exact⟨bb,cap,by rw[cutρ_at,h5 n List.mem_cons_self,look_cons,if_pos rfl];exact z2,z3⟩
      ·cases h30
     ·cases h30
    ·cases h30
  ·exact(hk n av hn).2 _ _
 ·intro n av hn k hk2
  rw[hlook] at hn
  split at hn
  ·rename_i v hv
   cases hn
   obtain⟨s,y0,l0,h2,h30,hav,h7⟩:=look_mkTm A.vars x old n _ e hv
   subst hav
   have fin:∀blk,(n,blk)∈blksOf n s y0→k=base+n→(hl (A.at kept x).hp k).isSome:=by
    intro blk hb hk'
    rw[hk']
    show(look (base+n) (mkHp A.vars x)).isSome=true
    rw[look_mkHp_at hvn (h7 _ hb)];rfl
   cases s with
   |val t=>cases hk2
   |own t fz=>simp only[avOf,AV.keys,List.mem_singleton] at hk2;exact fin _ (List.mem_singleton.2 rfl) hk2
   |ptr t=>simp only[avOf,AV.keys,List.mem_singleton] at hk2;exact fin _ (List.mem_singleton.2 rfl) hk2
   |map K V=>simp only[avOf,AV.keys,List.mem_singleton] at hk2;exact fin _ (List.mem_singleton.2 rfl) hk2
   |ptrL t ps=>simp only[avOf,AV.keys,List.mem_singleton] at hk2;exact fin _ List.mem_cons_self hk2
   |valL t ps=>
    simp only[avOf,AV.keys,List.map_map,List.mem_map] at hk2
    obtain⟨q,hq,rfl⟩:=hk2
    show(look (base+q.2.2) (mkHp A.vars x)).isSome=true
    rw[look_mkHp_at hvn (h7 (linkB t y0 q) (List.mem_map.2 ⟨q,hq,rfl⟩))];rfl
  ·rw[(hk n av hn).1] at hk2;cases hk2
end
end Lc
