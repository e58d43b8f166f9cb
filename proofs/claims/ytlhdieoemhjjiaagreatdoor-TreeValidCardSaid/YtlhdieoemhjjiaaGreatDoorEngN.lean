/- The engine, part N: contracts and calls. -/
import Derived.Test.YtlhdieoemhjjiaaGreatDoorEngM
set_option linter.unusedVariables false
set_option linter.unusedSimpArgs false
namespace Lc
open Go Go.RowKit
def RepArgs (F:FH):(ts:List Ty)→Tup ts→List Value→Prop
 |[],_,vs=>vs=[]
 |t::ts,x,vs=>∃v r,vs=v::r∧RepV F t x.1 v∧RepArgs F ts x.2 r
def OwnAt (w:Bool)(F:FH)(H:Array Obj)(B:Nat)(u:Ty)(xs:List u.den)(v:Value)(b:Nat):Prop:=
 ∃(cap:Cap) (c:Array Value) (e:TypeId) (fr:Nat×Nat) (hd cs rest:List Value),v= .slice (some ⟨b,cap.2,none⟩) xs.length cap.1∧B≤b∧H[b]? =some (.cells c e fr)∧free fr c.size∧(hd.length=cap.2∧c.toList=hd++(cs++rest))∧RepL (Rep F u) xs cs∧c.size=cap.2+cap.1*u.size∧xs.length≤cap.1∧
  if w then cap.2=0∧∀i,F b i=none else(∀i,F b (cap.2+i)=none)∨∀i,F b (cap.2+i)=cs[i]?
def RowsAt (F:FH)(H:Array Obj)(B:Nat)(t:Ty)(x:t.den)(v:Value):List (List Stp×Ty×Nat)→List Nat→Prop
 |[],bs=>bs=[]
 |q::ps,bs=>fldOnly q.1=true∧∃off hv,t.nav q.1=some (.slc q.2.1,off)∧v.cells.toList[off]? =some hv∧
   ((hv= .slice none 0 0∧rowOf t x q.1 q.2.1=[]∧RowsAt F H B t x v ps bs)∨∃b bs',bs=b::bs'∧OwnAt false F H B q.2.1 (rowOf t x q.1 q.2.1) hv b∧RowsAt F H B t x v ps bs')
def RepRets (F:FH)(H:Array Obj)(B:Nat):(rs:List RK)→RTup rs→List Value→List Nat→Prop
 |[],_,vs,bs=>vs=[]∧bs=[]
 | .deep t::rs,x,vs,bs=>∃v r,vs=v::r∧RepV F t x.1 v∧RepRets F H B rs x.2 r bs
 | .own t::rs,x,vs,bs=>∃v r,vs=v::r∧((v= .slice none 0 0∧x.1=[]∧RepRets F H B rs x.2 r bs)∨∃b bs',bs=b::bs'∧OwnAt false F H B t x.1 v b∧RepRets F H B rs x.2 r bs')
 | .ownw t::rs,x,vs,bs=>∃v r,vs=v::r∧((v= .slice none 0 0∧x.1=[]∧RepRets F H B rs x.2 r bs)∨∃b bs',bs=b::bs'∧OwnAt true F H B t x.1 v b∧RepRets F H B rs x.2 r bs')
 | .vlk t ps::rs,x,vs,bs=>∃v r bs1 bs2,vs=v::r∧bs=bs1++bs2∧RepV F t x.1 v∧RowsAt F H B t x.1 v ps bs1∧RepRets F H B rs x.2 r bs2
def RetV (vs:List Value)(v:Value):Prop:=(∃u,vs=[u]∧v=u)∨(vs.length≠1∧v= .tuple vs.toArray)
structure Sound (P:Program)(G:Nat→Option TV)(f:FuncId)(c:Con):Prop where
 fn:∃fn,P.funcs[f]? =some fn∧(fn.name== "runtime.NumGoroutine")=false∧fn.body.isSome=true
 calls:∀(F:FH) (w:World) (xs:Tup c.params) (vs:List Value),(∀b i v,F b i=some v→cellAt w.heap b i=some v)→GlobOk G F→RepArgs F c.params xs vs→c.pre xs→
  Calls P f vs.toArray w (fun e w'=>∃v F' rv bs,e= .returned v∧F.le F'∧(∀b,b<w.heap.size→F' b=F b)∧(∀b i v,F' b i=some v→cellAt w'.heap b i=some v)∧
   RepRets F' w'.heap w.heap.size c.rets (c.fn xs) rv bs∧bs.Nodup∧RetV rv v∧Below w.heap.size w w')
structure SoundE (P:Program)(f:FuncId)(c:Con):Prop where
 run:∀(F:FH) (w:World) (xs:Tup c.params) (vs:List Value),RepArgs F c.params xs vs→c.pre xs→
  ∃v rv,(callFunc f vs.toArray).run P w= .ok (.value v) w∧RepRets F w.heap w.heap.size c.rets (c.fn xs) rv []∧RetV rv v
def SoundC (P:Program)(G:Nat→Option TV)(f:FuncId)(c:Con):Prop:=Sound P G f c∨SoundE P f c
theorem HRel.adopt {F:FH}{ρ:RM}{L:HL}{H:Array Obj}{B0:Nat→Prop}(h:HRel F ρ L H B0){k:Nat}{blk:Blk}{b:Nat}{cap:Cap}{c:Array Value}{e:TypeId}{fr:Nat×Nat}{hd cs rest:List Value}
 (hH:H[b]? =some (.cells c e fr)) (hB:B0 b) (hfr:free fr c.size) (hc:hd.length=cap.2∧(blk.fz=false→cap.2=0)∧c.toList=hd++(cs++rest)) (hr:RepC F blk.row cap c.size blk.t blk.x cs)
 (hF:(∀i,F b (cap.2+i)=none)∨(blk.fz=true∧∀i,F b (cap.2+i)=cs[i]?))
 (hother:∀k' x c',L k'=some (some x)→ρ k'=some (b,c')→False) (hk:L k=none) (hlk:blk.lk=[]):
 ∃F':FH,F.le F'∧(∀b',b'≠b→F' b'=F b')∧HRel F' (upd ρ k (some (b,cap))) (upd L k (some (some blk))) H B0:=by
 obtain⟨G,hG⟩:∃G:Nat→Option Value,G=fun i=>if i<cap.2 then F b i else if blk.fz then cs[i-cap.2]? else none:=⟨_,rfl⟩
 have hG1:∀i,i<cap.2→G i=F b i:=fun i hi=>by rw[hG];exact if_pos hi
 have hG2:∀i,G (cap.2+i)=if blk.fz then cs[i]? else none:=fun i=>by rw[hG];simp only;rw[if_neg (by omega),Nat.add_sub_cancel_left]
 clear hG
 have hcut:∀i,i<cap.2∨∃j,i=cap.2+j:=fun i=>by
  by_cases hi:i<cap.2
  ·exact .inl hi
  ·exact .inr ⟨i-cap.2,by omega⟩
 have hle:F.le (upd F b G):=by
  intro b' i v e1
  by_cases hb:b'=b
  ·subst hb
   rw[upd_same]
   rcases hcut i with hi|⟨j,rfl⟩
   ·rw[hG1 i hi];exact e1
   ·rcases hF with hF|⟨z,hF⟩
    ·rw[hF] at e1;cases e1
    ·rw[hG2,if_pos z,←hF];exact e1
  ·rw[upd_ne _ _ hb];exact e1
 refine⟨upd F b G,hle,fun b' hb=>upd_ne _ _ hb, ?_, ?_, ?_,fun kb blk' e1 p kk hm=> ?_⟩
 ·intro b' i v e1
  by_cases hb:b'=b
  ·subst hb
   rw[upd_same] at e1
   rcases hcut i with hi|⟨j,rfl⟩
   ·rw[hG1 i hi] at e1;exact h.cons _ _ _ e1
   ·rw[hG2] at e1
    split at e1
    ·simp only[cellAt,hH]
     exact at_of hc.1 hc.2.2 e1
    ·cases e1
  ·rw[upd_ne _ _ hb] at e1;exact h.cons _ _ _ e1
 ·intro k1 blk1 e1
  by_cases hkk:k1=k
  ·subst hkk
   rw[upd_same] at e1
   cases e1
   exact .inr (.inl ⟨b,cap,c,e,fr,hd,cs,rest,by simp,hB,hH,hfr,hc,by rw[holes_shut (isOpen_lk hlk)];exact repC_mono hle hr,fun i=>by rw[upd_same,hG2,still_shut (isOpen_lk hlk)]⟩)
  ·rw[upd_ne _ _ hkk] at e1⊢
   rcases h.blk _ _ e1 with h1|⟨b1,cap1,c1,e',fr1,hd1,cs1,rest1,h1,h2,h3,h4,h5,h6,h7⟩|⟨K,V,xs,hm⟩
   ·exact .inl h1
   ·have hb:b1≠b:=fun hb=>by subst hb;exact hother _ _ _ e1 h1
    exact .inr (.inl ⟨b1,cap1,c1,e',fr1,hd1,cs1,rest1,h1,h2,h3,h4,h5,repC_mono hle h6,fun i=>by rw[upd_ne _ _ hb];exact h7 i⟩)
   ·exact .inr (.inr ⟨K,V,xs,hm.mono hle (fun _ _ _ _ _ h=>h)⟩)
 ·intro k1 k2 x x' b1 c1 c2 e1 e2 e3 e4
  by_cases h1:k1=k<;>by_cases h2:k2=k
  ·rw[h1,h2]
  ·subst h1
   rw[upd_ne _ _ h2] at e2 e4
   rw[upd_same] at e3
   cases e3
   exact(hother _ _ _ e2 e4).elim
  ·subst h2
   rw[upd_ne _ _ h1] at e1 e3
   rw[upd_same] at e4
   cases e4
   exact(hother _ _ _ e1 e3).elim
  ·rw[upd_ne _ _ h1] at e1 e3
   rw[upd_ne _ _ h2] at e2 e4
   exact h.inj _ _ _ _ _ _ _ e1 e2 e3 e4
 ·by_cases hkk:kb=k
  ·subst hkk;rw[upd_same] at e1;cases e1;rw[hlk] at hm;cases hm
  ·rw[upd_ne _ _ hkk] at e1
   rw[upd_ne _ _ hkk]
   obtain⟨g1,g2⟩:=h.lnk kb blk' e1 p kk hm
   exact⟨isSome_upd _ g1,fun b2 cap' e2=>(g2 b2 cap' e2).ext hle (LLe.fresh hk _ _) g1 (fun _=>rfl)⟩
def withNew (new:List (Nat×Blk))(L:HL):HL:=fun n=>match look n new with|some b=>some (some b)|none=>L n
theorem withNew_cons (k:Nat)(b:Blk)(l:List (Nat×Blk))(L:HL):withNew ((k,b)::l) L=upd (withNew l L) k (some (some b)):=by
 funext n
 simp only[withNew,look_cons,upd]
 by_cases h:n=k<;>simp[h]
theorem LLe.withNew {new:List (Nat×Blk)}{L:HL}{ρ ρ':RM}(h:∀p,p∈new→L p.1=none)(hρ:∀k,(L k).isSome→ρ' k=ρ k):LLe L ρ (withNew new L) ρ':=by
 intro k hk blk e
 have hl:look k new=none:=by
  cases hl:look k new with
  |none=>rfl
  |some b=>
   have:∃p,p∈new∧p.1=k:=by
    clear e h
    induction new with
    |nil=>cases hl
    |cons p l ih=>
     obtain⟨k1,b1⟩:=p
     rw[look_cons] at hl
     split at hl
     ·rename_i h;exact⟨_,List.mem_cons_self,h.symm⟩
     ·obtain⟨q,q1,q2⟩:=ih hl;exact⟨q,List.mem_cons_of_mem _ q1,q2⟩
   obtain⟨p,p1,p2⟩:=this
   have:=h p p1
   rw[p2] at this;rw[this] at hk;cases hk
 simp only[Lc.withNew,hl] at e
 exact⟨blk,e,rfl,rfl,rfl,hρ k hk⟩
theorem look_not {l:List (Nat×Blk)}{k:Nat}:k∉l.map (·.1)→look k l=none:=by
 induction l with
 |nil=>intros;rfl
 |cons p l ih2=>
  obtain⟨k1,b1⟩:=p
  intro hk
  simp only[List.map_cons,List.mem_cons,not_or] at hk
  rw[look_cons,if_neg hk.1];exact ih2 hk.2
theorem withNew_append (a b:List (Nat×Blk))(L:HL):withNew (a++b) L=withNew a (withNew b L):=by
 funext n
 simp only[withNew,look_append]
 cases look n a<;>rfl
structure Adopted (F0:FH)(ρ0:RM)(L:HL)(new:List (Nat×Blk))(bs:List Nat)(H:Array Obj)(B0:Nat→Prop)(F:FH)(ρ:RM):Prop where
 rel:HRel F ρ (withNew new L) H B0
 le:F0.le F
 other:∀b,b∉bs→F b=F0 b
 same:∀k,(L k).isSome→ρ k=ρ0 k
 from_:∀k (y:Blk) b c,withNew new L k=some (some y)→ρ k=some (b,c)→(L k=some (some y)∧ρ0 k=some (b,c))∨b∈bs
theorem Adopted.row {F0 F:FH}{ρ0 ρ:RM}{L:HL}{new:List (Nat×Blk)}{bs:List Nat}{H:Array Obj}{B0:Nat→Prop}(A:Adopted F0 ρ0 L new bs H B0 F ρ){k:Nat}(hk0:L k=none)(hkn:k∉new.map (·.1)){t:Ty}{xs:List t.den}{v:Value}(fz:Bool):
 (v= .slice none 0 0→xs=[]→∃ρ',Adopted F0 ρ0 L ((k,⟨true,.arr 0 t,xs,fz,[]⟩)::new) bs H B0 F ρ'∧LLe (withNew new L) ρ (withNew ((k,⟨true,.arr 0 t,xs,fz,[]⟩)::new) L) ρ'∧HW (ρ' k) true xs.length (.arr 0 t) [] v)∧
 (∀b B w,(∀b,B≤b→B0 b)→OwnAt w F0 H B t xs v b→(w=false→fz=true)→b∉bs→(∀k' y c,L k'=some (some y)→ρ0 k'=some (b,c)→False)→
   ∃F' ρ',Adopted F0 ρ0 L ((k,⟨true,.arr 0 t,xs,fz,[]⟩)::new) (b::bs) H B0 F' ρ'∧F.le F'∧LLe (withNew new L) ρ (withNew ((k,⟨true,.arr 0 t,xs,fz,[]⟩)::new) L) ρ'∧HW (ρ' k) true xs.length (.arr 0 t) [] v):=by
 have hk1:withNew new L k=none:=by simp only[withNew,look_not hkn];exact hk0
 have same:∀(r:Option (Nat×Cap)),∀n,(L n).isSome→upd ρ k r n=ρ0 n:=by
  intro r n hn
  have hne:n≠k:=fun e=>by subst e;rw[hk0] at hn;cases hn
  rw[upd_ne _ _ hne];exact A.same n hn
 constructor
 ·intro hv hx
  refine⟨upd ρ k none,⟨?_,A.le,A.other,same none, ?_⟩, ?_, ?_⟩
  ·rw[withNew_cons];exact A.rel.freshNil (LLe.fresh hk1 _ _) rfl
  ·intro n y b c e1 e2
   rw[withNew_cons] at e1
   by_cases hkk:n=k
   ·subst hkk;rw[upd_same] at e2;cases e2
   ·rw[upd_ne _ _ hkk] at e1 e2;exact A.from_ n y b c e1 e2
  ·rw[withNew_cons];exact LLe.fresh hk1 _ _
  ·rw[upd_same];exact .inl ⟨rfl,rfl,rfl,by rw[hx];rfl,hv⟩
 ·rintro b B w hB ⟨cap,c,e,fr,hd,cs,rest,g1,g2,g3,g4,g5,g6,g7,g8,g9⟩ hw hnb hfree
  have hFb:∀i,F b i=F0 b i:=fun i=>by rw[A.other b hnb]
  obtain⟨F2,f1,f2,f3⟩:=A.rel.adopt (k:=k) (blk:=⟨true,.arr 0 t,xs,fz,[]⟩) (cap:=cap) (hd:=hd) (cs:=cs) (rest:=rest) g3 (hB b g2) g4
   ⟨g5.1,fun hz=>(by cases w with
     |true=>exact g9.1
     |false=>rw[hw rfl] at hz;cases hz),g5.2⟩
   (by simp only[RepC,if_true];exact⟨repL_mono (fun y cs=>rep_mono A.le t y cs) _ _ g6,g7,g8⟩)
   (by cases w with
     |true=>left;intro i;rw[hFb];exact g9.2 _
     |false=>
      rcases g9 with g9|g9
      ·left;intro i;rw[hFb];exact g9 i
      ·right;exact⟨hw rfl,fun i=>by rw[hFb];exact g9 i⟩)
   (fun k' y c' e1 e2=>by
     rcases A.from_ k' y b c' e1 e2 with⟨q1,q2⟩|q
     ·exact hfree k' y c' q1 q2
     ·exact hnb q) hk1 rfl
  refine⟨F2,upd ρ k (some (b,cap)),⟨?_,FH.le.trans A.le f1,fun b' hb=> ?_,same _, ?_⟩,f1, ?_, ?_⟩
  ·rw[withNew_cons];exact f3
  ·simp only[List.mem_cons,not_or] at hb
   rw[f2 b' hb.1];exact A.other b' hb.2
  ·intro n y b1 c1 e1 e2
   rw[withNew_cons] at e1
   by_cases hkk:n=k
   ·subst hkk;rw[upd_same] at e2;cases e2;exact .inr List.mem_cons_self
   ·rw[upd_ne _ _ hkk] at e1 e2
    rcases A.from_ n y b1 c1 e1 e2 with q|q
    ·exact .inl q
    ·exact .inr (List.mem_cons_of_mem _ q)
  ·rw[withNew_cons];exact LLe.fresh hk1 _ _
  ·rw[upd_same]
   refine .inr ⟨b,cap,0,t,0,rfl,rfl, ?_⟩
   simp only[lcap,List.isEmpty_nil,Bool.and_self,if_true,Nat.add_zero];exact g1
def RowAV (ρ:RM)(L:HL)(k:Nat)(u:Ty)(v:Value):Prop:=∀blk,L k=some (some blk)→blk.t= .arr 0 u∧okB blk.row blk.len (.arr 0 u) []∧HW (ρ k) blk.row blk.len (.arr 0 u) [] v
theorem RowAV.ext {ρ ρ':RM}{L L':HL}{k:Nat}{u:Ty}{v:Value}(h:RowAV ρ L k u v)(hL:LLe L ρ L' ρ')(hk:(L k).isSome):RowAV ρ' L' k u v:=by
 intro blk' hb
 obtain⟨blk,q1,q2,q3,q4,q5⟩:=hL k hk blk' hb
 rw[q2,q3,q4,q5];exact h blk q1
theorem adopt_rows {t:Ty}{x:t.den}{v:Value}{B:Nat}{B0:Nat→Prop}(hB:∀b,B≤b→B0 b)(key:(List Stp×Ty×Nat)→Nat){F0:FH}{ρ0:RM}{L:HL}{H:Array Obj}:∀(ps:List (List Stp×Ty×Nat)) (bs1:List Nat) (new:List (Nat×Blk)) (bs:List Nat) (F:FH) (ρ:RM),
 Adopted F0 ρ0 L new bs H B0 F ρ→RowsAt F0 H B t x v ps bs1→(bs1++bs).Nodup→(∀b k y c,b∈bs1→L k=some (some y)→ρ0 k=some (b,c)→False)→(∀q,q∈ps→L (key q)=none)→(ps.map key++new.map (·.1)).Nodup→
 ∃F' ρ',Adopted F0 ρ0 L (ps.map (fun q=>(key q,(linkB t x q).2))++new) (bs1++bs) H B0 F' ρ'∧F.le F'∧LLe (withNew new L) ρ (withNew (ps.map (fun q=>(key q,(linkB t x q).2))++new) L) ρ'∧
  ∀q,q∈ps→fldOnly q.1=true∧∃off hv,t.nav q.1=some (.slc q.2.1,off)∧v.cells.toList[off]? =some hv∧RowAV ρ' (withNew (ps.map (fun q=>(key q,(linkB t x q).2))++new) L) (key q) q.2.1 hv:=by
 intro ps
 induction ps with
 |nil=>
  rintro bs1 new bs F ρ A rfl _ _ _ _
  exact⟨F,ρ,A,FH.le.rfl,LLe.same,fun q hq=>by cases hq⟩
 |cons q ps ih=>
  rintro bs1 new bs F ρ A ⟨h0,off,hv,h1,h2,h3⟩ hnd hfree hnew hkn
  simp only[List.map_cons,List.cons_append,List.nodup_cons] at hkn
  have hkq:key q∉(ps.map (fun q=>(key q,(linkB t x q).2))++new).map (·.1):=by
   simp only[List.map_append,List.map_map]
   exact hkn.1
  have isS:∀(new:List (Nat×Blk)) (b:Blk),(withNew ((key q,b)::new) L (key q)).isSome:=by
   intro new b;rw[withNew_cons,upd_same];rfl
  have old:∀(new:List (Nat×Blk)) (b:Blk) n,(withNew new L n).isSome→(withNew ((key q,b)::new) L n).isSome:=by
   intro new b n hn;rw[withNew_cons];exact isSome_upd _ hn
  have some':∀q',q'∈ps→(withNew (ps.map (fun q=>(key q,(linkB t x q).2))++new) L (key q')).isSome:=by
   intro q' hq'
   simp only[withNew,look_append]
   cases hl:look (key q') (ps.map (fun q=>(key q,(linkB t x q).2))) with
   |some b=>rfl
   |none=>
    exfalso
    have:∀(l:List (List Stp×Ty×Nat)),q'∈l→look (key q') (l.map (fun q=>(key q,(linkB t x q).2)))≠none:=by
     intro l
     induction l with
     |nil=>intro h;cases h
     |cons a l ih2=>
      intro h
      rw[List.map_cons,look_cons]
      split
      ·simp
      ·rename_i hne
       rcases List.mem_cons.1 h with e|e
       ·subst e;exact absurd rfl hne
       ·exact ih2 e
    exact this ps hq' hl
  have put:∀{ρ1 ρ2:RM} {F1 F2:FH} (hrows:∀q',q'∈ps→fldOnly q'.1=true∧∃off hv,t.nav q'.1=some (.slc q'.2.1,off)∧v.cells.toList[off]? =some hv∧RowAV ρ1 (withNew (ps.map (fun q=>(key q,(linkB t x q).2))++new) L) (key q') q'.2.1 hv)
   (hLL:LLe (withNew (ps.map (fun q=>(key q,(linkB t x q).2))++new) L) ρ1 (withNew ((key q,(linkB t x q).2)::(ps.map (fun q=>(key q,(linkB t x q).2))++new)) L) ρ2)
   (hw:HW (ρ2 (key q)) true (List.length (rowOf t x q.1 q.2.1)) (.arr 0 q.2.1) [] hv),
   ∀q',q'∈q::ps→fldOnly q'.1=true∧∃off hv,t.nav q'.1=some (.slc q'.2.1,off)∧v.cells.toList[off]? =some hv∧RowAV ρ2 (withNew ((key q,(linkB t x q).2)::(ps.map (fun q=>(key q,(linkB t x q).2))++new)) L) (key q') q'.2.1 hv:=by
   intro ρ1 ρ2 F1 F2 hrows hLL hw q' hq'
   rcases List.mem_cons.1 hq' with e|e
   ·subst e
    refine⟨h0,off,hv,h1,h2,fun blk hb=> ?_⟩
    rw[withNew_cons,upd_same] at hb
    cases hb
    exact⟨rfl,by simp[okB,linkB],hw⟩
   ·obtain⟨r0,off',hv',r1,r2,r3⟩:=hrows q' e
    exact⟨r0,off',hv',r1,r2,r3.ext hLL (some' q' e)⟩
  rcases h3 with⟨e1,e2,e3⟩|⟨b,bs',rfl,ho,e3⟩
  ·obtain⟨F1,ρ1,A1,le1,LL1,rows⟩:=ih bs1 new bs F ρ A e3 hnd hfree (fun q' hq'=>hnew q' (List.mem_cons_of_mem _ hq')) hkn.2
   obtain⟨ρ2,A2,LL2,hw⟩:=(A1.row (t:=q.2.1) (xs:=rowOf t x q.1 q.2.1) (v:=hv) (hnew q List.mem_cons_self) hkq true).1 e1 e2
   refine⟨F1,ρ2,A2,le1,LL1.trans (fun n hn=> ?_) LL2,put (F1:=F1) (F2:=F1) rows LL2 hw⟩
   rw[withNew_append];simp only[withNew];cases look n (ps.map (fun q=>(key q,(linkB t x q).2))) with
   |some b=>rfl
   |none=>exact hn
  ·simp only[List.cons_append,List.nodup_cons] at hnd
   obtain⟨F1,ρ1,A1,le1,LL1,rows⟩:=ih bs' new bs F ρ A e3 hnd.2 (fun b' k y c hb=>hfree b' k y c (List.mem_cons_of_mem _ hb)) (fun q' hq'=>hnew q' (List.mem_cons_of_mem _ hq')) hkn.2
   obtain⟨F2,ρ2,A2,le2,LL2,hw⟩:=(A1.row (t:=q.2.1) (xs:=rowOf t x q.1 q.2.1) (v:=hv) (hnew q List.mem_cons_self) hkq true).2 b B false hB ho (fun _=>rfl) hnd.1 (fun k y c=>hfree b k y c List.mem_cons_self)
   refine⟨F2,ρ2,A2,le1.trans le2,LL1.trans (fun n hn=> ?_) LL2,put (F1:=F1) (F2:=F2) rows LL2 hw⟩
   rw[withNew_append];simp only[withNew];cases look n (ps.map (fun q=>(key q,(linkB t x q).2))) with
   |some b=>rfl
   |none=>exact hn
theorem adopt_rets {H:Array Obj}{B0:Nat→Prop}{B:Nat}(hB:∀b,B≤b→B0 b)(fz:Nat→Bool)(dst:Nat):∀(rs:List RK) (i:Nat) (x:RTup rs) (vs:List Value) (bs:List Nat) (F:FH) (ρ:RM) (L:HL),HRel F ρ L H B0→
 RepRets F H B rs x vs bs→bs.Nodup→(∀b k x c,b∈bs→L k=some (some x)→ρ k=some (b,c)→False)→(∀p,p∈(mkRets fz dst i rs x).2→L p.1=none)→((mkRets fz dst i rs x).2.map (·.1)).Nodup→
 ∃F' ρ',Adopted F ρ L (mkRets fz dst i rs x).2 bs H B0 F' ρ'∧RepA F' ρ' (withNew (mkRets fz dst i rs x).2 L) (mkRets fz dst i rs x).1 vs∧
  (∀k,k∈(mkRets fz dst i rs x).1.keys→(withNew (mkRets fz dst i rs x).2 L k).isSome):=by
 intro rs
 induction rs with
 |nil=>
  rintro i x vs bs F ρ L h ⟨rfl,rfl⟩ _ _ _ _
  exact⟨F,ρ,⟨h,FH.le.rfl,fun _ _=>rfl,fun _ _=>rfl,fun k x b c h1 h2=> .inl ⟨h1,h2⟩⟩,rfl,fun k hk=>by simp[mkRets,AV.keys] at hk⟩
 |cons rk rs ih=>
  intro i x vs bs F ρ L h hret hnd hfree hnew hkn
  have own:∀(t:Ty) (xs:List t.den) (v:Value) (r:List Value) (y:RTup rs) (fzb w:Bool),vs=v::r→(w=false→fzb=true)→
   ((v= .slice none 0 0∧xs=[]∧RepRets F H B rs y r bs)∨∃b bs',bs=b::bs'∧OwnAt w F H B t xs v b∧RepRets F H B rs y r bs')→
   (∀p,p∈(dst+1000*i,(⟨true,.arr 0 t,xs,fzb,[]⟩:Blk))::(mkRets fz dst (i+1) rs y).2→L p.1=none)→(((dst+1000*i,(⟨true,.arr 0 t,xs,fzb,[]⟩:Blk))::(mkRets fz dst (i+1) rs y).2).map (·.1)).Nodup→
   ∃F' ρ',Adopted F ρ L ((dst+1000*i,(⟨true,.arr 0 t,xs,fzb,[]⟩:Blk))::(mkRets fz dst (i+1) rs y).2) bs H B0 F' ρ'∧RepA F' ρ' (withNew ((dst+1000*i,(⟨true,.arr 0 t,xs,fzb,[]⟩:Blk))::(mkRets fz dst (i+1) rs y).2) L) (.tcons (.whole (dst+1000*i) (.arr 0 t) []) (mkRets fz dst (i+1) rs y).1) vs∧
    (∀k,k∈(AV.tcons (.whole (dst+1000*i) (.arr 0 t) []) (mkRets fz dst (i+1) rs y).1).keys→(withNew ((dst+1000*i,(⟨true,.arr 0 t,xs,fzb,[]⟩:Blk))::(mkRets fz dst (i+1) rs y).2) L k).isSome):=by
   intro t xs v r y fzb w hvs hw hv hnew hkn
   subst hvs
   simp only[List.map_cons,List.nodup_cons] at hkn
   have hnew':∀p,p∈(mkRets fz dst (i+1) rs y).2→L p.1=none:=fun p hp=>hnew p (List.mem_cons_of_mem _ hp)
   have hk0:L (dst+1000*i)=none:=hnew _ List.mem_cons_self
   have keys:(∀k,k∈(mkRets fz dst (i+1) rs y).1.keys→(withNew (mkRets fz dst (i+1) rs y).2 L k).isSome)→
    ∀k,k∈(AV.tcons (.whole (dst+1000*i) (.arr 0 t) []) (mkRets fz dst (i+1) rs y).1).keys→(withNew ((dst+1000*i,(⟨true,.arr 0 t,xs,fzb,[]⟩:Blk))::(mkRets fz dst (i+1) rs y).2) L k).isSome:=by
    intro hkeys k hk
    rw[withNew_cons]
    by_cases hkk:k=dst+1000*i
    ·subst hkk;rw[upd_same];rfl
    ·rw[upd_ne _ _ hkk]
     simp only[AV.keys,List.cons_append,List.nil_append,List.mem_cons] at hk
     rcases hk with hk|hk
     ·exact absurd hk hkk
     ·exact hkeys k hk
   have head:∀(F':FH) (ρ':RM),HW (ρ' (dst+1000*i)) true xs.length (.arr 0 t) [] v→
    RepA F' ρ' (withNew ((dst+1000*i,(⟨true,.arr 0 t,xs,fzb,[]⟩:Blk))::(mkRets fz dst (i+1) rs y).2) L) (.whole (dst+1000*i) (.arr 0 t) []) [v]:=by
    intro F' ρ' hw
    refine⟨v,rfl,fun blk hL=> ?_⟩
    rw[withNew_cons,upd_same] at hL
    cases hL
    exact⟨rfl,by simp[okB],hw⟩
   rcases hv with⟨hv,hx,hr⟩|⟨b,bs',rfl,ho,hr⟩
   ·obtain⟨F1,ρ1,A1,a2,a3⟩:=ih (i+1) y r bs F ρ L h hr hnd hfree hnew' hkn.2
    obtain⟨ρ2,A2,LL,hw2⟩:=(A1.row (t:=t) (xs:=xs) (v:=v) hk0 hkn.1 fzb).1 hv hx
    exact⟨F1,ρ2,A2,⟨v,r,rfl,head F1 ρ2 hw2,repA_ext FH.le.rfl LL _ _ a3 a2⟩,keys a3⟩
   ·rw[List.nodup_cons] at hnd
    obtain⟨F1,ρ1,A1,a2,a3⟩:=ih (i+1) y r bs' F ρ L h hr hnd.2 (fun b' k y c hb=>hfree b' k y c (List.mem_cons_of_mem _ hb)) hnew' hkn.2
    obtain⟨F2,ρ2,A2,le2,LL,hw2⟩:=(A1.row (t:=t) (xs:=xs) (v:=v) hk0 hkn.1 fzb).2 b B w hB ho hw hnd.1 (fun k y c=>hfree b k y c List.mem_cons_self)
    exact⟨F2,ρ2,A2,⟨v,r,rfl,head F2 ρ2 hw2,repA_ext le2 LL _ _ a3 a2⟩,keys a3⟩
  cases rk with
  |deep t=>
   obtain⟨v,r,rfl,hv,hr⟩:=hret
   obtain⟨F',ρ',A,h4,h7⟩:=ih (i+1) x.2 r bs F ρ L h hr hnd hfree hnew hkn
   exact⟨F',ρ',A,⟨v,r,rfl,⟨v,rfl,repV_mono A.le hv⟩,h4⟩,fun k hk=>h7 k (by simpa[mkRets,AV.keys] using hk)⟩
  |own t=>
   obtain⟨v,r,e,hv⟩:=hret
   exact own t x.1 v r x.2 true false e (fun _=>rfl) hv hnew hkn
  |ownw t=>
   obtain⟨v,r,e,hv⟩:=hret
   exact own t x.1 v r x.2 _ true e (fun h=>by cases h) hv hnew hkn
  |vlk t ps=>
   obtain⟨v,r,bs1,bs2,rfl,rfl,hv,hrows,hr⟩:=hret
   simp only[mkRets] at hnew hkn⊢
   have hkn2:=hkn
   rw[List.map_append] at hkn
   obtain⟨F1,ρ1,A1,a2,a3⟩:=ih (i+1) x.2 r bs2 F ρ L h hr (List.nodup_append.1 hnd).2.1 (fun b k y c hb=>hfree b k y c (List.mem_append_right _ hb)) (fun p hp=>hnew p (List.mem_append_right _ hp)) (List.nodup_append.1 hkn).2.1
   obtain⟨F2,ρ2,A2,le2,LL,rows⟩:=adopt_rows hB (vkey dst i) ps bs1 _ bs2 F1 ρ1 A1 hrows hnd (fun b k y c hb=>hfree b k y c (List.mem_append_left _ hb))
    (fun q hq=>hnew (vkey dst i q,(linkB t x.1 q).2) (List.mem_append_left _ (List.mem_map.2 ⟨q,hq,rfl⟩))) (by rw[List.map_map] at hkn;exact hkn)
   have some2:∀k,(withNew (mkRets fz dst (i+1) rs x.2).2 L k).isSome→(withNew (ps.map (fun q=>(vkey dst i q,(linkB t x.1 q).2))++(mkRets fz dst (i+1) rs x.2).2) L k).isSome:=by
    intro k hk
    rw[withNew_append]
    simp only[withNew]
    cases look k (ps.map (fun q=>(vkey dst i q,(linkB t x.1 q).2))) with
    |some b=>rfl
    |none=>exact hk
   refine⟨F2,ρ2,A2,⟨v,r,rfl,⟨v,rfl,repV_mono A2.le hv,fun p k hm=> ?_⟩,repA_ext le2 LL _ _ a3 a2⟩,fun k hk=> ?_⟩
   ·obtain⟨q,hq,e⟩:=List.mem_map.1 hm
    cases e
    obtain⟨r0,off,hv',r1,r2,r3⟩:=rows q hq
    exact⟨r0,_,off,hv',r1,r2,r3⟩
   ·simp only[AV.keys,List.mem_append,List.map_map] at hk
    rcases hk with hk|hk
    ·obtain⟨q,hq,e⟩:=List.mem_map.1 hk
     simp only[Function.comp] at e
     subst e
     rw[withNew_append]
     simp only[withNew]
     have:∀(l:List (List Stp×Ty×Nat)),q∈l→look (vkey dst i q) (l.map (fun q=>(vkey dst i q,(linkB t x.1 q).2)))≠none:=by
      intro l
      induction l with
      |nil=>intro h;cases h
      |cons a l ih2=>
       intro h
       rw[List.map_cons,look_cons]
       split
       ·simp
       ·rename_i hne
        rcases List.mem_cons.1 h with e|e
        ·subst e;exact absurd rfl hne
        ·exact ih2 e
     cases hl:look (vkey dst i q) (ps.map (fun q=>(vkey dst i q,(linkB t x.1 q).2))) with
     |some b=>rfl
     |none=>exact absurd hl (this ps hq)
    ·exact some2 k (a3 k hk)
section
variable {E : Env} {B0 : Nat → Prop} {F : FH} {ρ : RM} {L : HL} {w : World} {o : Oper} {ev : Operand → Value} {r : Res}
theorem mkArgs_sound (hI:In E B0 F ρ L w)(need:Bool):∀(ts:List Ty) (args:List (AV×Option Blk)) (vs:List Value) (xs:Tup ts) (cs:List Prop),ArgsOk F ρ L args vs→mkArgs need ts args=some (xs,cs)→(∀c,c∈cs→c)→
 RepArgs (if need then F else full w.heap) ts xs vs:=by
 intro ts
 induction ts with
 |nil=>
  intro args vs xs cs ha e hc
  cases args with
  |nil=>cases vs with
   |nil=>rfl
   |cons v vs=>exact ha.elim
  |cons a args=>simp[mkArgs] at e
 |cons t ts ih=>
  intro args vs xs cs ha e hc
  cases args with
  |nil=>simp[mkArgs] at e
  |cons a args=>
   cases vs with
   |nil=>exact ha.elim
   |cons v vs=>
    obtain⟨⟨h1,h2⟩,h3⟩:=ha
    obtain⟨a,b⟩:=a
    simp only[mkArgs] at e
    split at e
    ·rename_i x cs1 e1
     split at e
     ·rename_i y cs2 e2
      cases e
      obtain⟨c1,c2⟩:=mem2 hc
      exact⟨v,vs,rfl,deepV_sound (E:=need) hI.rel h1 h2 e1 c1,ih _ _ _ _ h3 e2 c2⟩
     ·cases e
    ·cases e
theorem repRets_flat {F G:FH}{H:Array Obj}{B:Nat}(hG:∀b i,B≤b→G b i=none):∀(rs:List RK) (x:RTup rs) (vs:List Value) (bs:List Nat),rs.all RK.flatOk=true→RepRets F H B rs x vs bs→RepRets G H B rs x vs bs:=by
 intro rs
 induction rs with
 |nil=>intro x vs bs _ h;exact h
 |cons r rs ih=>
  intro x vs bs hf h
  simp only[List.all_cons,Bool.and_eq_true] at hf
  cases r with
  |deep t=>
   obtain⟨v,q,rfl,h1,h2⟩:=h
   exact⟨v,q,rfl,repV_flat hf.1 h1,ih _ _ _ hf.2 h2⟩
  |own t=>
   obtain⟨v,q,rfl,h1⟩:=h
   refine⟨v,q,rfl, ?_⟩
   rcases h1 with⟨h1,h2,h3⟩|⟨b,bs',rfl,⟨cap,c,e,fr,hd,cs,rest,g1,g2,g3,g4,g5,g6,g7,g8,g9⟩,h3⟩
   ·exact .inl ⟨h1,h2,ih _ _ _ hf.2 h3⟩
   ·exact .inr ⟨b,bs',rfl,⟨cap,c,e,fr,hd,cs,rest,g1,g2,g3,g4,g5,repL_mono (fun x cs=>rep_flat t hf.1 x cs) _ _ g6,g7,g8,.inl (fun i=>hG b _ g2)⟩,ih _ _ _ hf.2 h3⟩
  |ownw t=>
   obtain⟨v,q,rfl,h1⟩:=h
   refine⟨v,q,rfl, ?_⟩
   rcases h1 with⟨h1,h2,h3⟩|⟨b,bs',rfl,⟨cap,c,e,fr,hd,cs,rest,g1,g2,g3,g4,g5,g6,g7,g8,g9⟩,h3⟩
   ·exact .inl ⟨h1,h2,ih _ _ _ hf.2 h3⟩
   ·exact .inr ⟨b,bs',rfl,⟨cap,c,e,fr,hd,cs,rest,g1,g2,g3,g4,g5,repL_mono (fun x cs=>rep_flat t hf.1 x cs) _ _ g6,g7,g8,⟨g9.1,fun i=>hG b _ g2⟩⟩,ih _ _ _ hf.2 h3⟩
  |vlk t ps=>simp[RK.flatOk] at hf
theorem mkRets_tup (fz:Nat→Bool)(dst:Nat):∀(i:Nat) (rs:List RK) (x:RTup rs),(mkRets fz dst i rs x).1.isTup=true:=by
 intro i rs x
 cases rs with
 |nil=>rfl
 |cons r rs=>cases r<;>rfl
theorem rowsAt_bs {H:Array Obj}{B:Nat}{t:Ty}{x:t.den}{v:Value}:∀(ps:List (List Stp×Ty×Nat)) (bs:List Nat),RowsAt F H B t x v ps bs→∀b,b∈bs→B≤b:=by
 intro ps
 induction ps with
 |nil=>rintro bs rfl b hb;cases hb
 |cons q ps ih=>
  rintro bs ⟨_,off,hv,_,_,h⟩
  rcases h with⟨_,_,h3⟩|⟨b,bs',rfl,⟨cap,c,e,fr,hd,cs,rest,g1,g2,_⟩,h3⟩
  ·exact ih _ h3
  ·intro b' hb
   rcases List.mem_cons.1 hb with rfl|hb
   ·exact g2
   ·exact ih _ h3 _ hb
theorem repRets_bs {H:Array Obj}{B:Nat}:∀(rs:List RK) (x:RTup rs) (vs:List Value) (bs:List Nat),RepRets F H B rs x vs bs→∀b,b∈bs→B≤b:=by
 intro rs
 induction rs with
 |nil=>rintro x vs bs ⟨_,rfl⟩ b hb;cases hb
 |cons r rs ih=>
  intro x vs bs h
  cases r with
  |deep t=>obtain⟨v,q,rfl,h1,h2⟩:=h;exact ih _ _ _ h2
  |own t=>
   obtain⟨v,q,rfl,h1⟩:=h
   rcases h1 with⟨h1,h2,h3⟩|⟨b,bs',rfl,⟨cap,c,e,fr,hd,cs,rest,g1,g2,_⟩,h3⟩
   ·exact ih _ _ _ h3
   ·intro b' hb
    rcases List.mem_cons.1 hb with rfl|hb
    ·exact g2
    ·exact ih _ _ _ h3 _ hb
  |ownw t=>
   obtain⟨v,q,rfl,h1⟩:=h
   rcases h1 with⟨h1,h2,h3⟩|⟨b,bs',rfl,⟨cap,c,e,fr,hd,cs,rest,g1,g2,_⟩,h3⟩
   ·exact ih _ _ _ h3
   ·intro b' hb
    rcases List.mem_cons.1 hb with rfl|hb
    ·exact g2
    ·exact ih _ _ _ h3 _ hb
  |vlk t ps=>
   obtain⟨v,q,bs1,bs2,rfl,rfl,_,h2,h3⟩:=h
   intro b hb
   rcases List.mem_append.1 hb with hb|hb
   ·exact rowsAt_bs ps bs1 h2 b hb
   ·exact ih _ _ _ h3 _ hb
theorem repRets_len {H:Array Obj}{B:Nat}:∀(rs:List RK) (x:RTup rs) (vs:List Value) (bs:List Nat),RepRets F H B rs x vs bs→vs.length=rs.length:=by
 intro rs
 induction rs with
 |nil=>rintro x vs bs ⟨rfl,_⟩;rfl
 |cons r rs ih=>
  intro x vs bs h
  cases r with
  |deep t=>obtain⟨v,q,rfl,h1,h2⟩:=h;simp[ih _ _ _ h2]
  |own t=>
   obtain⟨v,q,rfl,h1⟩:=h
   rcases h1 with⟨h1,h2,h3⟩|⟨b,bs',rfl,_,h3⟩<;>simp[ih _ _ _ h3]
  |ownw t=>
   obtain⟨v,q,rfl,h1⟩:=h
   rcases h1 with⟨h1,h2,h3⟩|⟨b,bs',rfl,_,h3⟩<;>simp[ih _ _ _ h3]
  |vlk t ps=>obtain⟨v,q,bs1,bs2,rfl,rfl,_,_,h3⟩:=h;simp[ih _ _ _ h3]
theorem oneAV_rep {F:FH}{ρ:RM}{L:HL}(fz:Nat→Bool)(d:Nat)(rs:List RK)(x:RTup rs)(rv:List Value)(v:Value)(h:RepA F ρ L (mkRets fz d 0 rs x).1 rv)(hl:rv.length=rs.length)(hv:RetV rv v):
 RepAV F ρ L (oneAV rs (mkRets fz d 0 rs x).1) v:=by
 have plain:rs.length≠1→RepAV F ρ L (mkRets fz d 0 rs x).1 v:=by
  intro hne
  unfold RepAV
  rw[if_pos (mkRets_tup fz d 0 rs x)]
  rcases hv with⟨u,hu,_⟩|⟨_,hv⟩
  ·rw[hu] at hl;exact absurd hl.symm hne
  ·exact⟨rv,hv,h⟩
 cases rs with
 |nil=>exact plain (by simp)
 |cons r0 rs=>
  cases rs with
  |cons r1 rs=>exact plain (by simp)
  |nil=>
   obtain⟨u,hu,hv⟩:∃u,rv=[u]∧v=u:=by
    rcases hv with h|⟨h,_⟩
    ·exact h
    ·rw[hl] at h;exact absurd rfl h
   subst hv
   subst hu
   cases r0 with
   |deep t=>
    obtain⟨x1,r1,hx,h1,_⟩:=h
    cases hx
    exact repAV_nt rfl h1
   |own t=>
    obtain⟨x1,r1,hx,h1,_⟩:=h
    cases hx
    exact repAV_nt rfl h1
   |ownw t=>
    obtain⟨x1,r1,hx,h1,_⟩:=h
    cases hx
    exact repAV_nt rfl h1
   |vlk t ps=>
    obtain⟨x1,r1,hx,h1,_⟩:=h
    cases hx
    exact repAV_nt rfl h1
theorem call_post (hI:In E B0 F ρ L w){cn:Con}{xs:Tup cn.params}{w':World}{v:Value}{F1:FH}{rv:List Value}{bs:List Nat}
 (k1:(if(!(cn.rets.all RK.flatOk)) then F else full w.heap).le F1) (k2:∀b,b<w.heap.size→F1 b=(if(!(cn.rets.all RK.flatOk)) then F else full w.heap) b) (k3:∀b i v,F1 b i=some v→cellAt w'.heap b i=some v)
 (k4:RepRets F1 w'.heap w.heap.size cn.rets (cn.fn xs) rv bs) (k5:bs.Nodup) (k6:RetV rv v) (k7:Below w.heap.size w w')
 {d:Nat} (hnew:∀p,p∈(mkRets E.fz d 0 cn.rets (cn.fn xs)).2→L p.1=none) (hkn:((mkRets E.fz d 0 cn.rets (cn.fn xs)).2.map (·.1)).Nodup):
 Post B0 F ρ L w (oneAV cn.rets (mkRets E.fz d 0 cn.rets (cn.fn xs)).1) (withNew (mkRets E.fz d 0 cn.rets (cn.fn xs)).2 L) v w':=by
 have hlt:∀b i v,cellAt w.heap b i=some v→cellAt w'.heap b i=some v:=by
  intro b i v h
  have:=cellAt_lt h
  simp only[cellAt] at h⊢
  rw[k7.block b this];exact h
 have hF2:∃F2:FH,F.le F2∧(∀b,b<w.heap.size→F2 b=F b)∧(∀b i v,F2 b i=some v→cellAt w'.heap b i=some v)∧RepRets F2 w'.heap w.heap.size cn.rets (cn.fn xs) rv bs:=by
  cases hfl:cn.rets.all RK.flatOk
  ·rw[hfl] at k1 k2
   simp only[Bool.not_false,if_true] at k1 k2
   exact⟨F1,k1,k2,k3,k4⟩
  ·refine⟨F,FH.le.rfl,fun _ _=>rfl,fun b i v h=>hlt _ _ _ (hI.rel.cons _ _ _ h),repRets_flat (fun b i hb=> ?_) _ _ _ _ hfl k4⟩
   cases hq:F b i with
   |none=>rfl
   |some v=>have:=cellAt_lt (hI.rel.cons _ _ _ hq);omega
 obtain⟨F2,p1,p2,p3,p4⟩:=hF2
 have hR2:HRel F2 ρ L w'.heap B0:=by
  refine⟨p3, ?_,hI.rel.inj,fun kb blk' e1 p kk hm=> ?_⟩
  rotate_left 1
  ·obtain⟨g1,g2⟩:=hI.rel.lnk kb blk' e1 p kk hm
   exact⟨g1,fun b2 cap' e2=>(g2 b2 cap' e2).ext p1 LLe.same g1 (cellAt_of (k7.block b2 (hI.rel.at e1 e2)))⟩
  intro k blk hk
  rcases hI.rel.blk _ _ hk with h|⟨b,cap,c,e,fr,hd,cs,rest,g1,g2,g3,g4,g5,g6,g7⟩|⟨K,V,ys,hm⟩
  ·exact .inl h
  ·have hb:=(Array.getElem?_eq_some_iff.1 g3).1
   exact .inr (.inl ⟨b,cap,c,e,fr,hd,cs,rest,g1,g2,by rw[k7.block b hb];exact g3,g4,g5,repC_mono p1 g6,fun i=>by rw[p2 b hb];exact g7 i⟩)
  ·exact .inr (.inr ⟨K,V,ys,hm.mono p1 (fun b _ es clock _ g3=>by rw[k7.block b (Array.getElem?_eq_some_iff.1 g3).1];exact g3)⟩)
 have hbs:=repRets_bs _ _ _ _ p4
 obtain⟨F3,ρ3,⟨q1,q2,q3,q5,q6⟩,q4,q7⟩:=adopt_rets hI.size E.fz d cn.rets 0 (cn.fn xs) rv bs F2 ρ L hR2 p4 k5 (fun b k x c hb hk hr=>by
  have:=hbs b hb
  have:=hI.rel.at hk hr
  omega) hnew hkn
 refine⟨F3,ρ3, ?_,q1,p1.trans q2,fun b hb=> ?_,LLe.withNew hnew q5,⟨k7.os,k7.tape,k7.output,k7.size,fun k hk=>k7.block k (Nat.lt_of_not_le (fun h=>hk (hI.size k h)))⟩⟩
 ·exact oneAV_rep E.fz d cn.rets (cn.fn xs) rv v q4 (repRets_len _ _ _ _ p4) k6
 ·have hlt:b<w.heap.size:=Nat.lt_of_not_le (fun h=>hb (hI.size b h))
  have hnb:b∉bs:=fun h=>by have:=hbs b h;omega
  rw[q3 b hnb];exact p2 b hlt
theorem sound_call (hI:In E B0 F ρ L w)(hgl:GlobOk E.glob F){c:Call}{X:Operand}{args:List (AV×Option Blk)}{f:FuncId}{cn:Con}(hop:o.op= .call c)(hcal:c.callee= .value X)(hX:ev X= .func (.func f) #[] #[])
 (hs:Sound E.P E.glob f cn) (ha:ArgsOk F ρ L args (c.args.toList.map ev)) {xs:Tup cn.params} {cs:List Prop} (hargs:mkArgs (!(cn.rets.all RK.flatOk)) cn.params args=some (xs,cs)) (hcs:∀c,c∈cs→c) (hpre:cn.pre xs)
 {d:Nat} (hnew:∀p,p∈(mkRets E.fz d 0 cn.rets (cn.fn xs)).2→L p.1=none) (hkn:((mkRets E.fz d 0 cn.rets (cn.fn xs)).2.map (·.1)).Nodup):
 Does E.P o ev w (Post B0 F ρ L w (oneAV cn.rets (mkRets E.fz d 0 cn.rets (cn.fn xs)).1) (withNew (mkRets E.fz d 0 cn.rets (cn.fn xs)).2 L)):=by
 obtain⟨fn,hf1,hf2,hf3⟩:=hs.fn
 have hrun:(execOp ev o).run E.P w= .ok (.enter f (c.args.toList.map ev).toArray) w:=by
  have e1:c.args.map ev=(c.args.toList.map ev).toArray:=by apply Array.ext';simp
  have hn:fn.name≠ "runtime.NumGoroutine" :=by simpa using hf2
  have hb:fn.body≠none:=by intro h;rw[h] at hf3;cases hf3
  simp[execOp,hop,resolve,hcal,hX,Deferred.ofValue,invoke,callFunc,hf1,hn,hb,e1]
 have hrep:=mkArgs_sound hI _ _ _ _ _ _ ha hargs hcs
 have hFl:F.le (if(!(cn.rets.all RK.flatOk)) then F else full w.heap):=by
  split
  ·exact FH.le.rfl
  ·exact hI.rel.le_full
 have hcons:∀b i v,(if(!(cn.rets.all RK.flatOk)) then F else full w.heap) b i=some v→cellAt w.heap b i=some v:=by
  split
  ·exact hI.rel.cons
  ·exact fun _ _ _ h=>h
 refine does_enter hrun ((hs.calls _ w xs _ hcons (hgl.mono hFl) hrep hpre).mono ?_)
 rintro e w' ⟨v,F1,rv,bs,rfl,k1,k2,k3,k4,k5,k6,k7⟩
 exact⟨v,rfl,call_post hI k1 k2 k3 k4 k5 k6 k7 hnew hkn⟩
theorem sound_ext (hI:In E B0 F ρ L w){c:Call}{X:Operand}{args:List (AV×Option Blk)}{f:FuncId}{cn:Con}(hop:o.op= .call c)(hcal:c.callee= .value X)(hX:ev X= .func (.func f) #[] #[])
 (hs:SoundE E.P f cn) (ha:ArgsOk F ρ L args (c.args.toList.map ev)) {xs:Tup cn.params} {cs:List Prop} (hargs:mkArgs (!(cn.rets.all RK.flatOk)) cn.params args=some (xs,cs)) (hcs:∀c,c∈cs→c) (hpre:cn.pre xs)
 {d:Nat} (hnew:∀p,p∈(mkRets E.fz d 0 cn.rets (cn.fn xs)).2→L p.1=none) (hkn:((mkRets E.fz d 0 cn.rets (cn.fn xs)).2.map (·.1)).Nodup):
 Does E.P o ev w (Post B0 F ρ L w (oneAV cn.rets (mkRets E.fz d 0 cn.rets (cn.fn xs)).1) (withNew (mkRets E.fz d 0 cn.rets (cn.fn xs)).2 L)):=by
 have hrep:=mkArgs_sound hI _ _ _ _ _ _ ha hargs hcs
 have hcons:∀b i v,(if(!(cn.rets.all RK.flatOk)) then F else full w.heap) b i=some v→cellAt w.heap b i=some v:=by
  split
  ·exact hI.rel.cons
  ·exact fun _ _ _ h=>h
 obtain⟨v,rv,h1,h2,h3⟩:=hs.run _ w xs _ hrep hpre
 have hrun:(execOp ev o).run E.P w= .ok (.value v) w:=by
  have e1:c.args.map ev=(c.args.toList.map ev).toArray:=by apply Array.ext';simp
  simp[execOp,hop,resolve,hcal,hX,Deferred.ofValue,invoke,e1,h1]
 exact does_ok hrun (call_post hI FH.le.rfl (fun _ _=>rfl) hcons h2 List.nodup_nil h3 (Below.refl _ _) hnew hkn)
theorem sound_grow (hI:In E B0 F ρ L w){c:Call}{X:Operand}{args:List (AV×Option Blk)}{f:FuncId}{u:Ty}(hop:o.op= .call c)(hcal:c.callee= .value X)(hX:ev X= .func (.func f) #[] #[])
 (hs:SoundG E.P f u) (ha:ArgsOk F ρ L args (c.args.toList.map ev)) (e:evalGrow E u o.dst args=some r) (hc:∀c,c∈r.cs→c) (hnew:∀p,p∈r.new→L p.1=none) (hnd:(r.new.map (·.1)).Nodup):
 Does E.P o ev w (Post B0 F ρ L w r.v (r.L L)):=by
 obtain⟨fn,hf1,hf2,hf3⟩:=hs.fn
 have hrun:(execOp ev o).run E.P w= .ok (.enter f (c.args.toList.map ev).toArray) w:=by
  have e1:c.args.map ev=(c.args.toList.map ev).toArray:=by apply Array.ext';simp
  have hn:fn.name≠ "runtime.NumGoroutine" :=by simpa using hf2
  have hb:fn.body≠none:=by intro h;rw[h] at hf3;cases hf3
  simp[execOp,hop,resolve,hcal,hX,Deferred.ofValue,invoke,callFunc,hf1,hn,hb,e1]
 refine does_enter hrun ?_
 revert ha
 generalize c.args.toList.map ev=vals
 intro ha
 unfold evalGrow at e
 split at e
 rotate_left 1
 ·cases e
 rename_i b1 n b2
 cases e
 match vals,ha with
 |[v1,v2],ha=>
  obtain⟨⟨h1,_⟩,⟨h2,_⟩,_⟩:=ha
  have h1:v1= .slice none 0 0:=by simpa[RepA] using repA_nt h1 rfl
  have h2:v2= .int .i64 n:=by simpa[RepA,RepV,Rep,Ty.isAgg] using repA_nt h2 rfl
  subst h1 h2
  obtain⟨n1,n2⟩:=hc _ List.mem_cons_self
  refine(hs.calls n w n1 n2).mono ?_
  rintro e w' ⟨v,rfl,hbel,hv⟩
  refine⟨v,rfl, ?_⟩
  have hL:(⟨[0≤(n:Int)∧(n:Int)≤1000000],oneAV [.own u] (mkRets E.fz (o.dst.getD 999999) 0 [.own u] (([]:List u.den),())).1,(mkRets E.fz (o.dst.getD 999999) 0 [.own u] (([]:List u.den),())).2,[],[]⟩:Res).L L=
   withNew (mkRets E.fz (o.dst.getD 999999) 0 [.own u] (([]:List u.den),())).2 L:=by
   funext n;simp only[Res.L,withNew,look]
   cases look n (mkRets E.fz (o.dst.getD 999999) 0 [.own u] (([]:List u.den),())).2<;>simp
  rw[hL]
  have hlt:∀b i v,cellAt w.heap b i=some v→cellAt w'.heap b i=some v:=by
   intro b i v h
   have:=cellAt_lt h
   simp only[cellAt] at h⊢
   rw[hbel.block b this];exact h
  let cn:Con:={params:=[],rets:=[.own u],pre:=fun _=>True,fn:=fun _=>(([]:List u.den),())}
  have hcon:∀b i v,F b i=some v→cellAt w'.heap b i=some v:=fun b i v h=>hlt _ _ _ (hI.rel.cons _ _ _ h)
  have hcon2:∀b i v,(if(!(cn.rets.all RK.flatOk)) then F else full w.heap) b i=some v→cellAt w'.heap b i=some v:=by
   split
   ·exact hcon
   ·exact fun b i v h=>hlt _ _ _ h
  rcases hv with rfl|⟨b,cap,cc,eid,fr,rfl,hb,hH,hfr,hsz⟩
  ·exact call_post (cn:=cn) (xs:=()) (rv:=[.slice none 0 0]) (bs:=[]) hI FH.le.rfl (fun _ _=>rfl) hcon2 ⟨_,_,rfl,.inl ⟨rfl,rfl,rfl,rfl⟩⟩ List.nodup_nil (.inl ⟨_,rfl,rfl⟩) hbel hnew hnd
  ·refine call_post (cn:=cn) (xs:=()) (rv:=[.slice (some ⟨b,0,none⟩) 0 cap]) (bs:=[b]) hI FH.le.rfl (fun _ _=>rfl) hcon2 ⟨_,_,rfl,.inr ⟨b,[],rfl,⟨(cap,0),cc,eid,fr,[],[],cc.toList,rfl,hb,hH,hfr,⟨rfl,rfl⟩,rfl,by simpa using hsz,Nat.zero_le _, ?_⟩,rfl,rfl⟩⟩ (by simp) (.inl ⟨_,rfl,rfl⟩) hbel hnew hnd
   refine .inl (fun i=> ?_)
   cases hq:(if(!(cn.rets.all RK.flatOk)) then F else full w.heap) b (0+i) with
   |none=>rfl
   |some v=>
    exfalso
    have:cellAt w.heap b (0+i)=some v:=by
     split at hq
     ·exact hI.rel.cons _ _ _ hq
     ·exact hq
    have:=cellAt_lt this
    omega
theorem HRel.onward {F:FH}{ρ:RM}{L:HL}{H H':Array Obj}{B0:Nat→Prop}(h:HRel F ρ L H B0)(hH:∀b,b<H.size→H'[b]? =H[b]?):HRel F ρ L H' B0:=by
 refine⟨fun b i v e=> ?_,fun k blk hk=> ?_,h.inj,fun kb blk' e1 p kk hm=> ?_⟩
 ·have h1:=h.cons b i v e
  have:=cellAt_lt h1
  simp only[cellAt] at h1⊢
  rw[hH b this];exact h1
 ·rcases h.blk _ _ hk with g|⟨b,cap,c,e,fr,hd,cs,rest,g1,g2,g3,g4,g5,g6,g7⟩|⟨K,V,ys,hm⟩
  ·exact .inl g
  ·have hb:=(Array.getElem?_eq_some_iff.1 g3).1
   exact .inr (.inl ⟨b,cap,c,e,fr,hd,cs,rest,g1,g2,by rw[hH b hb];exact g3,g4,g5,g6,g7⟩)
  ·exact .inr (.inr ⟨K,V,ys,hm.mono FH.le.rfl (fun b _ es clock _ g3=>by rw[hH b (Array.getElem?_eq_some_iff.1 g3).1];exact g3)⟩)
 ·obtain⟨g1,g2⟩:=h.lnk kb blk' e1 p kk hm
  exact⟨g1,fun b2 cap' e2=>(g2 b2 cap' e2).ext FH.le.rfl LLe.same g1 (cellAt_of (hH b2 (h.at e1 e2)))⟩
theorem fnsB_vals :∀(fs:List FuncId) (l:List (AV×Option Blk)) (vs:List Value),fnsB fs l=true→ArgsOk F ρ L l vs→vs=fnVals fs:=by
 intro fs
 induction fs with
 |nil=>
  intro l vs h ha
  match l,h with
  |[],_=>match vs,ha with
   |[],_=>rfl
 |cons f fs ih=>
  intro l vs h ha
  match l,h with
  |(.fn g,b)::r,h=>
   simp only[fnsB,Bool.and_eq_true] at h
   have hfg:=Nat.eq_of_beq_eq_true h.1
   subst hfg
   match vs,ha with
   |v::vs,ha=>
    have hv:=repA_nt ha.1.1 rfl
    simp only[RepA,List.cons.injEq,and_true] at hv
    rw[ih r vs h.2 ha.2,hv]
    rfl
theorem sound_mut (hI:In E B0 F ρ L w){c:Call}{X:Operand}{args:List (AV×Option Blk)}{f:FuncId}{m:Mut}(hop:o.op= .call c)(hcal:c.callee= .value X)(hX:ev X= .func (.func f) #[] #[])
 (hs:SoundM E.P f m) (ha:ArgsOk F ρ L args (c.args.toList.map ev)) (e:evalMut m args=some r) (hc:∀c,c∈r.cs→c):
 Does E.P o ev w (Post B0 F ρ L w r.v (r.L L)):=by
 obtain⟨fn,hf1,hf2,hf3⟩:=hs.fn
 have hrun:(execOp ev o).run E.P w= .ok (.enter f (c.args.toList.map ev).toArray) w:=by
  have e1:c.args.map ev=(c.args.toList.map ev).toArray:=by apply Array.ext';simp
  have hn:fn.name≠ "runtime.NumGoroutine" :=by simpa using hf2
  have hb:fn.body≠none:=by intro h;rw[h] at hf3;cases hf3
  simp[execOp,hop,resolve,hcal,hX,Deferred.ofValue,invoke,callFunc,hf1,hn,hb,e1]
 refine does_enter hrun ?_
 revert ha
 generalize c.args.toList.map ev=vals
 intro ha
 unfold evalMut at e
 split at e
 ·rename_i k root blk tl
  split at e
  ·cases e
  rename_i hcd
  simp only[Bool.or_eq_true,not_or,Bool.not_eq_true,Bool.not_eq_false'] at hcd
  obtain⟨⟨hz,hrow⟩,hfs⟩:=hcd
  split at e
  ·rename_i n ww xs hg
   split at e
   ·rename_i xs' e2
    have:=TV.as_eq e2
    cases this
    split at e
    ·rename_i z hsz
     cases e
     have hpre:m.pre xs':=one_mem hc
     match vals,ha with
     |v::vs,ha=>
      obtain⟨⟨ha1,hb⟩,ha2⟩:=ha
      rw[fnsB_vals m.rest tl vs (by simpa using hfs) ha2]
      obtain⟨k',hk',hL⟩:=blkL_some hb
      cases hk'
      obtain⟨rfl,hok,hw⟩:=repAV_whole.1 ha1 blk hL
      have hlen:blk.len=List.length xs':=by
       obtain⟨row,t,x,fz⟩:=blk
       simp only[getP,Option.some.injEq] at hg
       cases hg;rfl
      rcases hw with⟨h1,h2,h3,h4,h5⟩|⟨bb,cap,mm,u',off,h1,h2,h3⟩
      ·have hx0:xs'=[]:=List.eq_nil_of_length_eq_zero (by rw[←hlen];exact h4)
       subst h5
       subst hx0
       refine(hs.nilC none 0 w hpre).mono ?_
       rintro e' w' ⟨rfl,k7⟩
       refine⟨_,rfl, ?_⟩
       rw[L_set]
       have hR:=hI.rel.onward (H':=w'.heap) (fun b hb=>k7.block b hb)
       have hz0:lenT blk.t z=lenT blk.t blk.x:=by
        obtain⟨row,t,x,fz⟩:=blk
        simp only[getP,Option.some.injEq] at hg
        cases hg
        simp only[setP] at hsz
        have:=TV.as_eq hsz
        cases this
        simp only[lenT]
        exact hs.len []
       have hLL:LLe L ρ (upd (upd L k (some none)) k (some (some ⟨blk.row,blk.t,z,false,[]⟩))) (upd ρ k none):=
        LLe.redo (blk':=⟨blk.row,blk.t,z,false,[]⟩) hL (.inl ⟨rfl,rfl,rfl,hz0⟩) h1
       refine⟨F,upd ρ k none,⟨[],rfl,rfl⟩, ?_,FH.le.rfl,fun _ _=>rfl,hLL,⟨k7.os,k7.tape,k7.output,k7.size,fun b hb=>k7.block b (Nat.lt_of_not_le (fun h=>hb (hI.size b h)))⟩⟩
       have hupd:upd (upd L k (some none)) k (some (some (⟨blk.row,blk.t,z,false,[]⟩:Blk)))=upd L k (some (some ⟨blk.row,blk.t,z,false,[]⟩)):=by
        funext q;simp only[upd];split<;>rfl
       rw[hupd] at hLL⊢
       exact hR.freshNil hLL rfl
      ·obtain⟨hu,hm,l1,l2,_⟩:=own_list hI.rel hL (blkL_shut hb) h1 hok hg h2
       obtain⟨cap,base⟩:=cap
       have hb0:base=0:=hI.rel.base0 hL h1 hz
       subst hb0
       simp only[Nat.zero_add] at h3
       obtain⟨cc,ce,fr,hd,cl,rest,g1,g2,g3,g4,g5,g6⟩:=hI.rel.live hL h1 (notMap_get hg) (blkL_shut hb)
       have hxl:(m.fn xs').length=List.length xs':=hs.len xs'
       obtain⟨cc',ce',fr',reg,q1,q2,q3,q4,q5,q6,q7⟩:=own_update hI.rel hL h1 hz hok hg h2 hxl hsz
       rw[g2] at q1
       cases q1
       have hoff:off=0:=by
        have:blk.t.nav []=some (blk.t,0):=by cases blk.t<;>rfl
        rw[this] at h2;simp at h2;exact h2.2.symm
       subst hoff
       have lreg:=repL_rep_len q6
       have hsplit:cc.toList=reg++cc.toList.drop reg.length:=by
        conv=>lhs;rw[←List.take_append_drop reg.length cc.toList]
        rw[List.drop_zero] at q5
        rw[q5]
       have hcap:cc.size=cap*m.t.size∧List.length xs'≤cap:=by
        obtain⟨row,t,x,fz⟩:=blk
        simp only[getP,Option.some.injEq] at hg
        cases hg
        simp only at hrow
        have hr1:row=true:=by simpa using hrow
        simp only[RepC,hr1,if_true,Nat.zero_add] at g5
        exact g5.2
       have hlc:lcap blk.row [] blk.len (cap,0) mm=(List.length xs',cap):=by
        have hr1:blk.row=true:=by simpa using hrow
        simp[lcap,hr1,hlen]
       rw[hlc] at h3
       subst h3
       refine(hs.rowC F w xs' bb cap cc ce fr reg _ g2 g3 hsplit q6 hcap.1 hcap.2 hpre).mono ?_
       rintro e' w' ⟨rfl,cs',r1,r2,r3,r4,r5,r6,r7⟩
       refine⟨_,rfl, ?_⟩
       rw[L_set]
       obtain⟨F',f1,f2,f3,f4⟩:=q7 cs' r1
       have lcs:=repL_rep_len r1
       have hput:putL cc.toList 0 cs'=cs'++cc.toList.drop reg.length:=by
        simp only[putL,List.take_zero,List.nil_append,Nat.zero_add]
        rw[lcs,lreg,hxl]
       have hlt:=(Array.getElem?_eq_some_iff.1 g2).1
       have hR:=f3.onward (H':=w'.heap) (fun b hb=>by
        simp only[Array.size_setIfInBounds] at hb
        by_cases hbb:b=bb
        ·subst hbb
         rw[r6,Array.getElem?_setIfInBounds_self_of_lt hlt,hput]
        ·rw[r7 b hb hbb,Array.getElem?_setIfInBounds_ne (fun h=>hbb h.symm)])
       refine⟨F',_,⟨[],rfl,rfl⟩,hR,f1,fun b' hb=>f2 b' (fun e=>hb (by rw[e];exact q3)),LLe.redo (blk':=⟨blk.row,blk.t,z,false,[]⟩) hL (.inl ⟨rfl,rfl,rfl,f4⟩) h1,
        ⟨r2,r3,r4,r5,fun b hb=>r7 b (Nat.lt_of_not_le (fun h=>hb (hI.size b h))) (fun e=>hb (by rw[e];exact q3))⟩⟩
    ·cases e
   ·cases e
  ·cases e
 ·rename_i k root off len blk tl
  split at e
  ·cases e
  rename_i hcd
  simp only[Bool.or_eq_true,not_or,Bool.not_eq_true,Bool.not_eq_false'] at hcd
  obtain⟨⟨⟨hz,hrow⟩,hpt⟩,hfs⟩:=hcd
  have hrow:blk.row=true:=by simpa using hrow
  have hpt:m.part=true:=by simpa using hpt
  split at e
  ·rename_i n ww xs hg
   split at e
   ·rename_i xs' e2
    have:=TV.as_eq e2
    cases this
    split at e
    ·rename_i z hsz
     cases e
     have hol:off+len≤xs'.length:=hc _ List.mem_cons_self
     have hpre:m.pre ((xs'.drop off).take len):=hc _ (List.mem_cons_of_mem _ List.mem_cons_self)
     match vals,ha with
     |v::vs,ha=>
      obtain⟨⟨ha1,hb⟩,ha2⟩:=ha
      rw[fnsB_vals m.rest tl vs (by simpa using hfs) ha2]
      obtain⟨k',hk',hL⟩:=blkL_some hb
      cases hk'
      obtain⟨rfl,hok,hw⟩:=repAV_sub.1 ha1 blk hL
      have hlen:blk.len=List.length xs':=by
       obtain⟨row,t,x,fz⟩:=blk
       simp only[getP,Option.some.injEq] at hg
       cases hg;rfl
      have hml:((xs'.drop off).take len).length=len:=by simp;omega
      have hxl:(xs'.take off++(m.fn ((xs'.drop off).take len)++xs'.drop (off+len))).length=List.length xs':=by
       simp only[List.length_append,hs.len,hml,List.length_take,List.length_drop];omega
      have same:∀(w':World),Below w.heap.size w w'→len=0→(xs'.take off++(m.fn ((xs'.drop off).take len)++xs'.drop (off+len)))=xs':=by
       intro w' _ h0
       subst h0
       have:m.fn ((xs'.drop off).take 0)=[]:=List.eq_nil_of_length_eq_zero (by rw[hs.len];simp)
       rw[this];simp
      rcases hw with⟨h1,h2,h3,h4,h5,h6,h7⟩|⟨bb,cap,mm,u',off1,off',h1,h2,h3,h4,h5⟩
      ·subst h7
       have hm0:(xs'.drop off).take len=[]:=by rw[h6];simp
       rw[hm0] at hpre
       refine(hs.nilC none 0 w hpre).mono ?_
       rintro e' w' ⟨rfl,k7⟩
       refine⟨_,rfl, ?_⟩
       rw[L_set]
       have hR:=hI.rel.onward (H':=w'.heap) (fun b hb=>k7.block b hb)
       have hz0:lenT blk.t z=lenT blk.t blk.x:=by
        obtain⟨row,t,x,fz⟩:=blk
        simp only[getP,Option.some.injEq] at hg
        cases hg
        simp only[setP] at hsz
        have:=TV.as_eq hsz
        cases this
        simp only[lenT]
        exact hxl
       have hLL:LLe L ρ (upd (upd L k (some none)) k (some (some ⟨blk.row,blk.t,z,false,[]⟩))) (upd ρ k none):=
        LLe.redo (blk':=⟨blk.row,blk.t,z,false,[]⟩) hL (.inl ⟨rfl,rfl,rfl,hz0⟩) h1
       refine⟨F,upd ρ k none,⟨[],rfl,rfl⟩, ?_,FH.le.rfl,fun _ _=>rfl,hLL,⟨k7.os,k7.tape,k7.output,k7.size,fun b hb=>k7.block b (Nat.lt_of_not_le (fun h=>hb (hI.size b h)))⟩⟩
       have hupd:upd (upd L k (some none)) k (some (some (⟨blk.row,blk.t,z,false,[]⟩:Blk)))=upd L k (some (some ⟨blk.row,blk.t,z,false,[]⟩)):=by
        funext q;simp only[upd];split<;>rfl
       rw[hupd] at hLL⊢
       exact hR.freshNil hLL rfl
      ·obtain⟨hu,hm,l1,l2,_⟩:=own_list hI.rel hL (blkL_shut hb) h1 hok hg h2
       subst hu
       obtain⟨cap,base⟩:=cap
       have hb0:base=0:=hI.rel.base0 hL h1 hz
       subst hb0
       simp only[Nat.zero_add] at h3 h5
       obtain⟨cc,ce,fr,hd,cl,rest,g1,g2,g3,g4,g5,g6⟩:=hI.rel.live hL h1 (notMap_get hg) (blkL_shut hb)
       obtain⟨cc',ce',fr',reg,q1,q2,q3,q4,q5,q6,q7⟩:=own_update hI.rel hL h1 hz hok hg h2 hxl hsz
       rw[g2] at q1
       cases q1
       have hoff:off1=0:=by
        have:blk.t.nav []=some (blk.t,0):=by cases blk.t<;>rfl
        rw[this] at h2;simp at h2;exact h2.2.symm
       subst hoff
       have lreg:=repL_rep_len q6
       have hsplit:cc.toList=reg++cc.toList.drop reg.length:=by
        conv=>lhs;rw[←List.take_append_drop reg.length cc.toList]
        rw[List.drop_zero] at q5
        rw[q5]
       have hlc:lcap blk.row [] blk.len (cap,0) mm=(List.length xs',cap):=by
        simp[lcap,hrow,hlen]
       rw[hlc] at h3 h4 h5
       simp only at h3 h4 h5
       subst h3
       have hlt:=(Array.getElem?_eq_some_iff.1 g2).1
       have hR1:=repL_take (fun x cs=>rep_len m.t x cs) off _ _ q6
       have hR2:=repL_take (fun x cs=>rep_len m.t x cs) len _ _ (repL_drop (fun x cs=>rep_len m.t x cs) off _ _ q6)
       have hR3:=repL_drop (fun x cs=>rep_len m.t x cs) (off+len) _ _ q6
       have le1:off*m.t.size+len*m.t.size≤reg.length:=by
        rw[lreg,←Nat.add_mul];exact Nat.mul_le_mul_right _ hol
       have hreg:reg=reg.take (off*m.t.size)++((reg.drop (off*m.t.size)).take (len*m.t.size)++reg.drop ((off+len)*m.t.size)):=by
        conv=>lhs;rw[←List.take_append_drop (off*m.t.size) reg]
        congr 1
        conv=>lhs;rw[←List.take_append_drop (len*m.t.size) (reg.drop (off*m.t.size))]
        rw[List.drop_drop,Nat.add_mul]
       have fin:∀(e':Ending) (w':World),(e'= .returned (.tuple #[])∧∃cs',RepL (Rep F m.t) (m.fn ((xs'.drop off).take len)) cs'∧w'.os=w.os∧w'.tape=w.tape∧w'.output=w.output∧
        w.heap.size≤w'.heap.size∧w'.heap[bb]? =some (.cells (reg.take (off*m.t.size)++(cs'++(reg.drop ((off+len)*m.t.size)++cc.toList.drop reg.length))).toArray ce fr)∧∀i,i<w.heap.size→i≠bb→w'.heap[i]? =w.heap[i]?)→
        ∃v,e'= .returned v∧Post B0 F ρ L w .tnil (upd (upd L k (some none)) k (some (some ⟨blk.row,blk.t,z,false,[]⟩))) v w':=by
        rintro e' w' ⟨rfl,cs',r1,r2,r3,r4,r5,r6,r7⟩
        refine⟨_,rfl, ?_⟩
        have rall:=repL_append _ _ _ _ hR1 (repL_append _ _ _ _ r1 hR3)
        obtain⟨F',f1,f2,f3,f4⟩:=q7 _ rall
        have lall:=repL_rep_len rall
        have hput:putL cc.toList 0 (reg.take (off*m.t.size)++(cs'++reg.drop ((off+len)*m.t.size)))=reg.take (off*m.t.size)++(cs'++(reg.drop ((off+len)*m.t.size)++cc.toList.drop reg.length)):=by
         simp only[putL,List.take_zero,List.nil_append,Nat.zero_add]
         rw[lall,lreg,hxl]
         simp only[List.append_assoc]
        have hR:=f3.onward (H':=w'.heap) (fun b hb=>by
         simp only[Array.size_setIfInBounds] at hb
         by_cases hbb:b=bb
         ·subst hbb
          rw[r6,Array.getElem?_setIfInBounds_self_of_lt hlt,hput]
         ·rw[r7 b hb hbb,Array.getElem?_setIfInBounds_ne (fun h=>hbb h.symm)])
        exact⟨F',_,⟨[],rfl,rfl⟩,hR,f1,fun b' hb=>f2 b' (fun e=>hb (by rw[e];exact q3)),LLe.redo (blk':=⟨blk.row,blk.t,z,false,[]⟩) hL (.inl ⟨rfl,rfl,rfl,f4⟩) h1,
         ⟨r2,r3,r4,r5,fun b hb=>r7 b (Nat.lt_of_not_le (fun h=>hb (hI.size b h))) (fun e=>hb (by rw[e];exact q3))⟩⟩
       rw[L_set]
       by_cases h0:len=0
       ·subst h0
        simp only[List.take_zero] at hpre fin
        refine(hs.nilC (some ⟨bb,off',none⟩) (cap-off) w hpre).mono (fun e' w' hh=>fin e' w' ?_)
        obtain⟨rfl,k7⟩:=hh
        have hf0:m.fn []=[]:=List.eq_nil_of_length_eq_zero (by rw[hs.len];rfl)
        refine⟨rfl,[],by rw[hf0];rfl,k7.os,k7.tape,k7.output,k7.size, ?_,fun i hi _=>k7.block i hi⟩
        rw[k7.block bb hlt,g2]
        have:reg.take (off*m.t.size)++([]++(reg.drop ((off+0)*m.t.size)++cc.toList.drop reg.length))=cc.toList:=by
         rw[List.nil_append,Nat.add_zero,←List.append_assoc,List.take_append_drop];exact hsplit.symm
        rw[this]
       ·have hoff':=h5 (by omega)
        have e1:off'=(reg.take (off*m.t.size)).length:=by
         rw[hoff',List.length_take];omega
        rw[e1]
        have hcl:=hs.partC hpt F w ((xs'.drop off).take len) bb (cap-off) cc ce fr (reg.take (off*m.t.size)) ((reg.drop (off*m.t.size)).take (len*m.t.size)) (reg.drop ((off+len)*m.t.size)++cc.toList.drop reg.length) g2 g3
         (by conv=>lhs;rw[hsplit]
             conv=>lhs;lhs;rw[hreg]
             simp only[List.append_assoc]) hR2 (by rw[hml];omega) (by rw[hml];omega) hpre
        rw[hml] at hcl
        exact hcl.mono fin
    ·cases e
   ·cases e
  ·cases e
 ·cases e
end
end Lc
