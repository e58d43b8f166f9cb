/- The engine, part J: loads, places, slices of slices, lengths, conversions. -/
import Derived.Test.YtlhdieoemhjjiaaGreatDoorEngFI
import Derived.Laws.IdiomStrings
import Derived.Laws.BytesArg
set_option linter.unusedVariables false
set_option linter.unusedSimpArgs false
namespace Lc
open Go Go.RowKit
theorem nav_append :∀(root:Ty) (p q:List Stp) (t u:Ty) (o o':Nat),root.nav p=some (t,o)→t.nav q=some (u,o')→root.nav (p++q)=some (u,o+o'):=by
 intro root
 induction root with
 |pair a b iha ihb=>
  intro p q t u o o' h1 h2
  cases p with
  |nil=>simp[Ty.nav] at h1;obtain⟨rfl,rfl⟩:=h1;simpa using h2
  |cons s p=>
   cases s with
   |idx i=>simp[Ty.nav] at h1
   |fld i=>
    cases i with
    |zero=>exact iha p q t u o o' h1 h2
    |succ i=>
     simp only[Ty.nav] at h1
     split at h1
     ·rename_i v ov e
      cases h1
      have:=ihb (.fld i::p) q t u ov o' e h2
      simp only[List.cons_append,Ty.nav] at this⊢
      rw[this];simp;omega
     ·cases h1
 |arr n a ih=>
  intro p q t u o o' h1 h2
  cases p with
  |nil=>simp[Ty.nav] at h1;obtain⟨rfl,rfl⟩:=h1;simpa using h2
  |cons s p=>
   cases s with
   |fld i=>simp[Ty.nav] at h1
   |idx i=>
    simp only[Ty.nav] at h1
    split at h1
    ·rename_i v ov e
     cases h1
     have:=ih p q t u ov o' e h2
     simp only[List.cons_append,Ty.nav,this];simp;omega
    ·cases h1
 |_=>
  intro p q t u o o' h1 h2
  cases p with
  |nil=>simp[Ty.nav] at h1;obtain⟨rfl,rfl⟩:=h1;simpa using h2
  |cons s p=>simp[Ty.nav] at h1
theorem okT_nil (t:Ty):okT t []:=by cases t<;>simp[okT]
theorem okT_append :∀(root:Ty) (p q:List Stp) (t:Ty) (o:Nat),okT root p→root.nav p=some (t,o)→okT t q→okT root (p++q):=by
 intro root
 induction root with
 |pair a b iha ihb=>
  intro p q t o hk h1 h2
  cases p with
  |nil=>simp[Ty.nav] at h1;obtain⟨rfl,rfl⟩:=h1;simpa using h2
  |cons s p=>
   cases s with
   |idx i=>simp[Ty.nav] at h1
   |fld i=>
    cases i with
    |zero=>exact iha p q t o hk h1 h2
    |succ i=>
     simp only[Ty.nav] at h1
     split at h1
     ·rename_i v ov e
      cases h1
      exact ihb (.fld i::p) q t ov hk e h2
     ·cases h1
 |arr n a ih=>
  intro p q t o hk h1 h2
  cases p with
  |nil=>simp[Ty.nav] at h1;obtain⟨rfl,rfl⟩:=h1;simpa using h2
  |cons s p=>
   cases s with
   |fld i=>simp[Ty.nav] at h1
   |idx i=>
    simp only[Ty.nav] at h1
    split at h1
    ·rename_i v ov e
     cases h1
     exact⟨hk.1,ih p q t ov hk.2 e h2⟩
    ·cases h1
 |_=>
  intro p q t o hk h1 h2
  cases p with
  |nil=>simp[Ty.nav] at h1;obtain⟨rfl,rfl⟩:=h1;simpa using h2
  |cons s p=>simp[Ty.nav] at h1
theorem okB_append {row:Bool}{n:Nat}{root:Ty}{p q:List Stp}{t:Ty}{o:Nat}(hk:okB row n root p)(hp:(row&&p.isEmpty)=false)(h1:root.nav p=some (t,o))(h2:okT t q):okB row n root (p++q):=by
 cases row
 ·simp only[okB,Bool.false_eq_true,if_false] at hk⊢;exact okT_append _ _ _ _ _ hk h1 h2
 ·cases p with
  |nil=>simp at hp
  |cons s p=>
   cases root with
   |arr m u=>
    cases s with
    |fld i=>simp[okB] at hk
    |idx i=>
     simp only[okB,if_true,List.cons_append] at hk⊢
     simp only[Ty.nav] at h1
     split at h1
     ·rename_i v ov e;cases h1;exact⟨hk.1,okT_append _ _ _ _ _ hk.2 e h2⟩
     ·cases h1
   |_=>simp[okB] at hk
theorem chain_field {P:Program}:∀(t:Ty) (fs:List Field) (off i:Nat) (u:Ty) (o:Nat),tOkB P t (.inr (fs,off))=true→t.nav [.fld i]=some (u,o)→
 ∃f,fs[i]? =some f∧f.offset=off+o∧TyOk P u f.type∧u.size≠0∧okT t [.fld i]:=by
 intro t
 induction t with
 |pair a b _ ihb=>
  intro fs off i u o h hn
  cases fs with
  |nil=>simp[tOkB] at h
  |cons f r=>
   simp only[tOkB,Bool.and_eq_true,beq_iff_eq,bne_iff_ne,ne_eq] at h
   cases i with
   |zero=>simp[Ty.nav] at hn;obtain⟨rfl,rfl⟩:=hn;exact⟨f,rfl,by omega,h.1.2,h.1.1.2,by simp[okT]⟩
   |succ i=>
    simp only[Ty.nav] at hn
    split at hn
    ·rename_i v ov e
     cases hn
     obtain⟨g,g1,g2,g3,g4,g5⟩:=ihb r (off+a.size) i u ov h.2 e
     exact⟨g,g1,by omega,g3,g4,g5⟩
    ·cases hn
 |unit=>intro fs off i u o h hn;simp[Ty.nav] at hn
 |_=>intro fs off i u o h hn;cases fs<;>simp[tOkB] at h
theorem TyOk.field {P:Program}{t:Ty}{id:TypeId}(h:TyOk P t id){i:Nat}{u:Ty}{o:Nat}(hn:t.nav [.fld i]=some (u,o)):
 ∃fs f,P.underlying id=some (.struct fs)∧fs[i]? =some f∧f.offset=o∧TyOk P u f.type∧u.size≠0∧okT t [.fld i]:=by
 cases t with
 |pair a b=>
  obtain⟨fs,f,r,h1,h2,h3,h4,h5,h6,h7,h8⟩:=h.pair
  have hc:tOkB P (.pair a b) (.inr (fs.toList,0))=true:=by
   rw[h3];simp only[tOkB,Bool.and_eq_true,beq_iff_eq,bne_iff_ne,ne_eq]
   exact⟨⟨⟨⟨h4,h5⟩,h6⟩,h7⟩,by simpa using h8⟩
  obtain⟨g,g1,g2,g3,g4,g5⟩:=chain_field _ _ _ _ _ _ hc hn
  exact⟨fs,g,h1,by simpa using g1,by simpa using g2,g3,g4,g5⟩
 |_=>simp[Ty.nav] at hn
section
variable {E : Env} {B0 : Nat → Prop} {F : FH} {ρ : RM} {L : HL} {w : World} {o : Oper} {ev : Operand → Value} {r : Res}
theorem repA_nt {a:AV}{v:Value}(h:RepAV F ρ L a v)(ht:a.isTup=false):RepA F ρ L a [v]:=by
 unfold RepAV at h;rw[if_neg (by simp[ht])] at h;exact h
theorem repAV_nt {a:AV}{v:Value}(ht:a.isTup=false)(h:RepA F ρ L a [v]):RepAV F ρ L a v:=by
 unfold RepAV;rw[if_neg (by simp[ht])];exact h
theorem repAV_cptr {t:Ty}{x:t.den}{v:Value}:RepAV F ρ L (.cptr t x) v↔∃b off cs,v= .pointer (some ⟨b,off,none⟩)∧Rep F t x cs∧FAt F b off cs:=by
 constructor
 ·intro h;obtain⟨b,off,cs,h1,h2⟩:=repA_nt h rfl;simp at h1;exact⟨b,off,cs,h1,h2⟩
 ·rintro⟨b,off,cs,rfl,h2⟩;exact repAV_nt rfl ⟨b,off,cs,rfl,h2⟩
theorem repAV_ptr {k:Nat}{root:Ty}{p:List Stp}{v:Value}:RepAV F ρ L (.ptr k root p) v↔∀blk,L k=some (some blk)→blk.t=root∧okB blk.row blk.len root p∧
 ∃b cap u off,ρ k=some (b,cap)∧root.nav p=some (u,off)∧v= .pointer (some ⟨b,cap.2+off,none⟩):=by
 constructor
 ·intro h;obtain⟨v',h1,h2⟩:=repA_nt h rfl;simp at h1;subst h1;exact h2
 ·intro h;exact repAV_nt rfl ⟨v,rfl,h⟩
theorem repAV_whole {k:Nat}{root:Ty}{p:List Stp}{v:Value}:RepAV F ρ L (.whole k root p) v↔∀blk,L k=some (some blk)→blk.t=root∧okB blk.row blk.len root p∧HW (ρ k) blk.row blk.len root p v:=by
 constructor
 ·intro h;obtain⟨v',h1,h2⟩:=repA_nt h rfl;simp at h1;subst h1;exact h2
 ·intro h;exact repAV_nt rfl ⟨v,rfl,h⟩
theorem repAV_sub {k:Nat}{root:Ty}{p:List Stp}{s l:Nat}{v:Value}:RepAV F ρ L (.sub k root p s l) v↔∀blk,L k=some (some blk)→blk.t=root∧okB blk.row blk.len root p∧HS (ρ k) blk.row blk.len root p s l v:=by
 constructor
 ·intro h;obtain⟨v',h1,h2⟩:=repA_nt h rfl;simp at h1;subst h1;exact h2
 ·intro h;exact repAV_nt rfl ⟨v,rfl,h⟩
theorem samePath_eq :∀(p q:List Stp),samePath p q=true→p=q
 |[],[],_=>rfl
 |[],s::q,h=>by simp[samePath] at h
 | .idx i::p,q,h=>by cases q<;>simp[samePath] at h
 | .fld i::p,[],h=>by simp[samePath] at h
 | .fld i::p,.idx j::q,h=>by simp[samePath] at h
 | .fld i::p,.fld j::q,h=>by
   simp only[samePath,Bool.and_eq_true,beq_iff_eq] at h
   rw[h.1,samePath_eq p q h.2]
theorem lkAt_mem {path:List Stp}{k:Nat}:∀(l:List (List Stp×Nat)),lkAt path l=some k→(path,k)∈l
 |[],h=>by cases h
 |(p,k')::r,h=>by
  simp only[lkAt] at h
  split at h
  ·rename_i hp;cases h;rw[samePath_eq _ _ hp];exact List.mem_cons_self
  ·exact List.mem_cons_of_mem _ (lkAt_mem r h)
theorem sound_load (hI:In E B0 F ρ L w){t:TypeId}{X:Operand}{x:AV×Option Blk}(hop:o.op= .load t X)(hx:Arg F ρ L x (ev X))
 (e:evalLoad (E.ty t) x.1 x.2=some r):Does E.P o ev w (Post B0 F ρ L w r.v (r.L L)):=by
 obtain⟨a,b⟩:=x
 obtain⟨ha,hb⟩:=hx
 simp only at ha hb e
 unfold evalLoad at e
 split at e
 ·rename_i u t' y ht
  split at e
  ·rename_i hu;subst hu
   cases e
   obtain⟨bb,off,cs,hv,h1,h2⟩:=repAV_cptr.1 ha
   have hty:=hI.env.ty _ _ ht
   have hl:=run_loadVar' hty w bb off cs (rep_len _ _ _ h1) (fun i c hc=>hI.rel.cons _ _ _ (h2 i c hc))
   refine does_pure hI (v:=mkV _ cs) ?_ (repAV_val.2 (repV_mk h1)) rfl
   simp[execOp,hop,hv,Instr.loadAt,Instr.sureAddr,hl]
  ·cases e
 ·rename_i t' k root path blk ht
  split at e
  ·cases e
  rename_i hrow
  have hrow:(blk.row&&path.isEmpty)=false:=by simpa using hrow
  split at e
  ·rename_i u y hg
   split at e
   ·rename_i hu;subst hu
    cases e
    obtain⟨k',hk',hL⟩:=blkL_some hb
    cases hk'
    obtain⟨rfl,hok,bb,cap,u',off,h1,h2,h3⟩:=repAV_ptr.1 ha blk hL
    obtain⟨c,e,fr,hd,cl,rest,g1,g2,g3,g4,g5,g6⟩:=hI.rel.live hL h1 (notMap_row h2 hrow) (blkL_shut hb)
    obtain⟨o2,n1,n2,n3⟩:=blk_get g5 hok hrow hg
    rw[h2] at n1;cases n1
    have hty:=hI.env.ty _ _ ht
    have hl:=run_loadVar' hty w bb (cap.2+off) _ (rep_len _ _ _ n3) (fun i c' hc=>by
     have hc2:=take_drop_get hc
     simp only[cellAt,g2]
     rw[Nat.add_assoc];exact at_of g4.1 g4.2.2 hc2)
    refine does_pure hI (v:=mkV u ((cl.drop off).take u.size)) ?_ ?_ rfl
    ·simp[execOp,hop,h3,Instr.loadAt,Instr.sureAddr,hl]
    ·have plain:=repAV_val (ρ:=ρ) (L:=L)|>.2 (repV_mk n3)
     unfold loadAV
     split
     ·rename_i kk ww e1 e2
      have hu:u= .slc ww:=by cases u<;>simp[isSlc] at e2;rw[e2]
      subst hu
      obtain⟨_,q2⟩:=hI.rel.lnk k blk hL path kk (lkAt_mem _ e1)
      obtain⟨_,u3,off3,v3,m1,m2,m3⟩:=q2 bb cap h1
      rw[h2] at m1
      cases m1
      obtain⟨vv,hvv,_⟩:=n3
      have hcell:(cl.drop off).take 1=[v3]:=by
       have hv4:c.toList[cap.2+off]? =some v3:=by simp only[cellAt,g2] at m2;simpa using m2
       have hlt:off<cl.length:=by
        have:=congrArg List.length hvv
        simp only[Ty.size,List.length_take,List.length_drop,List.length_singleton] at this
        omega
       rw[g4.2.2,List.getElem?_append_right (by omega),g4.1,Nat.add_sub_cancel_left,List.getElem?_append_left hlt] at hv4
       rw[List.drop_eq_getElem_cons hlt]
       simp only[List.take_succ_cons,List.take_zero]
       rw[List.getElem?_eq_getElem hlt] at hv4
       cases hv4;rfl
      have:mkV (.slc ww) ((cl.drop off).take (Ty.slc ww).size)=v3:=by
       show mkV (.slc ww) ((cl.drop off).take 1)=v3
       rw[hcell];rfl
      rw[this];exact m3
     ·exact plain
   ·cases e
  ·cases e
 ·cases e
theorem run_fieldPlace {P:Program}{u:Ty}{f:Field}(h:TyOk P u f.type)(hs:u.size≠0)(b off:Nat):(fieldPlace ⟨b,off,none⟩ f).run P w= .ok ⟨b,off+f.offset,none⟩ w:=by
 simp[fieldPlace,run_sizeOf' h,hs,addr_add]
theorem getP_one {t:Ty}{x:t.den}{f:Nat}{v:TV}(h:getP t x [.fld f]=some v):okT t [.fld f]:=by
 revert f v
 induction t with
 |pair a b _ ihb=>
  intro f v h
  cases f with
  |zero=>simp[okT]
  |succ f=>exact ihb h
 |_=>intro f v h;simp[getP] at h
theorem sound_fieldAddrF (hI:In E B0 F ρ L w){s:TypeId}{X:Operand}{f:Nat}{a:AV}{b:Option Blk}(hop:o.op= .fieldAddr s X f)(ha:RepAV F ρ L a (ev X))(hb:∀blk,b=some blk→some blk=blkF L a)
 (e:evalFieldAddr (E.ty s) f a b=some r):Does E.P o ev w (Post B0 F ρ L w r.v (r.L L)):=by
 unfold evalFieldAddr at e
 split at e
 ·rename_i t k root path blk ht
  split at e
  ·rename_i hc
   cases e
   obtain⟨hc1,hc2,hrow⟩:=hc
   obtain⟨⟨u,ou⟩,hu⟩:=Option.isSome_iff_exists.1 hc2
   have hty:=hI.env.ty _ _ ht
   obtain⟨fs,g,g1,g2,g3,g4,g5,g6⟩:=hty.field hu
   obtain⟨k',hk',hL⟩:=blkF_some (hb _ rfl)
   cases hk'
   obtain⟨rfl,hok,bb,cap,u',off,h1,h2,h3⟩:=repAV_ptr.1 ha blk hL
   rw[h2] at hc1
   simp at hc1;subst hc1
   refine does_pure hI (v:= .pointer (some ⟨bb,cap.2+(off+ou),none⟩)) ?_ ?_ rfl
   ·simp[execOp,hop,h3,Instr.fieldAt,Instr.sureAddr,run_underlying g1,g2,run_fieldPlace g4 g5,g3,Nat.add_assoc]
   ·refine repAV_ptr.2 (fun blk' hL'=> ?_)
    rw[hL] at hL';cases hL'
    exact⟨rfl,okB_append hok hrow h2 g6,bb,cap,u,off+ou,h1,nav_append _ _ _ _ _ _ _ h2 hu,rfl⟩
  ·cases e
 ·rename_i t u y ht
  split at e
  ·rename_i hu;subst hu
   split at e
   ·rename_i v z hg
    cases e
    obtain⟨bb,off,cs,hv,h1,h2⟩:=repAV_cptr.1 ha
    have hty:=hI.env.ty _ _ ht
    obtain⟨ou,n1,n2,n3⟩:=getP_rep _ _ _ _ h1 (getP_one hg) _ hg
    obtain⟨fs,g,g1,g2,g3,g4,g5,g6⟩:=hty.field n1
    refine does_pure hI (v:= .pointer (some ⟨bb,off+ou,none⟩)) ?_ ?_ rfl
    ·simp[execOp,hop,hv,Instr.fieldAt,Instr.sureAddr,run_underlying g1,g2,run_fieldPlace g4 g5,g3]
    ·exact repAV_cptr.2 ⟨bb,off+ou,_,rfl,n3,fun i c hc=>by rw[Nat.add_assoc];exact h2 _ _ (take_drop_get hc)⟩
   ·cases e
  ·cases e
 ·cases e
theorem sound_fieldAddr (hI:In E B0 F ρ L w){s:TypeId}{X:Operand}{f:Nat}{x:AV×Option Blk}(hop:o.op= .fieldAddr s X f)(hx:Arg F ρ L x (ev X))
 (e:evalFieldAddr (E.ty s) f x.1 x.2=some r):Does E.P o ev w (Post B0 F ρ L w r.v (r.L L)):=
 sound_fieldAddrF hI hop hx.1 (fun blk h=>by have h2:=hx.2;rw[h] at h2;exact(mask_some h2).1.symm) e
theorem sound_field (hI:In E B0 F ρ L w){s:TypeId}{X:Operand}{f:Nat}{x:AV}(hop:o.op= .field s X f)(hx:RepAV F ρ L x (ev X))
 (e:evalField (E.ty s) f x=some r):Does E.P o ev w (Post B0 F ρ L w r.v (r.L L)):=by
 unfold evalField at e
 split at e
 ·rename_i t u y ht
  split at e
  ·rename_i hu;subst hu
   split at e
   ·rename_i v z hg
    cases e
    have hty:=hI.env.ty _ _ ht
    rw[repAV_val] at hx
    have hag:u.isAgg=true:=by cases u<;>first|rfl|(simp[getP] at hg)
    unfold RepV at hx
    rw[if_pos hag] at hx
    obtain⟨cs,hv,h1⟩:=hx
    obtain⟨ou,n1,n2,n3⟩:=getP_rep _ _ _ _ h1 (getP_one hg) _ hg
    obtain⟨fs,g,g1,g2,g3,g4,g5,g6⟩:=hty.field n1
    have hl:=rep_len _ _ _ h1
    simp only at n1 n2 n3
    have hp:=run_part' g4 w cs.toArray ou (by simp;omega)
    refine does_pure hI (v:=mkV v ((cs.drop ou).take v.size)) ?_ (repAV_val.2 (repV_mk n3)) rfl
    simp only at hp
    simp[execOp,hop,hv,Instr.field,asAgg,run_underlying g1,g2,g3,hp]
   ·cases e
  ·cases e
 ·cases e
theorem own_list {F:FH}{ρ:RM}{L:HL}{H:Array Obj}(h:HRel F ρ L H B0){k:Nat}{blk:Blk}(hL:L k=some (some blk))(ho:blk.isOpen=false){b:Nat}{cap:Cap}(hr:ρ k=some (b,cap)){path:List Stp}
 (hok:okB blk.row blk.len blk.t path) {m n:Nat} {u u':Ty} {xs:List u.den} (hg:getP blk.t blk.x path=some ⟨.arr m u,xs⟩) {off:Nat} (hn:blk.t.nav path=some (.arr n u',off)):
 u'=u∧m=n∧(lcap blk.row path blk.len cap n).1=xs.length∧xs.length≤(lcap blk.row path blk.len cap n).2∧
 ∀i,i<xs.length→okB blk.row blk.len blk.t (path++[.idx i])∧blk.t.nav (path++[.idx i])=some (u,off+i*u.size):=by
 obtain⟨c,e,fr,hd,cl,rest,g1,g2,g3,g4,g5,g6⟩:=h.live hL hr (notMap_get hg) ho
 by_cases hrow:(blk.row&&path.isEmpty)=true
 ·simp only[lcap,hrow,if_true]
  simp only[Bool.and_eq_true,List.isEmpty_iff] at hrow
  obtain⟨r1,rfl⟩:=hrow
  simp only[getP,Option.some.injEq] at hg
  cases blk with
  |mk row t x fz=>
   cases hg
   simp only at r1
   subst r1
   simp only[RepC,if_true] at g5
   simp only[Ty.nav,Option.some.injEq,Prod.mk.injEq,Ty.arr.injEq] at hn
   obtain⟨⟨rfl,rfl⟩,rfl⟩:=hn
   refine⟨rfl,rfl,rfl,g5.2.2,fun i hi=>⟨?_,by simp[Ty.nav]⟩⟩
   simp only[List.nil_append,okB,if_true]
   exact⟨hi,okT_nil _⟩
 ·have hrow:(blk.row&&path.isEmpty)=false:=by simpa using hrow
  obtain⟨o2,n1,n2,n3,n4⟩:=blk_get g5 hok hrow hg
  rw[hn] at n1
  cases n1
  have n3':xs.length=m:=n3
  have e1:lcap blk.row path blk.len cap m=(m,m):=by simp only[lcap,hrow,Bool.false_eq_true,if_false]
  rw[e1]
  refine⟨rfl,rfl,n3'.symm,by simp only;omega,fun i hi=>⟨okB_append hok hrow hn ⟨by omega,okT_nil _⟩,nav_append _ _ _ _ _ _ _ hn (by simp[Ty.nav])⟩⟩
theorem num_rep {a:AV}{v:Value}{n:Int}(h:RepAV F ρ L a v)(e:a.num=some n):∃k,v= .int k n:=by
 unfold AV.num at e
 split at e
 ·cases e;exact⟨_,repAV_int.1 h⟩
 ·cases e
theorem sound_indexAddr (hI:In E B0 F ρ L w){t:TypeId}{X Y:Operand}{x:AV×Option Blk}{y:AV}{i:Int}(hop:o.op= .indexAddr t X Y)(hx:Arg F ρ L x (ev X))(hy:RepAV F ρ L y (ev Y))(hn:y.num=some i)
 (e:evalIndexAddr E t x i=some r) (hc:∀c,c∈r.cs→c):Does E.P o ev w (Post B0 F ρ L w r.v (r.L L)):=by
 obtain⟨a,b⟩:=x
 obtain⟨ha,hb⟩:=hx
 obtain⟨ik,hi⟩:=num_rep hy hn
 simp only at ha hb
 unfold evalIndexAddr at e
 simp only at e
 split at e
 ·
  rename_i n u k root path blk ht
  split at e
  ·rename_i hcc
   obtain⟨hc1,hrow⟩:=hcc
   cases e
   obtain⟨i0,i1⟩:=one_mem hc
   have hty:=hI.env.ty _ _ ht
   obtain⟨eid,g1,g2⟩:=hty.arr
   obtain⟨k',hk',hL⟩:=blkL_some hb
   cases hk'
   obtain⟨rfl,hok,bb,cap,u',off,h1,h2,h3⟩:=repAV_ptr.1 ha blk hL
   rw[h2] at hc1
   simp at hc1;subst hc1
   refine does_pure hI (v:= .pointer (some ⟨bb,cap.2+(off+i.toNat*u.size),none⟩)) ?_ ?_ rfl
   ·simp[execOp,hop,h3,hi,Instr.indexAt,Instr.sureAddr,asIntOf,run_underlying g1,i0,i1,run_sizeOf' g2,addr_add,Nat.add_assoc]
   ·refine repAV_ptr.2 (fun blk' hL'=> ?_)
    rw[hL] at hL';cases hL'
    exact⟨rfl,okB_append hok hrow h2 ⟨by omega,okT_nil u⟩,bb,cap,u,off+i.toNat*u.size,h1,nav_append _ _ _ _ _ _ _ h2 (by simp[Ty.nav]),rfl⟩
  ·cases e
 ·
  rename_i n u ww xs ht
  split at e
  ·rename_i xs' e1
   have:=TV.as_eq e1
   cases this
   cases e
   obtain⟨i0,i1⟩:=one_mem hc
   have hty:=hI.env.ty _ _ ht
   obtain⟨eid,g1,g2⟩:=hty.arr
   obtain⟨bb,off,cs,hv,⟨h1,h1'⟩,h2⟩:=repAV_cptr.1 ha
   refine does_pure hI (v:= .pointer (some ⟨bb,off+i.toNat*u.size,none⟩)) ?_ ?_ rfl
   ·simp[execOp,hop,hv,hi,Instr.indexAt,Instr.sureAddr,asIntOf,run_underlying g1,i0,i1,run_sizeOf' g2,addr_add]
   ·have g:=repL_get (fun x cs=>rep_len u x cs) _ _ h1' i.toNat u.dflt (by omega)
    exact repAV_cptr.2 ⟨bb,_,_,rfl,g,fun j c hc=>by rw[Nat.add_assoc];exact h2 _ _ (take_drop_get hc)⟩
  ·cases e
 ·
  rename_i u ww xs ht
  split at e
  ·rename_i xs' e1
   have:=TV.as_eq e1
   cases this
   cases e
   obtain⟨i0,i1⟩:=one_mem hc
   have hty:=hI.env.ty _ _ ht
   obtain⟨eid,g1,g2⟩:=hty.slc
   rw[repAV_val] at ha
   obtain⟨v,hv,hs⟩:=ha
   simp at hv;subst hv
   rcases hs with⟨_,h1,_⟩|⟨bb,off,cap,cs,hv,h1,h2,h3⟩
   ·omega
   ·refine does_pure hI (v:= .pointer (some ⟨bb,off+i.toNat*u.size,none⟩)) ?_ ?_ rfl
    ·simp[execOp,hop,hv,hi,Instr.indexAt,asIntOf,run_underlying g1,i0,i1,run_sizeOf' g2,addr_add]
    ·have g:=repL_get (fun x cs=>rep_len u x cs) _ _ h2 i.toNat u.dflt (by omega)
     exact repAV_cptr.2 ⟨bb,_,_,rfl,g,fun j c hc=>by rw[Nat.add_assoc];exact h3 _ _ (take_drop_get hc)⟩
  ·cases e
 ·
  rename_i u ww xs ht
  split at e
  ·rename_i xs' e1
   have:=TV.as_eq e1
   cases this
   cases e
   obtain⟨i0,i1⟩:=one_mem hc
   have hty:=hI.env.ty _ _ ht
   obtain⟨eid,g1,g2⟩:=hty.slc
   rcases repA_nt ha rfl with⟨h1,_⟩|⟨bb,off,cs,hv,h2,h3⟩
   ·subst h1;simp at i1;omega
   ·simp at hv
    refine does_pure hI (v:= .pointer (some ⟨bb,off+i.toNat*u.size,none⟩)) ?_ ?_ rfl
    ·simp[execOp,hop,hv,hi,Instr.indexAt,asIntOf,run_underlying g1,i0,i1,run_sizeOf' g2,addr_add]
    ·have g:=repL_get (fun x cs=>rep_len u x cs) _ _ h2 i.toNat u.dflt (by omega)
     exact repAV_cptr.2 ⟨bb,_,_,rfl,g,fun j c hc=>by rw[Nat.add_assoc];exact h3 _ _ (take_drop_get hc)⟩
  ·cases e
 ·
  rename_i u k root path blk ht
  split at e
  ·rename_i m ww xs hg
   split at e
   ·rename_i hw;subst hw
    cases e
    obtain⟨i0,i1⟩:=one_mem hc
    have hty:=hI.env.ty _ _ ht
    obtain⟨eid,g1,g2⟩:=hty.slc
    obtain⟨k',hk',hL⟩:=blkL_some hb
    cases hk'
    obtain⟨rfl,hok,hw⟩:=repAV_whole.1 ha blk hL
    rcases hw with⟨h1,h2,h3,h4,h5⟩|⟨bb,cap,n,u',off,h1,h2,h3⟩
    ·subst h3
     simp only[getP,Option.some.injEq] at hg
     have:blk.len=List.length xs:=by cases blk;cases hg;rfl
     omega
    ·obtain⟨rfl,rfl,l1,l2,l3⟩:=own_list hI.rel hL (blkL_shut hb) h1 hok hg h2
     obtain⟨m1,m2⟩:=l3 i.toNat (by omega)
     rw[l1] at h3
     refine does_pure hI (v:= .pointer (some ⟨bb,cap.2+(off+i.toNat*u'.size),none⟩)) ?_ ?_ rfl
     ·simp[execOp,hop,h3,hi,Instr.indexAt,asIntOf,run_underlying g1,i0,i1,run_sizeOf' g2,addr_add,Nat.add_assoc]
     ·refine repAV_ptr.2 (fun blk' hL'=> ?_)
      rw[hL] at hL';cases hL'
      exact⟨rfl,m1,bb,cap,_,_,h1,m2,rfl⟩
   ·cases e
  ·cases e
 ·
  rename_i u k root path s l blk ht
  split at e
  ·rename_i m ww xs hg
   split at e
   ·rename_i hw;subst hw
    cases e
    obtain⟨i0,i1⟩:=hc (0≤i∧i<(l:Int)) (by simp)
    have hlen:s+l≤List.length xs:=hc _ (by simp)
    have hty:=hI.env.ty _ _ ht
    obtain⟨eid,g1,g2⟩:=hty.slc
    obtain⟨k',hk',hL⟩:=blkL_some hb
    cases hk'
    obtain⟨rfl,hok,hw⟩:=repAV_sub.1 ha blk hL
    rcases hw with⟨h1,h2,h3,h4,h5,h6,h7⟩|⟨bb,cap,n,u',off,off',h1,h2,h3,h4,h5⟩
    ·omega
    ·obtain⟨rfl,rfl,l1,l2,l3⟩:=own_list hI.rel hL (blkL_shut hb) h1 hok hg h2
     obtain⟨m1,m2⟩:=l3 (s+i.toNat) (by omega)
     have h5:=h5 (by omega)
     refine does_pure hI (v:= .pointer (some ⟨bb,off'+i.toNat*u'.size,none⟩)) ?_ ?_ rfl
     ·simp[execOp,hop,h3,hi,Instr.indexAt,asIntOf,run_underlying g1,i0,i1,run_sizeOf' g2,addr_add]
     ·refine repAV_ptr.2 (fun blk' hL'=> ?_)
      rw[hL] at hL';cases hL'
      exact⟨rfl,m1,bb,cap,_,_,h1,m2,by rw[h5,Nat.add_mul];simp only[Nat.add_assoc]⟩
   ·cases e
  ·cases e
 ·cases e
end
end Lc
namespace Lc
open Go Go.RowKit
section
variable {E : Env} {B0 : Nat → Prop} {F : FH} {ρ : RM} {L : HL} {w : World} {o : Oper} {ev : Operand → Value} {r : Res}
theorem sound_index (hI:In E B0 F ρ L w){t:TypeId}{X Y:Operand}{x y:AV}(hop:o.op= .index t X Y)(hx:RepAV F ρ L x (ev X))(hy:RepAV F ρ L y (ev Y))
 (e:evalIndex (E.ty t) x y.num=some r) (hc:∀c,c∈r.cs→c):Does E.P o ev w (Post B0 F ρ L w r.v (r.L L)):=by
 unfold evalIndex at e
 split at e
 ·rename_i n u ww xs i ht hn
  obtain⟨ik,hi⟩:=num_rep hy hn
  split at e
  ·rename_i xs' e1
   have:=TV.as_eq e1
   cases this
   cases e
   obtain⟨i0,i1⟩:=one_mem hc
   have hty:=hI.env.ty _ _ ht
   obtain⟨eid,g1,g2⟩:=hty.arr
   rw[repAV_val] at hx
   obtain⟨cs,hv,h1,h2⟩:∃cs:List Value,ev X= .agg cs.toArray∧Rep F (.arr n u) xs' cs:=hx
   have g:=repL_get (fun x cs=>rep_len u x cs) _ _ h2 i.toNat u.dflt (by omega)
   have hl:=repL_rep_len h2
   rw[h1] at hl
   have b1:(i.toNat+1)*u.size≤n*u.size:=Nat.mul_le_mul_right _ (by omega)
   have b2:(i.toNat+1)*u.size=i.toNat*u.size+u.size:=by rw[Nat.add_mul];omega
   have hp:=run_part' g2 w cs.toArray (i.toNat*u.size) (by simp;omega)
   simp only at hp
   refine does_pure hI (v:=mkV u ((cs.drop (i.toNat*u.size)).take u.size)) ?_ (repAV_val.2 (repV_mk g)) rfl
   simp[execOp,hop,hv,hi,Instr.index,asIntOf,run_underlying g1,i0,i1,run_sizeOf' g2,hp]
  ·cases e
 ·rename_i s i ht hn
  obtain⟨ik,hi⟩:=num_rep hy hn
  cases e
  obtain⟨i0,i1⟩:=one_mem hc
  have hty:=hI.env.ty _ _ ht
  rw[repAV_str] at hx
  have hlt:i.toNat<ByteArray.size s:=by omega
  have hs:ByteArray.size s=(ByteArray.toList s).length:=by rw[toList_eq];rfl
  have hg:s[i.toNat]? =some ((ByteArray.toList s).getD i.toNat 0):=by
   rw[getElem?_pos s i.toNat hlt,List.getD_eq_getElem?_getD,List.getElem?_eq_getElem (by omega)]
   simp only[Option.getD_some,Option.some.injEq]
   simp only[toList_eq]
   rfl
  refine does_pure hI (v:= .int .u8 _) ?_ (repAV_int.2 rfl) rfl
  simp[execOp,hop,hx,hi,Instr.index,asIntOf,run_underlying hty.str,i0,hg]
 ·cases e
theorem nth_rep :∀(i:Nat) (x a:AV) (l:List Value),nthAV i x=some a→RepA F ρ L x l→∃v,l[i]? =some v∧RepA F ρ L a [v]:=by
 intro i
 induction i with
 |zero=>
  intro x a l h hr
  cases x<;>simp[nthAV] at h
  subst h
  obtain⟨v,r,rfl,h1,_⟩:=hr
  exact⟨v,rfl,h1⟩
 |succ i ih=>
  intro x a l h hr
  cases x<;>simp[nthAV] at h
  obtain⟨v,r,rfl,_,h2⟩:=hr
  obtain⟨u,g1,g2⟩:=ih _ _ _ h h2
  exact⟨u,by simpa using g1,g2⟩
theorem nth_tup {i:Nat}{x a:AV}(h:nthAV i x=some a):x.isTup=true:=by
 cases i<;>cases x<;>simp[nthAV] at h<;>rfl
theorem sound_extract (hI:In E B0 F ρ L w){X:Operand}{i:Nat}{x:AV}(hop:o.op= .extract X i)(hx:RepAV F ρ L x (ev X))(e:evalExtract i x=some r):
 Does E.P o ev w (Post B0 F ρ L w r.v (r.L L)):=by
 unfold evalExtract at e
 split at e<;>try (cases e;done)
 rename_i a hn
 split at e
 ·cases e
 rename_i ht
 have ht:a.isTup=false:=by simpa using ht
 cases e
 unfold RepAV at hx
 rw[if_pos (nth_tup hn)] at hx
 obtain⟨l,hv,hr⟩:=hx
 obtain⟨v,g1,g2⟩:=nth_rep _ _ _ _ hn hr
 refine does_pure hI (v:=v) ?_ (repAV_nt ht g2) rfl
 simp[execOp,hop,hv,Instr.extract,g1]
def Bd (d:Int)(x:Option Value)(n:Int):Prop:=(x=none∧n=d)∨∃k,x=some (.int k n)
def OptRep (F:FH)(ρ:RM)(L:HL)(ev:Operand→Value):Option AV→Option Operand→Prop
 |some a,some x=>RepAV F ρ L a (ev x)
 |none,none=>True
 |_,_=>False
theorem bd_of {d:Int}{a:Option AV}{x:Option Operand}{n:Int}(h:OptRep F ρ L ev a x)(e:AV.numOr d a=some n):Bd d (x.map ev) n:=by
 unfold AV.numOr at e
 split at e
 ·cases e
  cases x with
  |none=>exact .inl ⟨rfl,rfl⟩
  |some x=>exact h.elim
 ·rename_i a
  cases x with
  |none=>exact h.elim
  |some x=>
   obtain⟨k,hk⟩:=num_rep h e
   exact .inr ⟨k,by simp[hk]⟩
theorem run_sliceBounds {P:Program}(isSlice:Bool)(len cap:Nat){lo hi:Option Value}{l h:Int}(h1:Bd 0 lo l)(h2:Bd len hi h)(h3:0≤l∧l≤h∧h≤(cap:Int)):
 (Instr.sliceBounds isSlice len cap lo hi none).run P w= .ok (l.toNat,h.toNat,cap) w:=by
 obtain⟨a1,a2,a3⟩:=h3
 have hb:∀(k:IntKind) (i:Int) (y:Nat) (code:BoundsCode),0≤i→i≤(y:Int)→(Instr.sliceBound (.int k i) y code).run P w= .ok i.toNat w:=by
  intro k i y code b1 b2
  simp[Instr.sliceBound,asIntOf,b1,b2]
 rcases h1 with⟨rfl,rfl⟩|⟨k,rfl⟩<;>rcases h2 with⟨rfl,rfl⟩|⟨k',rfl⟩<;>simp[Instr.sliceBounds]
 ·rw[hb _ _ _ _ (by omega) a3];simp
 ·rw[hb _ _ _ _ a1 a2];simp
 ·rw[hb _ _ _ _ (by omega) a3]
  simp only[Result.andThen_ok]
  rw[hb _ _ _ _ a1 (by omega)];simp
theorem run_sliceBounds3 {P:Program}(len cap:Nat){lo:Option Value}{k k':IntKind}{l h m:Int}(h1:Bd 0 lo l)(h3:0≤l∧l≤h∧h≤m∧m≤(cap:Int)):
 (Instr.sliceBounds true len cap lo (some (.int k h)) (some (.int k' m))).run P w= .ok (l.toNat,h.toNat,m.toNat) w:=by
 obtain⟨a1,a2,a3,a4⟩:=h3
 have hb:∀(k:IntKind) (i:Int) (y:Nat) (code:BoundsCode),0≤i→i≤(y:Int)→(Instr.sliceBound (.int k i) y code).run P w= .ok i.toNat w:=by
  intro k i y code b1 b2
  simp[Instr.sliceBound,asIntOf,b1,b2]
 simp only[Instr.sliceBounds,Sem.run_bind]
 rw[hb _ _ _ _ (by omega) a4]
 simp only[Result.andThen_ok]
 rw[hb _ _ _ _ (by omega) (by omega)]
 simp only[Result.andThen_ok]
 rcases h1 with⟨rfl,rfl⟩|⟨k,rfl⟩
 ·simp
 ·simp only[Sem.run_bind]
  rw[hb _ _ _ _ a1 (by omega)];simp
theorem slc_part {u:Ty}{xs:List u.den}{n cap:Nat}{b off:Nat}{cs:List Value}(hn:xs.length=n)(_:n≤cap)(h2:RepL (Rep F u) xs cs)(h3:FAt F b off cs){l h m:Nat}(hl:l≤h)(hh:h≤n)(hm:h≤m):
 RepV F (.slc u) ((xs.drop l).take (h-l)) (.slice (some (if m=l then⟨b,off,none⟩ else(⟨b,off,none⟩:Addr).add (l*u.size))) (h-l) (m-l)):=by
 have hll:List.length ((xs.drop l).take (h-l))=h-l:=by simp;omega
 simp only[RepV,Ty.isAgg]
 refine⟨_,rfl, ?_⟩
 rw[hll]
 have hr:RepL (Rep F u) ((xs.drop l).take (h-l)) ((cs.drop (l*u.size)).take ((h-l)*u.size)):=
  repL_take (fun x cs=>rep_len u x cs) _ _ _ (repL_drop (fun x cs=>rep_len u x cs) _ _ _ h2)
 by_cases hml:m=l
 ·rw[if_pos hml]
  have:h-l=0:=by omega
  refine .inr ⟨b,off,_,_,rfl,by omega,hr,fun i c hc=> ?_⟩
  rw[this] at hc;simp at hc
 ·rw[if_neg hml,addr_add]
  refine .inr ⟨b,off+l*u.size,_,_,rfl,by omega,hr,fun i c hc=> ?_⟩
  rw[Nat.add_assoc];exact h3 _ _ (take_drop_get hc)
theorem sound_slice (hI:In E B0 F ρ L w){t:TypeId}{X:Operand}{LO HI MX:Option Operand}{x:AV×Option Blk}{lo hi mx:Option AV}(hop:o.op= .slice t X LO HI MX)(hx:Arg F ρ L x (ev X))
 (hlo:OptRep F ρ L ev lo LO) (hhi:OptRep F ρ L ev hi HI) (hmx:OptRep F ρ L ev mx MX)
 (e:evalSlice E t x lo hi mx=some r) (hc:∀c,c∈r.cs→c):Does E.P o ev w (Post B0 F ρ L w r.v (r.L L)):=by
 obtain⟨a,b⟩:=x
 obtain⟨ha,hb⟩:=hx
 simp only at ha hb
 have noMx:mx=none→MX=none:=by
  intro h;subst h
  cases MX with
  |none=>rfl
  |some x=>exact hmx.elim
 have exArr:∀(n:Nat) (u:Ty) (bb off:Nat) (l h:Int),TyOk E.P (.arr n u) t→ev X= .pointer (some ⟨bb,off,none⟩)→MX=none→Bd 0 (LO.map ev) l→Bd n (HI.map ev) h→(0≤l∧l≤h∧h≤(n:Int))→
  (execOp ev o).run E.P w= .ok (.value (.slice (some (if n=l.toNat then⟨bb,off,none⟩ else(⟨bb,off,none⟩:Addr).add (l.toNat*u.size))) (h.toNat-l.toNat) (n-l.toNat))) w:=by
  intro n u bb off l h hty hv hm h1 h2 h3
  obtain⟨eid,g1,g2⟩:=hty.arr
  subst hm
  simp[execOp,hop,hv,Instr.sliceAt,Instr.sureAddr,run_underlying g1,run_sliceBounds false n n h1 h2 h3,run_sizeOf' g2]
 have exSlc:∀(u:Ty) (ad:Option Addr) (len cap:Nat) (l h:Int),TyOk E.P (.slc u) t→ev X= .slice ad len cap→MX=none→Bd 0 (LO.map ev) l→Bd len (HI.map ev) h→(0≤l∧l≤h∧h≤(cap:Int))→
  (execOp ev o).run E.P w= .ok (.value (.slice (if cap=l.toNat then ad else ad.map (·.add (l.toNat*u.size))) (h.toNat-l.toNat) (cap-l.toNat))) w:=by
  intro u ad len cap l h hty hv hm h1 h2 h3
  obtain⟨eid,g1,g2⟩:=hty.slc
  subst hm
  simp[execOp,hop,hv,Instr.sliceAt,Instr.slice,run_underlying g1,run_sliceBounds true len cap h1 h2 h3,run_sizeOf' g2]
 unfold evalSlice at e
 simp only at e
 split at e
 ·
  rename_i n u k root path blk ht
  have hm:=noMx rfl
  split at e
  ·cases e
  rename_i hcc
  simp only[ne_eq,not_or,Classical.not_not,Bool.not_eq_true] at hcc
  obtain⟨hc1,hrow⟩:=hcc
  have hty:=hI.env.ty _ _ ht
  obtain⟨k',hk',hL⟩:=blkL_some hb
  cases hk'
  obtain⟨rfl,hok,bb,cap,u',off,h1,h2,h3⟩:=repAV_ptr.1 ha blk hL
  rw[h2] at hc1
  simp at hc1;subst hc1
  have lc:∀c,lcap blk.row path blk.len c n=(n,n):=fun c=>by simp only[lcap,hrow,Bool.false_eq_true,if_false]
  split at e
  ·cases e
   have lo0:LO=none:=by cases LO with|none=>rfl|some _=>exact hlo.elim
   have hi0:HI=none:=by cases HI with|none=>rfl|some _=>exact hhi.elim
   have:=exArr n u bb (cap.2+off) 0 n hty h3 hm (.inl ⟨by rw[lo0];rfl,rfl⟩) (.inl ⟨by rw[hi0];rfl,rfl⟩) ⟨by omega,by omega,by omega⟩
   refine does_pure hI this ?_ rfl
   refine repAV_whole.2 (fun blk' hL'=> ?_)
   rw[hL] at hL';cases hL'
   refine⟨rfl,hok,.inr ⟨bb,cap,n,u,off,h1,h2, ?_⟩⟩
   rw[lc];simp[addr_add]
  ·split at e
   ·rename_i l h e1 e2
    cases e
    have hb3:=one_mem hc
    have:=exArr n u bb (cap.2+off) l h hty h3 hm (bd_of hlo e1) (bd_of hhi e2) hb3
    refine does_pure hI this ?_ rfl
    refine repAV_sub.2 (fun blk' hL'=> ?_)
    rw[hL] at hL';cases hL'
    refine⟨rfl,hok,.inr ⟨bb,cap,n,u,off,if n=l.toNat then cap.2+off else cap.2+off+l.toNat*u.size,h1,h2, ?_, ?_, ?_⟩⟩
    ·rw[lc];split<;>simp[addr_add]
    ·rw[lc];simp only;omega
    ·rw[lc];intro hne;simp only at hne;rw[if_neg hne]
   ·cases e
 ·
  rename_i n u ww xs ht
  have hm:=noMx rfl
  split at e
  ·rename_i xs' e1
   have:=TV.as_eq e1
   cases this
   have hty:=hI.env.ty _ _ ht
   obtain⟨bb,off,cs,hv,⟨h1,h1'⟩,h2⟩:=repAV_cptr.1 ha
   split at e
   ·cases e
    have lo0:LO=none:=by cases LO with|none=>rfl|some _=>exact hlo.elim
    have hi0:HI=none:=by cases HI with|none=>rfl|some _=>exact hhi.elim
    have:=exArr n u bb off 0 n hty hv hm (.inl ⟨by rw[lo0];rfl,rfl⟩) (.inl ⟨by rw[hi0];rfl,rfl⟩) ⟨by omega,by omega,by omega⟩
    refine does_pure hI this ?_ rfl
    have sp:=slc_part (l:=0) (h:=n) (m:=n) h1 (Nat.le_refl _) h1' h2 (by omega) (by omega) (by omega)
    simp only[List.drop_zero,Nat.sub_zero] at sp
    rw[List.take_of_length_le (by omega)] at sp
    exact repAV_val.2 (by simpa using sp)
   ·split at e
    ·rename_i l h e1 e2
     cases e
     have hb3:=one_mem hc
     have:=exArr n u bb off l h hty hv hm (bd_of hlo e1) (bd_of hhi e2) hb3
     refine does_pure hI this ?_ rfl
     exact repAV_val.2 (slc_part h1 (Nat.le_refl _) h1' h2 (by omega) (by omega) (by omega))
    ·cases e
  ·cases e
 ·
  rename_i u ww xs ht
  have hm:=noMx rfl
  split at e
  ·rename_i xs' e1
   have:=TV.as_eq e1
   cases this
   have hty:=hI.env.ty _ _ ht
   split at e
   ·rename_i l h e1 e2
    cases e
    have hb3:=one_mem hc
    rw[repAV_val] at ha
    obtain⟨v,hv,hs⟩:=ha
    simp at hv
    rcases hs with⟨⟨oo,rfl⟩,h1,_⟩|⟨bb,off,cap,cs,rfl,h1,h2,h3⟩
    ·have:=exSlc u oo 0 0 l h hty hv hm (bd_of hlo e1) (by rw[←h1];exact bd_of hhi e2) (by omega)
     refine does_pure hI this ?_ rfl
     have hx:xs'=[]:=List.eq_nil_of_length_eq_zero h1
     subst hx
     refine repAV_val.2 ?_
     simp only[RepV,Ty.isAgg]
     have h0:h.toNat-l.toNat=0:=by omega
     exact⟨_,rfl,.inl ⟨⟨if(0:Nat)=l.toNat then oo else oo.map (·.add (l.toNat*u.size)),by rw[h0,Nat.zero_sub]⟩,by simp,by simp[RepL]⟩⟩
    ·have:=exSlc u (some ⟨bb,off,none⟩) (List.length xs') cap l h hty hv hm (bd_of hlo e1) (bd_of hhi e2) (by omega)
     refine does_pure hI this ?_ rfl
     have sp:=slc_part (l:=l.toNat) (h:=h.toNat) (m:=cap) rfl h1 h2 h3 (by omega) (by omega) (by omega)
     refine repAV_val.2 ?_
     by_cases hm:cap=l.toNat
     ·rw[if_pos hm] at sp⊢;exact sp
     ·rw[if_neg hm] at sp⊢;exact sp
   ·cases e
  ·cases e
 ·
  rename_i u ww xs m ht
  split at e
  ·rename_i xs' e1
   have:=TV.as_eq e1
   cases this
   have hty:=hI.env.ty _ _ ht
   obtain⟨eid,g1,g2⟩:=hty.slc
   split at e
   ·rename_i l hv m' e1 e3
    split at e
    ·rename_i h e2
     cases e
     obtain⟨b1,b2,b3,b4⟩:=one_mem hc
     have hm2:∃MM km,MX=some MM∧ev MM= .int km m':=by
      cases MX with
      |none=>exact hmx.elim
      |some MM=>obtain⟨km,h⟩:=num_rep hmx e3;exact⟨MM,km,rfl,h⟩
     obtain⟨MM,km,rfl,hM2⟩:=hm2
     have hh2:∃HH kh,HI=some HH∧ev HH= .int kh h:=by
      cases HI with
      |none=>exact hhi.elim
      |some HH=>obtain⟨kh,h⟩:=num_rep hhi e2;exact⟨HH,kh,rfl,h⟩
     obtain⟨HH,kh,rfl,hH2⟩:=hh2
     rw[repAV_val] at ha
     obtain⟨v,hv,hs⟩:=ha
     simp at hv
     have run:∀(ad:Option Addr) (cap:Nat),ev X= .slice ad (List.length xs') cap→m'≤(cap:Int)→
      (execOp ev o).run E.P w= .ok (.value (.slice (if m'.toNat=l.toNat then ad else ad.map (·.add (l.toNat*u.size))) (h.toNat-l.toNat) (m'.toNat-l.toNat))) w:=by
      intro ad cap hv hcap
      simp[execOp,hop,hv,hM2,hH2,Instr.sliceAt,Instr.slice,run_underlying g1,run_sliceBounds3 (List.length xs') cap (bd_of hlo e1) ⟨b1,b2,by omega,hcap⟩,run_sizeOf' g2]
     have hll:List.length ((List.drop l.toNat xs').take (h.toNat-l.toNat))=h.toNat-l.toNat:=by simp;omega
     subst b3
     rcases hs with⟨⟨oo,rfl⟩,h1,_⟩|⟨bb,off,cap,cs,rfl,h1,h2,h3⟩
     ·have:=run oo 0 (by rw[h1];exact hv) (by omega)
      refine does_pure hI this ?_ rfl
      have hx:xs'=[]:=List.eq_nil_of_length_eq_zero h1
      subst hx
      have h0:h.toNat-l.toNat=0:=by omega
      exact repAV_nt rfl (.inl ⟨by simp,if h.toNat=l.toNat then oo else oo.map (·.add (l.toNat*u.size)),by rw[h0]⟩)
     ·have:=run (some ⟨bb,off,none⟩) cap hv (by omega)
      refine does_pure hI this ?_ rfl
      have hr:RepL (Rep F u) ((List.drop l.toNat xs').take (h.toNat-l.toNat)) ((cs.drop (l.toNat*u.size)).take ((h.toNat-l.toNat)*u.size)):=
       repL_take (fun x cs=>rep_len u x cs) _ _ _ (repL_drop (fun x cs=>rep_len u x cs) _ _ _ h2)
      refine repAV_nt rfl (.inr ⟨bb,if h.toNat=l.toNat then off else off+l.toNat*u.size,_, ?_,hr, ?_⟩)
      ·rw[hll];split<;>simp[addr_add]
      ·intro i c hc
       split
       ·rename_i heq
        rw[heq] at hc;simp at hc
       ·rw[Nat.add_assoc];exact h3 _ _ (take_drop_get hc)
    ·cases e
   ·cases e
  ·cases e
 ·
  rename_i u k root path blk ht
  have hm:=noMx rfl
  split at e
  ·rename_i m ww xs hg
   split at e
   ·cases e
   rename_i hw
   have hw:ww=u:=by simpa using hw
   subst hw
   split at e
   ·rename_i l h e1 e2
    cases e
    have hb3:=one_mem hc
    have hty:=hI.env.ty _ _ ht
    obtain⟨k',hk',hL⟩:=blkL_some hb
    cases hk'
    obtain⟨rfl,hok,hw⟩:=repAV_whole.1 ha blk hL
    rcases hw with⟨h1,h2,h3,h4,h5⟩|⟨bb,cap,n,u',off,h1,h2,h3⟩
    ·subst h3
     simp only[getP,Option.some.injEq] at hg
     have hl0:blk.len=List.length xs:=by cases blk;cases hg;rfl
     have:=exSlc _ none 0 0 l h hty h5 hm (bd_of hlo e1) (by rw[←h4,hl0];exact bd_of hhi e2) (by omega)
     refine does_pure hI this ?_ rfl
     refine repAV_sub.2 (fun blk' hL'=> ?_)
     rw[hL] at hL';cases hL'
     refine⟨rfl,hok,.inl ⟨h1,h2,rfl,h4,by omega,by omega, ?_⟩⟩
     have:h.toNat-l.toNat=0:=by omega
     simp[this]
    ·obtain⟨rfl,rfl,l1,l2,l3⟩:=own_list hI.rel hL (blkL_shut hb) h1 hok hg h2
     rw[l1] at h3
     have:=exSlc _ (some ⟨bb,cap.2+off,none⟩) _ _ l h hty h3 hm (bd_of hlo e1) (bd_of hhi e2) (by omega)
     refine does_pure hI this ?_ rfl
     refine repAV_sub.2 (fun blk' hL'=> ?_)
     rw[hL] at hL';cases hL'
     refine⟨rfl,hok,.inr ⟨bb,cap,_,_,off,if(lcap blk.row path blk.len cap m).2=l.toNat then cap.2+off else cap.2+off+l.toNat*u'.size,h1,h2, ?_,by omega, ?_⟩⟩
     ·split<;>simp[addr_add]
     ·intro hne;rw[if_neg hne]
   ·cases e
  ·cases e
 ·
  rename_i u k root path s ln blk ht
  have hm:=noMx rfl
  split at e
  ·rename_i m ww xs hg
   split at e
   ·cases e
   rename_i hw
   have hw:ww=u:=by simpa using hw
   subst hw
   split at e
   ·rename_i l h e1 e2
    cases e
    have hb3:=one_mem hc
    have hty:=hI.env.ty _ _ ht
    obtain⟨k',hk',hL⟩:=blkL_some hb
    cases hk'
    obtain⟨rfl,hok,hw⟩:=repAV_sub.1 ha blk hL
    rcases hw with⟨h1,h2,h3,h4,h5,h6,h7⟩|⟨bb,cap,n,u',off,off',h1,h2,h3,h4,h5⟩
    ·subst h6
     have:=exSlc _ none 0 0 l h hty h7 hm (bd_of hlo e1) (bd_of hhi e2) (by omega)
     refine does_pure hI this ?_ rfl
     refine repAV_sub.2 (fun blk' hL'=> ?_)
     rw[hL] at hL';cases hL'
     refine⟨rfl,hok,.inl ⟨h1,h2,h3,h4,by omega,by omega, ?_⟩⟩
     have:h.toNat-l.toNat=0:=by omega
     simp[this]
    ·have hu:u'=ww∧m=n:=by
      obtain⟨q1,q2,_⟩:=own_list hI.rel hL (blkL_shut hb) h1 hok hg h2
      exact⟨q1,q2⟩
     obtain⟨rfl,rfl⟩:=hu
     have:=exSlc _ (some ⟨bb,off',none⟩) _ _ l h hty h3 hm (bd_of hlo e1) (bd_of hhi e2) (by omega)
     refine does_pure hI this ?_ rfl
     refine repAV_sub.2 (fun blk' hL'=> ?_)
     rw[hL] at hL';cases hL'
     refine⟨rfl,hok,.inr ⟨bb,cap,_,_,off,if(lcap blk.row path blk.len cap m).2-s=l.toNat then off' else off'+l.toNat*u'.size,h1,h2, ?_,by omega, ?_⟩⟩
     ·rw[Nat.sub_sub];split<;>simp[addr_add]
     ·intro hne
      rw[if_neg (by omega),h5 (by omega),Nat.add_mul,Nat.add_assoc]
   ·cases e
  ·cases e
 ·cases e
theorem deepV_len {t:Ty}{x:List t.den}{v:Value}(h:RepV F (.slc t) x v):∃ad cap,v= .slice ad x.length cap:=by
 simp only[RepV,Ty.isAgg] at h
 obtain⟨u,hu,hs⟩:=h
 simp at hu;subst hu
 rcases hs with⟨⟨oo,rfl⟩,h1,_⟩|⟨bb,off,cap,cs,rfl,_⟩
 ·exact⟨oo,0,by rw[h1]⟩
 ·exact⟨_,_,rfl⟩
theorem sound_len (hI:In E B0 F ρ L w){c:Call}{X:Operand}{x:AV×Option Blk}(hop:o.op= .call c)(hcal:c.callee= .builtin .len)(hargs:c.args= #[X])(hx:Arg F ρ L x (ev X))
 (e:evalLen ((c.argTypes[0]?).bind E.ty) x.1 x.2=some r) (hc:∀c,c∈r.cs→c):Does E.P o ev w (Post B0 F ρ L w r.v (r.L L)):=by
 obtain⟨a,b⟩:=x
 obtain⟨ha,hb⟩:=hx
 simp only at ha hb e
 have hat:∀t,(c.argTypes[0]?).bind E.ty=some t→∃id,c.argTypes[0]? =some id∧TyOk E.P t id:=by
  intro t ht
  cases hq:c.argTypes[0]? with
  |none=>rw[hq] at ht;cases ht
  |some id=>rw[hq] at ht;exact⟨id,rfl,hI.env.ty _ _ ht⟩
 have run:∀id v,c.argTypes[0]? =some id→(Builtin.len_ c.argTypes o.type #[ev X]).run E.P w= .ok v w→(execOp ev o).run E.P w= .ok (.value v) w:=by
  intro id v _ h
  simp[execOp,hop,resolve,hcal,hargs,invoke,builtin,h]
 unfold evalLen at e
 split at e
 ·rename_i n u ht
  cases e
  obtain⟨id,h1,h2⟩:=hat _ ht
  obtain⟨eid,g1,g2⟩:=h2.arr
  refine does_pure hI (run id (.int .i64 n) h1 ?_) (repAV_int.2 rfl) rfl
  simp only[Builtin.len_,h1]
  simp[run_underlying g1,goInt]
 ·rename_i ht
  split at e
  ·rename_i s
   cases e
   obtain⟨id,h1,h2⟩:=hat _ ht
   rw[repAV_str] at ha
   refine does_pure hI (run id (.int .i64 _) h1 ?_) (repAV_int.2 rfl) rfl
   simp only[Builtin.len_,h1]
   simp[run_underlying h2.str,ha,goInt]
  ·cases e
 ·rename_i u ht
  obtain⟨id,h1,h2⟩:=hat _ ht
  obtain⟨eid,g1,g2⟩:=h2.slc
  split at e
  rename_i k root p off len blk
  cases e
  obtain⟨k',hk',hL⟩:=blkL_some hb
  cases hk'
  obtain⟨_,_,hw⟩:=repAV_sub.1 ha blk hL
  have hv:∃ad cap,ev X= .slice ad len cap:=by
   rcases hw with⟨_,_,_,_,_,h6,h7⟩|⟨bb,cap,n,u',off,off',_,_,h3,_⟩
   ·exact⟨none,0,by rw[h7,h6]⟩
   ·exact⟨_,_,h3⟩
  obtain⟨ad,cap,hv⟩:=hv
  refine does_pure hI (run id (.int .i64 _) h1 ?_) (repAV_int.2 rfl) rfl
  simp only[Builtin.len_,h1]
  simp[run_underlying g1,hv,goInt]
  split at e
  ·rename_i xs cs e1
   cases e
   have:=deepV_sound (E:=false) hI.rel ha hb e1 hc
   obtain⟨ad,cap,hv⟩:=deepV_len this
   refine does_pure hI (run id (.int .i64 _) h1 ?_) (repAV_int.2 rfl) rfl
   simp only[Builtin.len_,h1]
   simp[run_underlying g1,hv,goInt]
  ·cases e
 ·cases e
theorem repL_ints {k:IntKind}:∀(xs:List Int) (cs:List Value),RepL (Rep F (.int k)) xs cs↔cs=xs.map (Value.int k):=by
 intro xs
 induction xs with
 |nil=>intro cs;simp[RepL]
 |cons x xs ih=>
  intro cs
  constructor
  ·rintro⟨c1,c2,rfl,h1,h2⟩
   rw[ih] at h2
   cases h1
   simp[h2]
  ·rintro rfl
   exact⟨[.int k x],xs.map (Value.int k),by simp,rfl,(ih _).2 rfl⟩
theorem sound_mark (hI:In E B0 F ρ L w){s eid:TypeId}{X:Operand}{k:Nat}{root:Ty}{blk:Blk}{xs:List Int}{cs:List Prop}(hop:o.op= .convert s s X)(h2:E.P.underlying s=some (.slice eid))
 (h3:E.P.underlying eid=some (.int .u8)) (ha:RepAV F ρ L (.whole k root []) (ev X)) (hL:L k=some (some blk)) (hr:RepV F (.slc (.int .u8)) xs (ev X)) (hpos:0<List.length xs):
 Does E.P o ev w (Post B0 F ρ L w (.val (.slc (.int .u8)) xs) ((⟨cs,.val (.slc (.int .u8)) xs,[],[],[k]⟩:Res).L L)):=by
 have hLk:(⟨cs,.val (.slc (.int .u8)) xs,[],[],[k]⟩:Res).L L=upd L k (some none):=by
  funext n
  simp only[Res.L,look,upd]
  by_cases h:n=k<;>simp[h]
 rw[hLk]
 obtain⟨hrt,hok,hw⟩:=repAV_whole.1 ha _ hL
 have hr':=hr
 simp only[RepV,Ty.isAgg] at hr
 obtain⟨v,hv,hsl⟩:=hr
 simp at hv
 rcases hsl with⟨_,hn,_⟩|⟨bb,off,cap,cl,hv2,_⟩
 ·omega
 rw[←hv] at hv2
 rcases hw with⟨_,_,_,_,h5⟩|⟨b,cap',n,u,off',hρ,hnav,hv3⟩
 ·rw[h5] at hv2;cases hv2
 rw[←hrt] at hnav
 obtain⟨c,e,fr,hd,cs1,rest,hB,hH,_⟩:=hI.rel.live0 hL hρ (notMap_nav hnav)
 have hsh:w.shape? b=some (e,c.size):=by unfold World.shape?;rw[hH]
 have hother:∀j,j≠b→(w.freeze ⟨b,c.size,none⟩ 1).heap[j]? =w.heap[j]? :=by
  intro j hj
  simp[World.freeze,Array.getElem?_modify,Ne.symm hj]
 have hsame:∃fr',(w.freeze ⟨b,c.size,none⟩ 1).heap[b]? =some (.cells c e fr'):=by
  obtain⟨lo,hi⟩:=fr
  simp[World.freeze,Array.getElem?_modify,hH]
 have hcell:∀j i,cellAt (w.freeze ⟨b,c.size,none⟩ 1).heap j i=cellAt w.heap j i:=by
  intro j i
  by_cases hj:j=b
  ·subst hj
   obtain⟨fr',h⟩:=hsame
   simp[cellAt,h,hH]
  ·simp[cellAt,hother _ hj]
 refine does_ok (v:=ev X) (w':=w.freeze ⟨b,c.size,none⟩ 1) ?_ ⟨F,ρ,repAV_nt rfl ⟨ev X,rfl,hr'⟩,⟨?_, ?_, ?_, ?_⟩,FH.le.rfl,fun _ _=>rfl,LLe.kill k, ?_⟩
 ·rw[hv3]
  simp[execOp,hop,hv3,convert,run_underlying h2,run_underlying h3,markStringish,hsh]
 ·intro j i v h
  rw[hcell];exact hI.rel.cons _ _ _ h
 ·intro k1 blk1 e1
  by_cases hk:k1=k
  ·subst hk;rw[upd_same] at e1;cases e1
  ·rw[upd_ne _ _ hk] at e1
   have hne:∀b2 c2,ρ k1=some (b2,c2)→b2≠b:=fun b2 c2 g1 h=>by subst h;exact hk (hI.rel.inj _ _ _ _ _ _ _ e1 hL g1 hρ)
   rcases hI.rel.blk _ _ e1 with h|⟨b2,cap2,c2,e2,fr2,hd2,cs2,rest2,g1,g2,g3,g4⟩|⟨K,V,ys,hm⟩
   ·exact .inl h
   ·exact .inr (.inl ⟨b2,cap2,c2,e2,fr2,hd2,cs2,rest2,g1,g2,by rw[hother _ (hne _ _ g1)];exact g3,g4⟩)
   ·exact .inr (.inr ⟨K,V,ys,hm.mono FH.le.rfl (fun b2 cap es clock g1 h3=>by rw[hother _ (hne _ _ g1)];exact h3)⟩)
 ·exact(hI.rel.kill k).inj
 ·intro kb blk' e1 p kk hm
  obtain⟨g1,g2⟩:=(hI.rel.kill k).lnk kb blk' e1 p kk hm
  exact⟨g1,fun b' cap' e2=>(g2 b' cap' e2).ext FH.le.rfl LLe.same g1 (hcell b')⟩
 ·refine⟨rfl,rfl,rfl, ?_,fun j hj=>hother _ (fun e=>hj (e▸hB))⟩
  simp[World.freeze]
theorem sound_convert (hI:In E B0 F ρ L w){s d:TypeId}{X:Operand}{x:AV×Option Blk}(hop:o.op= .convert s d X)(hx:Arg F ρ L x (ev X))
 (hnew:∀p,p∈r.new→L p.1=none) (e:evalConvert (s==d) (E.ty s) (E.ty d) E.fz o.dst x.1 x.2=some r) (hc:∀c,c∈r.cs→c):Does E.P o ev w (Post B0 F ρ L w r.v (r.L L)):=by
 obtain⟨a,b⟩:=x
 obtain⟨ha,hb⟩:=hx
 simp only at ha hb e
 unfold evalConvert at e
 split at e
 ·rename_i k1 k hs hd
  split at e
  ·rename_i k2 n
   cases e
   have h1:=(hI.env.ty _ _ hs).int
   have h2:=(hI.env.ty _ _ hd).int
   rw[repAV_int] at ha
   refine does_pure hI (v:= .int k (k.wrap n)) ?_ (repAV_int.2 rfl) rfl
   simp[execOp,hop,ha,convert,run_underlying h1,run_underlying h2,Conv.intToInt]
  ·cases e
 ·rename_i hs hd
  split at e
  ·rename_i s' dk hdk
   cases e
   have h1:=(hI.env.ty _ _ hs).str
   obtain⟨eid,h2,h3⟩:=(hI.env.ty _ _ hd).slc
   rw[repAV_str] at ha
   have hk:L dk=none:=hnew _ (List.mem_singleton.2 rfl)
   have hrun:=run_bytes_of_string (P:=E.P) w s d eid s' h1 h2 h3.int
   have hcap:ByteArray.size s'≤grownCap w (ByteArray.size s') 0 eid:=by unfold grownCap;simp[Question.cut]
   generalize hC:grownCap w (ByteArray.size s') 0 eid=cap at hrun hcap
   have hsz:(bytesRow s' cap).size=cap:=by
    have:s'.data.size=ByteArray.size s':=rfl
    simp[bytesRow];omega
   have hl:(bytesRow s' cap).toList=((ByteArray.toList s').map fun(c:UInt8)=>((c.toNat:Nat):Int)).map (Value.int .u8)++List.replicate (cap-ByteArray.size s') (.int .u8 0):=by
    rw[toList_eq];simp[bytesRow]
   rw[L_new]
   have hlen:((ByteArray.toList s').map fun(c:UInt8)=>((c.toNat:Nat):Int)).length=ByteArray.size s':=by rw[toList_eq];simp
   obtain⟨F',f1,f2,f3⟩:=hI.rel.fresh (k:=dk) hk (blk:=⟨true,.arr 0 (.int .u8),((ByteArray.toList s').map fun(c:UInt8)=>((c.toNat:Nat):Int):List Int),E.fz dk,[]⟩) (e:=eid)
    (fr:=((bytesRow s' cap).size,(bytesRow s' cap).size+1)) (cap:=cap) (c:=bytesRow s' cap) (fun i hi=>by omega) hl
    (by simp only[RepC,if_true];exact⟨(repL_ints _ _).2 rfl,by simp[hsz,Ty.size],by rw[hlen];exact hcap⟩) hI.size rfl
   refine does_ok (v:= .slice (some ⟨w.heap.size,0,none⟩) (ByteArray.size s') cap) (w':=w.drew.alloc (.cells (bytesRow s' cap) eid ((bytesRow s' cap).size,(bytesRow s' cap).size+1))) ?_ ⟨F',_, ?_,f3,f1,fun b hb=>f2 b (Nat.lt_of_not_le (fun h=>hb (hI.size b h))),LLe.fresh hk _ _, ?_⟩
   ·simp only[execOp,hop,ha,Sem.run_bind,hrun,Result.andThen_ok,Sem.run_pure]
   ·refine repAV_whole.2 (fun blk hL=> ?_)
    rw[upd_same] at hL
    cases hL
    refine⟨rfl, ?_,.inr ⟨w.heap.size,(cap,0),0,.int .u8,0,by rw[upd_same],rfl, ?_⟩⟩
    ·simp[okB]
    ·simp only[lcap,List.isEmpty_nil,Bool.and_self,if_true,Blk.len,lenT]
     rw[hlen]
   ·exact((Kept.refl _ _).drew).alloc hI.size _
  ·cases e
 ·rename_i hs hd
  split at e
  ·rename_i xs cs e1
   cases e
   obtain⟨eid,h2,h3⟩:=(hI.env.ty _ _ hs).slc
   have h1:=(hI.env.ty _ _ hd).str
   have hr:=deepV_sound (E:=false) hI.rel ha hb e1 hc
   simp only[RepV,Ty.isAgg] at hr
   obtain⟨v,hv,hsl⟩:=hr
   simp at hv;subst hv
   rcases hsl with⟨hv,hn,_⟩|⟨bb,off,cap,cl,hv,_,hl,hF⟩
   ·have hx:xs=[]:=List.eq_nil_of_length_eq_zero hn
    subst hx
    refine does_pure hI (v:= .string ByteArray.empty) ?_ (repAV_str.2 rfl) rfl
    obtain⟨oo,hv⟩:=hv
    have:(convert s d (.slice oo 0 0)).run E.P w= .ok (.string ByteArray.empty) w:=by
     cases oo with
     |none=>exact run_convert_bytes_nil (P:=E.P) w s eid h2 h3.int 0 0 d h1
     |some ad=>
      have hl:=run_loadCells_list (P:=E.P) w ad [] (fun j v hj=>by simp at hj)
      rw[run_convert_bytes_string w s d eid _ 0 0 h2 h3.int h1]
      simp only[List.length_nil] at hl
      simp[Conv.bytesToString,hl]
    simp[execOp,hop,hv,this]
   ·have hcl:=(repL_ints (F:=full w.heap) (k:= .u8) xs cl).1 hl
    have:=run_convert_bytes_arg (P:=E.P) w s eid h2 h3.int bb off (List.length xs) cap xs rfl (fun i hi=>by
     rw[cell?_eq]
     have:=hF i (.int .u8 (List.getD xs i 0)) (by rw[hcl];simp[List.getD,List.getElem?_eq_getElem hi])
     exact this) d h1
    refine does_pure hI (v:= .string (strOfNums xs)) ?_ (repAV_str.2 rfl) rfl
    simp[execOp,hop,hv,this]
  ·cases e
 ·rename_i hs hd
  split at e
  ·rename_i k root xs cs hsame e1
   cases e
   obtain⟨c1,c2⟩:=mem2 hc
   have hpos:0<List.length xs:=one_mem c2
   obtain⟨eid,h2,h3⟩:=(hI.env.ty _ _ hd).slc
   have hr:=deepV_sound (E:=true) hI.rel ha hb e1 c1
   have hsd:s=d:=by simpa using hsame
   subst hsd
   cases b with
   |none=>simp[deepV] at e1
   |some blk=>
   obtain⟨k',hk',hL⟩:=blkL_some hb
   cases hk'
   exact sound_mark hI hop h2 h3.int ha hL hr hpos
  ·cases e
 ·cases e
theorem sound_toArr (hI:In E B0 F ρ L w){t:TypeId}{X:Operand}{x:AV×Option Blk}(hop:o.op= .sliceToArrayPointer t X)(hx:Arg F ρ L x (ev X))
 (e:evalToArr (E.ty t) x.1 x.2=some r) (hc:∀c,c∈r.cs→c):Does E.P o ev w (Post B0 F ρ L w r.v (r.L L)):=by
 obtain⟨a,b⟩:=x
 obtain⟨ha,hb⟩:=hx
 simp only at ha hb e
 unfold evalToArr at e
 split at e
 ·rename_i n u ht
  split at e
  ·cases e
  rename_i hn0
  split at e
  ·rename_i xs cs e1
   cases e
   obtain⟨c1,c2⟩:=mem2 hc
   have hn:n≤List.length xs:=one_mem c2
   obtain⟨eid,g1,g2⟩:=(hI.env.ty _ _ ht).arr
   have hr:=deepV_sound (E:=true) hI.rel ha hb e1 c1
   simp only[RepV,Ty.isAgg,if_true] at hr
   obtain⟨v,hv,hsl⟩:=hr
   simp at hv;subst hv
   rcases hsl with⟨hv,hz,_⟩|⟨bb,off,cap,cl,hv,_,hl,hF⟩
   ·omega
   ·have hlen:¬List.length xs<n:=by omega
    refine does_pure hI (v:= .pointer (some ⟨bb,off,none⟩)) ?_ ?_ rfl
    ·simp[execOp,hop,hv,Instr.arrayAt,run_underlying g1,hlen]
    ·refine repAV_cptr.2 ⟨bb,off,cl.take (n*u.size),rfl,⟨by simp;omega,repL_take (fun x cs=>rep_len u x cs) _ _ _ hl⟩,fun i c hc=> ?_⟩
     rw[List.getElem?_take] at hc
     split at hc
     ·exact hF i c hc
     ·cases hc
  ·cases e
 ·cases e
theorem sound_mm (hI:In E B0 F ρ L w){c:Call}{X Y:Operand}{x y:AV}{mx:Bool}(hop:o.op= .call c)(hcal:c.callee= .builtin (if mx then .max else .min))(hargs:c.args= #[X,Y])
 (hx:RepAV F ρ L x (ev X)) (hy:RepAV F ρ L y (ev Y)) (e:evalMM mx x y=some r):Does E.P o ev w (Post B0 F ρ L w r.v (r.L L)):=by
 unfold evalMM at e
 split at e
 ·rename_i k a k' b
  split at e
  ·rename_i hk;subst hk
   cases e
   rw[repAV_int] at hx hy
   refine does_pure hI (v:= .int k _) ?_ (repAV_int.2 rfl) rfl
   cases mx<;>simp[execOp,hop,resolve,hcal,hargs,invoke,builtin,Builtin.min_,Builtin.max_,Builtin.min2,Builtin.max2,hx,hy]
  ·cases e
 ·cases e
theorem sound_assign (hI:In E B0 F ρ L w){X:Operand}{x:AV}{b:Option Blk}(hop:o.op= .assign X)(hx:RepAV F ρ L x (ev X))
 (e:evalOp E (.assign X) o.type o.dst [(x,b)]=some r):Does E.P o ev w (Post B0 F ρ L w r.v (r.L L)):=by
 simp only[evalOp] at e
 split at e
 ·rename_i v
  split at e
  ·rename_i t ht
   split at e
   ·rename_i y hy
    cases e
    have hv:ev X=v:=by have:=repA_nt hx rfl;simpa[RepA] using this
    refine does_pure hI (v:=ev X) (by simp[execOp,hop]) ?_ rfl
    rw[hv];exact repAV_val.2 (rawV_rep hy)
   ·cases e
  ·cases e
 ·exact sound_move hI (.inr hop) hx e
theorem sound_nilCheck (hI:In E B0 F ρ L w){X:Operand}{x:AV×Option Blk}(hop:o.op= .nilCheck X)(hx:Arg F ρ L x (ev X))
 (e:evalOp E (.nilCheck X) o.type o.dst [x]=some r):Does E.P o ev w (Post B0 F ρ L w r.v (r.L L)):=by
 obtain⟨a,b⟩:=x
 obtain⟨ha,hb⟩:=hx
 simp only at ha hb
 simp only[evalOp] at e
 split at e
 ·rename_i k root path blk
  cases e
  obtain⟨k',hk',hL⟩:=blkL_some hb
  cases hk'
  obtain⟨_,_,bb,cap,u',off,_,_,h3⟩:=repAV_ptr.1 ha blk hL
  refine does_pure hI (v:=ev X) ?_ ha rfl
  simp[execOp,hop,h3]
 ·cases e
  obtain⟨bb,off,cs,hv,_⟩:=repAV_cptr.1 ha
  refine does_pure hI (v:=ev X) ?_ ha rfl
  simp[execOp,hop,hv]
 ·cases e
  obtain⟨v,hv,_⟩:=repAV_val.1 ha
  simp only[List.cons.injEq,and_true] at hv
  refine does_pure hI (v:=ev X) ?_ ha rfl
  simp[execOp,hop,hv]
 ·cases e
end
end Lc
