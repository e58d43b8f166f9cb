/- The engine, part Oo: operations on structs with an open place. -/
import Derived.Test.YtlhdieoemhjjiaaGreatDoorEngNO
set_option linter.unusedVariables false
set_option linter.unusedSimpArgs false
namespace Lc
open Go Go.RowKit
section
variable {E : Env} {B0 : Nat → Prop} {F : FH} {ρ : RM} {L : HL} {w : World} {o : Oper} {ev : Operand → Value} {r : Res}
theorem isOpen_is {b:Blk}(h:b.isOpen=true):b.row=false∧b.fz=true∧b.lk≠[]:=by
 simp only[Blk.isOpen,Bool.and_eq_true,Bool.not_eq_true',List.isEmpty_eq_false_iff] at h
 exact⟨h.1,h.2.1,h.2.2⟩
theorem repC_false {cap:Cap}{n:Nat}{t:Ty}{x:t.den}{cs:List Value}(h:RepC F false cap n t x cs):Rep F t x cs∧n=cs.length∧cap.2=0:=by
 cases t<;>simp only[RepC,Bool.false_eq_true,if_false] at h<;>first|exact h|exact h.2
theorem HRel.open {H:Array Obj}(h:HRel F ρ L H B0){k:Nat}{blk:Blk}(hk:L k=some (some blk))(ho:blk.isOpen=true){p:List Stp}{kk:Nat}(hl:blk.lk=[(p,kk)]){b:Nat}{cap:Cap}(hr:ρ k=some (b,cap)):
 cap.2=0∧∃(c:Array Value) (e:TypeId) (fr:Nat×Nat) (u:Ty) (off:Nat) (v:Value),B0 b∧H[b]? =some (.cells c e fr)∧free fr c.size∧(∀i,F b i=none)∧fldOnly p=true∧blk.t.nav p=some (.slc u,off)∧
  c.toList[off]? =some v∧RepAV F ρ L (.whole kk (.arr 0 u) []) v∧(L kk).isSome∧Rep F blk.t blk.x (c.toList.set off (.slice none 0 0)):=by
 obtain⟨o1,o2,_⟩:=isOpen_is ho
 obtain⟨q1,q2⟩:=h.lnk k blk hk p kk (by rw[hl];exact List.mem_cons_self)
 obtain⟨f0,u,off,v,n1,n2,n3⟩:=q2 b cap hr
 rcases h.blk _ _ hk with g|⟨b',cap',c,e,fr,hd,cs,rest,g1,g2,g3,g4,g5,g6,g7⟩|⟨K,V,xs,g⟩
 ·rw[g] at hr;cases hr
 ·rw[g1] at hr;cases hr
  have hh:holes blk cs=cs.set off (.slice none 0 0):=by simp only[holes,ho,cond_true,hl,n1]
  rw[hh,o1] at g6
  obtain⟨r1,r2,r3⟩:=repC_false g6
  have hd0:hd=[]:=List.eq_nil_of_length_eq_zero (by rw[g5.1,r3])
  subst hd0
  have hcl:=g5.2.2
  simp only[List.nil_append] at hcl
  have hlen:=congrArg List.length hcl
  simp only[List.length_append,Array.length_toList,r2,List.length_set] at hlen
  have hr0:rest=[]:=List.eq_nil_of_length_eq_zero (by omega)
  subst hr0
  rw[List.append_nil] at hcl
  refine⟨r3,c,e,fr,u,off,v,g2,g3,g4,fun i=> ?_,f0,n1, ?_,n3,q1,by rw[hcl];exact r1⟩
  ·have:=g7 i
   rw[r3,Nat.zero_add] at this
   rw[this];simp[Blk.still,ho]
  ·simp only[cellAt,g3,r3,Nat.zero_add] at n2
   simpa using n2
 ·rw[g.row] at o1;cases o1
theorem sound_openLoad (hI:In E B0 F ρ L w){t:TypeId}{X:Operand}{k:Nat}{root:Ty}{path:List Stp}{blk:Blk}(hop:o.op= .load t X)(ha:RepAV F ρ L (.ptr k root path) (ev X))(hL:L k=some (some blk))(ho:blk.isOpen=true)
 (e:openLoad (E.ty t) path blk=some r):Does E.P o ev w (Post B0 F ρ L w r.v (r.L L)):=by
 obtain⟨rfl,hok,bb,cap,u',off,h1,h2,h3⟩:=repAV_ptr.1 ha blk hL
 unfold openLoad at e
 split at e
 ·rename_i t' p kk ht hlk
  obtain⟨hc0,c,eid,fr,u,offp,v,g1,g2,g3,g4,g5,g6,g7,g8,g9,g10⟩:=hI.rel.open hL ho hlk h1
  have hty:=hI.env.ty _ _ ht
  split at e
  ·rename_i hsp
   have:=samePath_eq _ _ hsp
   subst this
   split at e
   ·rename_i w1 hs
    have ht':t'= .slc w1:=by cases t'<;>simp[isSlc] at hs;rw[hs]
    subst ht'
    split at e
    ·rename_i hn
     cases e
     rw[g6] at hn h2
     simp at hn;subst hn
     cases h2
     have hl:=run_loadVar' hty w bb (cap.2+off) [v] rfl (fun i c' hc=>by
      have hi:i=0:=by have:=(List.getElem?_eq_some_iff.1 hc).1;simp at this;exact this
      subst hi
      simp at hc;subst hc
      simp only[cellAt,g2,hc0,Nat.zero_add,Nat.add_zero]
      simpa using g7)
     exact does_pure hI (v:=v) (by simp[execOp,hop,h3,Instr.loadAt,Instr.sureAddr,hl,mkV,Ty.isAgg]) g8 rfl
    ·cases e
   ·cases e
  ·rename_i hsp
   split at e
   ·cases e
   rename_i hcl
   have hcl:clash p path=false:=by simpa using hcl
   split at e
   ·rename_i u1 x1 hg
    split at e
    ·rename_i hu
     subst hu
     cases e
     have hrow:=(isOpen_is ho).1
     rw[hrow] at hok
     have hokT:okT blk.t path:=hok
     obtain⟨o2,n1,n2,n3⟩:=getP_rep _ _ _ _ g10 hokT _ hg
     rw[h2] at n1;cases n1
     have hap:=clash_apart blk.t p path _ _ _ _ hcl (fld_ok _ _ _ _ g5 g6) hokT g6 h2
     simp only[Ty.size] at hap
     have hl:=run_loadVar' hty w bb (cap.2+off) _ (rep_len _ _ _ n3) (fun i c' hc=>by
      have hc2:=take_drop_get hc
      have hi:i<u1.size:=by have:=(List.getElem?_eq_some_iff.1 hc).1;rw[rep_len _ _ _ n3] at this;exact this
      rw[List.getElem?_set_ne (by omega)] at hc2
      simp only[cellAt,g2,hc0,Nat.zero_add]
      simpa using hc2)
     exact does_pure hI (v:=mkV u1 _) (by simp[execOp,hop,h3,Instr.loadAt,Instr.sureAddr,hl]) (repAV_val.2 (repV_mk n3)) rfl
    ·cases e
   ·cases e
 ·cases e
theorem repC_of {cap:Cap}{n:Nat}{t:Ty}{x:t.den}{cs:List Value}(h:Rep F t x cs)(hn:n=cs.length)(hc:cap.2=0):RepC F false cap n t x cs:=by
 cases t<;>simp only[RepC,Bool.false_eq_true,if_false]<;>first|exact⟨h,hn,hc⟩|exact⟨rfl,h,hn,hc⟩|exact⟨trivial,h,hn,hc⟩
theorem openWrite (hI:In E B0 F ρ L w){t:TypeId}{X Y:Operand}(hop:o.op= .store t X Y){k:Nat}{blk:Blk}(hL:L k=some (some blk))(hr:blk.row=false){bb off:Nat}{cap:Cap}(h1:ρ k=some (bb,cap))(hc0:cap.2=0)
 (h3:ev X= .pointer (some ⟨bb,cap.2+off,none⟩)) {c:Array Value} {eid:TypeId} {fr:Nat×Nat} (g1:B0 bb) (g2:w.heap[bb]? =some (.cells c eid fr)) (g3:free fr c.size) (g4:∀i,F bb i=none)
 {t':Ty} (hty:TyOk E.P t' t) (lv:(ev Y).cells.size=t'.size) (hone:∀v,v∈(ev Y).cells.toList→v.oneCell'=true) (hle:off+t'.size≤c.size) {p:List Stp} {kk offp:Nat} {u:Ty} {v:Value} {z:blk.t.den} (f0:fldOnly p=true) (n1:blk.t.nav p=some (.slc u,offp))
 (hv:(putL c.toList off (ev Y).cells.toList)[offp]? =some v) (hw:RepAV F ρ L (.whole kk (.arr 0 u) []) v) (hk:(L kk).isSome) (hrep:Rep F blk.t z ((putL c.toList off (ev Y).cells.toList).set offp (.slice none 0 0)))
 (hx:∃cs,Rep F blk.t blk.x cs) (cs:List Prop):Does E.P o ev w (Post B0 F ρ L w .tnil ((⟨cs,.tnil,[],[(k,⟨false,blk.t,z,true,[(p,kk)]⟩)],[]⟩:Res).L L)):=by
 obtain⟨x0,hx0⟩:=hx
 have hst:=run_storeCells' E.P bb off eid fr (ev Y).cells.toList 0 c w g2 g3 (by simp;omega) hone
 have hsz:(putL c.toList off (ev Y).cells.toList).toArray.size=c.size:=by
  rw[List.size_toArray,putL_len (by simp;omega)];simp
 have hlen':(⟨false,blk.t,z,true,[(p,kk)]⟩:Blk).len=blk.len:=by
  simp only[Blk.len]
  exact lenT_var (repC_of (cap:=(0,0)) hrep rfl rfl) (repC_of (cap:=(0,0)) hx0 rfl rfl)
 have ho:(⟨false,blk.t,z,true,[(p,kk)]⟩:Blk).isOpen=true:=rfl
 obtain⟨F',f1,f2,f3⟩:=hI.rel.redoG (s:=false) (k':=k) (blk':=⟨false,blk.t,z,true,[(p,kk)]⟩) (c':=(putL c.toList off (ev Y).cells.toList).toArray) (hd:=[]) (cs:=c.toList) (rest:=[]) (cs':=putL c.toList off (ev Y).cells.toList) (rest':=[])
  hL (.inl ⟨rfl,rfl,hr.symm,hlen'⟩) h1 g2 g1 g3 ⟨by simp[hc0],fun _=>hc0,by simp⟩ (fun i=>by rw[g4];rfl) hsz (by simp)
  (by
    have:holes (⟨false,blk.t,z,true,[(p,kk)]⟩:Blk) (putL c.toList off (ev Y).cells.toList)=(putL c.toList off (ev Y).cells.toList).set offp (.slice none 0 0):=by
     simp only[holes,ho,cond_true,n1]
    rw[this]
    exact repC_of hrep (by simp) hc0)
  (fun h=>by cases h)
  (fun p' kk' hm=>by
    simp only[List.mem_singleton,Prod.mk.injEq] at hm
    obtain⟨rfl,rfl⟩:=hm
    exact⟨hk,f0,u,offp,v,n1,by rw[hc0,Nat.zero_add,List.getElem?_toArray];exact hv,hw⟩)
 rw[L_set]
 refine does_skip (w':={w with heap:=w.heap.setIfInBounds bb (.cells (putL c.toList off (ev Y).cells.toList).toArray eid fr)}) ?_ ⟨F',_, ?_,f3,f1,fun b hb=>f2 b (fun e=>hb (e▸g1)), ?_, ?_⟩
 ·simp only[Nat.add_zero] at hst
  simp[execOp,hop,h3,hc0,Instr.storeAt,Instr.sureAddr,storeVar,run_sizeOf' hty,lv,hst]
 ·simp only[RepAV,AV.isTup,if_true];exact⟨[],rfl,rfl⟩
 ·exact LLe.redo (blk':=⟨false,blk.t,z,true,[(p,kk)]⟩) hL (.inl ⟨rfl,rfl,hr.symm,hlen'⟩) h1
 ·refine⟨rfl,rfl,rfl,by simp,fun i hi=> ?_⟩
  show(w.heap.setIfInBounds bb _)[i]? =_
  have hne:bb≠i:=fun e=>hi (by rw[←e];exact g1)
  rw[Array.getElem?_setIfInBounds_ne hne]
theorem putL_one {l:List Value}{o:Nat}{v:Value}(h:o<l.length):(putL l o [v])[o]? =some v:=by
 unfold putL
 rw[List.append_assoc,List.getElem?_append_right (by simp;omega)]
 simp[Nat.min_eq_left (Nat.le_of_lt h)]
theorem putL_set {l:List Value}{o:Nat}{v a:Value}(h:o<l.length):(putL l o [v]).set o a=l.take o++[a]++l.drop (o+1):=by
 unfold putL
 rw[List.append_assoc,List.set_append_right _ _ (by simp;omega)]
 simp[Nat.min_eq_left (Nat.le_of_lt h)]
theorem putL_set_out {l vs:List Value}{o i:Nat}{a:Value}(h:o+vs.length≤l.length)(hi:i<o∨o+vs.length≤i):(putL l o vs).set i a=putL (l.set i a) o vs:=by
 apply List.ext_getElem?
 intro j
 by_cases hj:j=i
 ·subst hj
  rw[putL_out (by simpa using h) hi]
  by_cases hl:j<l.length
  ·rw[List.getElem?_set_self (by rw[putL_len h];exact hl),List.getElem?_set_self hl]
  ·rw[List.getElem?_eq_none (by rw[List.length_set,putL_len h];omega),List.getElem?_eq_none (by rw[List.length_set];omega)]
 ·rw[List.getElem?_set_ne (by omega)]
  unfold putL
  simp only[List.getElem?_append,List.length_append,List.length_take,List.length_set,List.getElem?_take,List.getElem?_drop]
  rw[List.getElem?_set_ne (by omega)]
  split
  ·rfl
  ·rw[List.getElem?_set_ne (by omega)]
theorem sound_openStore (hI:In E B0 F ρ L w){t:TypeId}{X Y:Operand}(hop:o.op= .store t X Y){k:Nat}{root:Ty}{path:List Stp}{blk:Blk}(ha:RepAV F ρ L (.ptr k root path) (ev X))(hL:L k=some (some blk))
 {a:AV} {b:Option Blk} (ha':RepAV F ρ L a (ev Y)) (hb':∀x,b=some x→some x=blkF L a) (hm:mask b=blkL L a) (e:openStore (E.ty t) k path blk a b=some r) (hc:∀c,c∈r.cs→c):
 Does E.P o ev w (Post B0 F ρ L w .tnil (r.L L)):=by
 obtain⟨rfl,hok,bb,cap,u',off,h1,h2,h3⟩:=repAV_ptr.1 ha blk hL
 unfold openStore at e
 split at e
 ·rename_i u kk w1 rb ht
  split at e
  ·rename_i hcnd
   obtain⟨rfl,hb⟩:=hcnd
   simp only[Bool.and_eq_true,Bool.not_eq_true'] at hb
   obtain⟨⟨⟨⟨⟨b1,b2⟩,b3⟩,b4⟩,b5⟩,b6⟩:=hb
   split at e
   ·rename_i z hz
    cases e
    have hty:=hI.env.ty _ _ ht
    obtain⟨k',hk',hLk⟩:=blkF_some (hb' rb rfl)
    cases hk'
    obtain⟨q1,q2,q3⟩:=repAV_whole.1 ha' rb hLk
    have hcells:(ev Y).cells.toList=[ev Y]:=by
     rcases q3 with⟨_,_,_,_,h5⟩|⟨_,_,_,_,_,_,_,h5⟩<;>rw[h5]<;>rfl
    have lv:(ev Y).cells.size=(Ty.slc w1).size:=by
     have:=congrArg List.length hcells
     simpa[Ty.size] using this
    have hone:∀v,v∈(ev Y).cells.toList→v.oneCell'=true:=by
     intro v hv
     rw[hcells,List.mem_singleton] at hv
     subst hv
     rcases q3 with⟨_,_,_,_,h5⟩|⟨_,_,_,_,_,_,_,h5⟩<;>rw[h5]<;>rfl
    rw[b3] at hok
    have hokT:okT blk.t path:=hok
    have key:cap.2=0∧∃(c:Array Value) (e:TypeId) (fr:Nat×Nat) (cs:List Value),B0 bb∧w.heap[bb]? =some (.cells c e fr)∧free fr c.size∧(∀i,F bb i=none)∧Rep F blk.t blk.x cs∧cs.length=c.size∧cs.take off=c.toList.take off∧cs.drop (off+1)=c.toList.drop (off+1):=by
     unfold mayOpen at b6
     split at b6
     ·rename_i ho
      split at b6
      ·rename_i p kp hlk
       have:=samePath_eq _ _ b6
       subst this
       obtain⟨hc0,c,eid,fr,u,offp,v,g1,g2,g3,g4,g5,g6,g7,g8,g9,g10⟩:=hI.rel.open hL ho hlk h1
       rw[h2] at g6
       cases g6
       refine⟨hc0,c,eid,fr,_,g1,g2,g3,g4,g10,by simp, ?_, ?_⟩
       ·rw[List.take_set_of_le (Nat.le_refl _)]
       ·rw[List.drop_set_of_lt (by omega)]
      ·cases b6
     ·rename_i ho
      simp only[Bool.and_eq_true,Bool.not_eq_true',List.isEmpty_iff] at b6
      have hno:blk.isOpen=false:=isOpen_fz b6.1
      obtain⟨c,eid,fr,hd,cl,rest,g1,g2,g3,g4,g5,g6⟩:=hI.rel.live hL h1 (by rw[b3];rfl) hno
      rw[b3] at g5
      obtain⟨r1,r2,r3⟩:=repC_false g5
      have hd0:hd=[]:=List.eq_nil_of_length_eq_zero (by rw[g4.1,r3])
      subst hd0
      have hcl:=g4.2.2
      simp only[List.nil_append] at hcl
      have hlen:=congrArg List.length hcl
      simp only[List.length_append,Array.length_toList,r2] at hlen
      have hr0:rest=[]:=List.eq_nil_of_length_eq_zero (by omega)
      subst hr0
      rw[List.append_nil] at hcl
      exact⟨r3,c,eid,fr,cl,g1,g2,g3,fun i=>by have:=g6 i;rw[r3,Nat.zero_add,b6.1] at this;exact this,r1,r2.symm,by rw[hcl],by rw[hcl]⟩
    obtain⟨hc0,c,eid,fr,cs,g1,g2,g3,g4,g5,g6,g7,g8⟩:=key
    obtain⟨o2,n1,n2,n3⟩:=setP_rep _ _ _ _ g5 hokT ⟨.slc w1,([]:List w1.den)⟩ z hz [.slice none 0 0] ⟨_,rfl,.inl ⟨⟨_,rfl⟩,rfl,rfl⟩⟩
    rw[h2] at n1
    cases n1
    have lc:=rep_len _ _ _ g5
    simp only[Ty.size] at n2 n3
    have hlt:off<c.toList.length:=by simp;omega
    refine openWrite hI hop hL b3 h1 hc0 h3 g1 g2 g3 g4 hty lv hone (by simp only[Ty.size];omega) b4 h2 (v:=ev Y) (by rw[hcells];exact putL_one hlt) ha' (by rw[hLk];rfl) ?_ ⟨_,g5⟩ []
    rw[hcells,putL_set hlt,←g7,←g8]
    exact n3
   ·cases e
  ·cases e
 ·rename_i t' ht _
  split at e
  ·rename_i p kk ho hlk
   split at e
   ·cases e
   rename_i hcl
   have hcl:clash p path=false:=by simpa using hcl
   split at e
   ·rename_i y cs e1
    split at e
    ·rename_i z hz
     cases e
     have hv:=deepV_sound (E:=true) hI.rel ha' hm e1 hc
     simp only[if_true] at hv
     have hvc:=repV_cells hv
     have hty:=hI.env.ty _ _ ht
     have lv:=rep_len _ _ _ hvc
     simp only[Array.length_toList] at lv
     obtain⟨hc0,c,eid,fr,u,offp,v,g1,g2,g3,g4,g5,g6,g7,g8,g9,g10⟩:=hI.rel.open hL ho hlk h1
     have b3:=(isOpen_is ho).1
     rw[b3] at hok
     have hokT:okT blk.t path:=hok
     obtain⟨o2,n1,n2,n3⟩:=setP_rep _ _ _ _ g10 hokT ⟨t',y⟩ z hz _ hvc
     rw[h2] at n1
     cases n1
     have lc:=rep_len _ _ _ g10
     simp only[List.length_set,Array.length_toList] at lc
     simp only at n2 n3
     have hap:=clash_apart blk.t p path _ _ _ _ hcl (fld_ok _ _ _ _ g5 g6) hokT g6 h2
     simp only[Ty.size] at hap
     refine openWrite hI hop hL b3 h1 hc0 h3 g1 g2 g3 g4 hty lv (rep_one _ _ _ hvc) (by omega) g5 g6 (v:=v) ?_ g8 g9 ?_ ⟨_,g10⟩ cs
     ·rw[putL_out (by simp;omega) (by simp only[Array.length_toList,lv];omega)];exact g7
     ·rw[putL_set_out (by simp;omega) (by simp only[Array.length_toList,lv];omega)]
      unfold putL
      rw[Array.length_toList,lv]
      exact n3
    ·cases e
   ·cases e
  ·cases e
 ·cases e
end
end Lc
