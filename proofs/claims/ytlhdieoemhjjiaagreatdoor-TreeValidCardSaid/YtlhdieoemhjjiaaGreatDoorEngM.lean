/- The engine, part M: append and copy. -/
import Derived.Test.YtlhdieoemhjjiaaGreatDoorEngL
set_option linter.unusedVariables false
set_option linter.unusedSimpArgs false
namespace Lc
open Go Go.RowKit
section
variable {E : Env} {B0 : Nat → Prop} {F : FH} {ρ : RM} {L : HL} {w : World} {o : Oper} {ev : Operand → Value} {r : Res}
structure Src (P:Program)(eid xt:TypeId)(size:Nat)(x:Value)(H:Array Obj)(n:Nat)(ds:List Value):Prop where
 len:ds.length=n*size
 run:(((∃e',P.underlying xt=some (.slice e'))∨P.underlying xt=some .string)∧(∀w',(Builtin.lenOf x).run P w'= .ok n w')∧(∀m w',m≤n→w'.heap=H→(Builtin.firstCells size m x).run P w'= .ok (ds.take (m*size)).toArray w'))
  ∨∃k k':IntKind,P.underlying xt=some (.int k)∧x= .int k' (n:Int)∧∃z:Value,(∀w',(zeroValue eid).run P w'= .ok z w')∧z.cells.size=size∧ds=(List.replicate n z.cells.toList).flatten
theorem zeroCells_list (z:Array Value)(n:Nat):Builtin.zeroCells z n=(List.replicate n z.toList).flatten.toArray:=by
 unfold Builtin.zeroCells;exact range_cycle' z n
theorem run_append_fit {P:Program}{st xt eid ty:TypeId}{u:Ty}{i:TypeInfo}(ht:P.underlying st=some (.slice eid))(hu:TyOk P u eid)(hi:P.info? eid=some i){x:Value}{n:Nat}{ds:List Value}
 (hs:Src P eid xt u.size x w.heap n ds) (hn:n≤2^46) (hb:n*i.bytes≤2^46) (base:Option Addr) (sLen sCap:Nat) (hroom:sLen+n≤sCap) (w':World)
 (hst:∀a,base=some a→(storeCells (a.add (sLen*u.size)) ds).run P w= .ok () w') (hst0:base=none→w'=w):
 (Builtin.append_ #[st,xt] ty #[.slice base sLen sCap,x]).run P w= .ok (.slice base (sLen+n) sCap) w':=by
 rcases hs.run with⟨h1,h2,h3⟩|⟨k,k',h1,h4,z,h2,h3,h5⟩
 ·have h3':=h3 n w (Nat.le_refl _) rfl
  rw[List.take_of_length_le (by rw[hs.len];exact Nat.le_refl _)] at h3'
  rcases h1 with⟨e',h1⟩|h1
  ·cases base with
   |none=>rw[hst0 rfl];simp[Builtin.append_,run_underlying ht,run_underlying h1,run_sizeOf' hu,h2,hroom,h3']
   |some a=>simp[Builtin.append_,run_underlying ht,run_underlying h1,run_sizeOf' hu,h2,hroom,h3',hst a rfl]
  ·cases base with
   |none=>rw[hst0 rfl];simp[Builtin.append_,run_underlying ht,run_underlying h1,run_sizeOf' hu,h2,hroom,h3']
   |some a=>simp[Builtin.append_,run_underlying ht,run_underlying h1,run_sizeOf' hu,h2,hroom,h3',hst a rfl]
 ·have wn:IntKind.i64.wrap (n:Int)=n:=by rw[IntKind.wrap_i64];omega
  have n1:¬((n:Int)<0):=by omega
  have n2:¬(281474976710656<(n:Int)*(i.bytes:Int)):=by
   have:((n*i.bytes:Nat):Int)≤2^46:=by exact_mod_cast hb
   rw[Int.natCast_mul] at this
   omega
  by_cases hz:n*u.size=0
  ·have hd:ds=[]:=List.eq_nil_of_length_eq_zero (by rw[hs.len];exact hz)
   subst hd
   cases base with
   |none=>rw[hst0 rfl];subst h4;simp[Builtin.append_,run_underlying ht,run_underlying h1,run_sizeOf' hu,asInt,asIntOf,wn,n1,run_typeInfo' hi,n2,hroom,hz]
   |some a=>
    have:=hst a rfl
    subst h4;simp[Builtin.append_,run_underlying ht,run_underlying h1,run_sizeOf' hu,asInt,asIntOf,wn,n1,run_typeInfo' hi,n2,hroom,hz,this]
  ·have hzc:=zeroCells_list z.cells n
   rw[←h5] at hzc
   cases base with
   |none=>rw[hst0 rfl];subst h4;simp[Builtin.append_,run_underlying ht,run_underlying h1,run_sizeOf' hu,asInt,asIntOf,wn,n1,run_typeInfo' hi,n2,hroom,h2]
   |some a=>
    have:=hst a rfl
    subst h4;simp[Builtin.append_,run_underlying ht,run_underlying h1,run_sizeOf' hu,asInt,asIntOf,wn,n1,run_typeInfo' hi,n2,hroom,hz,h2,hzc,this]
theorem run_append_grow {P:Program}{st xt eid ty:TypeId}{u:Ty}{i:TypeInfo}(ht:P.underlying st=some (.slice eid))(hu:TyOk P u eid)(hi:P.info? eid=some i){x:Value}{n:Nat}{ds:List Value}
 (hs:Src P eid xt u.size x w.heap n ds) (base:Option Addr) (sLen sCap:Nat) (hroom:¬sLen+n≤sCap) (hn:sLen+n≤2^46) (hb:(sLen+n)*i.bytes≤2^46) (old:List Value)
 (hold:(Builtin.firstCells u.size sLen (.slice base sLen sCap)).run P w.drew= .ok old.toArray w.drew):
 (Builtin.append_ #[st,xt] ty #[.slice base sLen sCap,x]).run P w= .ok (.slice (some ⟨w.heap.size,0,none⟩) (sLen+n) (grownCap w (sLen+n) sCap eid))
   (w.drew.alloc (.cells (old++ds++(List.replicate (grownCap w (sLen+n) sCap eid-(sLen+n)) (zeroCs u)).flatten).toArray eid)):=by
 obtain⟨z,z1,z2,z3⟩:=run_zeroValue' hu
 have hg:Builtin.nextslicecap (sLen+n) sCap*i.bytes≤281474976710656:=growslice_fits (by omega) (by omega)
 have hg':¬(281474976710656<Builtin.nextslicecap (sLen+n) sCap*i.bytes):=by omega
 have hbig:¬(9223372036854775807<(sLen:Int)+(n:Int)):=by omega
 have hz0:Builtin.zeroCells z.cells (grownCap w (sLen+n) sCap eid-(sLen+n))=(List.replicate (grownCap w (sLen+n) sCap eid-(sLen+n)) (zeroCs u)).flatten.toArray:=by
  rw[zeroCells_list,z3]
 have hmax:IntKind.i64.max=9223372036854775807:=rfl
 have hgc:(Question.appendCap (sLen+n) sCap eid).cut (w.tape w.drawn (.appendCap (sLen+n) sCap eid))=grownCap w (sLen+n) sCap eid:=rfl
 have hb0:n*i.bytes≤2^46:=Nat.le_trans (Nat.mul_le_mul_right _ (by omega)) hb
 rcases hs.run with⟨h1,h2,h3⟩|⟨k,k',h1,h4,zz,h2,h3,h5⟩
 ·have h3':=h3 n w.drew (Nat.le_refl _) rfl
  rw[List.take_of_length_le (by rw[hs.len];exact Nat.le_refl _)] at h3'
  rcases h1 with⟨e',h1⟩|h1
  ·simp[Builtin.append_,run_underlying ht,run_underlying h1,run_sizeOf' hu,h2,hroom,hmax,hbig,run_typeInfo' hi,hg',Question.forced,hgc,hold,h3',z1,hz0,newRow]
  ·simp[Builtin.append_,run_underlying ht,run_underlying h1,run_sizeOf' hu,h2,hroom,hmax,hbig,run_typeInfo' hi,hg',Question.forced,hgc,hold,h3',z1,hz0,newRow]
 ·have wn:IntKind.i64.wrap (n:Int)=n:=by rw[IntKind.wrap_i64];omega
  have n1:¬((n:Int)<0):=by omega
  have n2:¬(281474976710656<(n:Int)*(i.bytes:Int)):=by
   have:((n*i.bytes:Nat):Int)≤2^46:=by exact_mod_cast hb0
   rw[Int.natCast_mul] at this
   omega
  by_cases hz:n*u.size=0
  ·have hd:ds=[]:=List.eq_nil_of_length_eq_zero (by rw[hs.len];exact hz)
   subst hd;subst h4
   simp[Builtin.append_,run_underlying ht,run_underlying h1,run_sizeOf' hu,asInt,asIntOf,wn,n1,run_typeInfo' hi,n2,hroom,hz,hmax,hbig,hg',Question.forced,hgc,hold,z1,hz0,newRow]
  ·have hzc:=zeroCells_list zz.cells n
   rw[←h5] at hzc
   subst h4
   have hzz:zz=z:=by have a:=h2 w;rw[z1 w] at a;cases a;rfl
   subst hzz
   simp[Builtin.append_,run_underlying ht,run_underlying h1,run_sizeOf' hu,asInt,asIntOf,wn,n1,run_typeInfo' hi,n2,hroom,hz,hmax,hbig,hg',Question.forced,hgc,hold,z1,hzc,hz0,newRow]
theorem srcV_sound (hI:In E B0 F ρ L w){u:Ty}{eid xt:TypeId}{x:AV×Option Blk}{v:Value}(hu:TyOk E.P u eid)(hx:Arg F ρ L x v){ys:List u.den}{cs:List Prop}
 (e:srcV E u xt x.1 x.2=some (ys,cs)) (hc:∀c,c∈cs→c):∃ds,Src E.P eid xt u.size v w.heap ys.length ds∧RepL (Rep F u) ys ds:=by
 obtain⟨a,b⟩:=x
 obtain⟨ha,hb⟩:=hx
 simp only at ha hb e
 unfold srcV at e
 split at e
 ·rename_i k ht
  split at e
  ·rename_i k' n
   cases e
   have hn:=one_mem hc
   rw[repAV_int] at ha
   obtain⟨z,z1,z2,z3⟩:=run_zeroValue' hu
   refine⟨(List.replicate n.toNat (zeroCs u)).flatten,⟨by simp[zeroCs_len],.inr ⟨k,k',(hI.env.ty _ _ ht).int, ?_,z,z1, ?_, ?_⟩⟩,repL_replicate (hu.dflt F) _⟩
   ·rw[ha,List.length_replicate,Int.toNat_of_nonneg hn]
   ·rw[←Array.length_toList,z3,zeroCs_len]
   ·rw[z3,List.length_replicate]
  ·cases e
 ·rename_i ht
  split at e
  ·rename_i s
   split at e
   ·rename_i h
    subst h
    cases e
    rw[repAV_str] at ha
    have hl:((ByteArray.toList s).map fun(c:UInt8)=>((c.toNat:Nat):Int)).length=ByteArray.size s:=by rw[toList_eq];simp
    refine⟨((ByteArray.toList s).map fun(c:UInt8)=>((c.toNat:Nat):Int)).map (Value.int .u8),⟨by simp[Ty.size,castT],.inl ⟨.inr (hI.env.ty _ _ ht).str, ?_, ?_⟩⟩,(repL_ints _ _).2 rfl⟩
    ·intro w'
     rw[ha];simp only[Builtin.lenOf,Sem.run_pure];congr 1;exact hl.symm
    ·intro m w' _ _
     rw[ha]
     simp only[Builtin.firstCells,Sem.run_pure,Ty.size,Nat.mul_one]
     congr 1
     apply Array.ext'
     rw[toList_eq]
     simp
     rfl
   ·cases e
  ·cases e
 ·rename_i u' ht
  obtain⟨eid',g1,g2⟩:=(hI.env.ty _ _ ht).slc
  have fin:∀(G:FH),(∀b i c,G b i=some c→cellAt w.heap b i=some c)→RepV G (.slc u) ys v→∃ds,Src E.P eid xt u.size v w.heap ys.length ds∧RepL (Rep G u) ys ds:=by
   intro G hG hr
   simp only[RepV,Ty.isAgg] at hr
   obtain⟨v',hv,hs⟩:=hr
   simp at hv;subst hv
   rcases hs with⟨hv,hn,hl⟩|⟨bb,off,cap,cl,hv,hle,hl,hF⟩
   ·have hy:ys=[]:=List.eq_nil_of_length_eq_zero hn
    subst hy
    obtain⟨oo,hv⟩:=hv
    cases oo with
    |none=>exact⟨[],⟨by simp,.inl ⟨.inl ⟨_,g1⟩,fun w'=>by rw[hv];rfl,fun m w' _ _=>by rw[hv];simp[Builtin.firstCells]⟩⟩,rfl⟩
    |some ad=>
     refine⟨[],⟨by simp,.inl ⟨.inl ⟨_,g1⟩,fun w'=>by rw[hv];rfl,fun m w' hm _=> ?_⟩⟩,rfl⟩
     obtain rfl:m=0:=by simpa using hm
     rw[hv]
     simp only[Builtin.firstCells,Nat.zero_mul]
     exact run_loadCells_list w' ad [] (fun j c hc=>by simp at hc)
   ·have hlen:=repL_rep_len hl
    refine⟨cl,⟨hlen,.inl ⟨.inl ⟨_,g1⟩,fun w'=>by rw[hv];rfl,fun m w' hm hw=> ?_⟩⟩,hl⟩
    rw[hv]
    simp only[Builtin.firstCells]
    have hmul:m*u.size≤ys.length*u.size:=Nat.mul_le_mul_right _ hm
    have hl2:m*u.size=(cl.take (m*u.size)).length:=by rw[List.length_take];omega
    rw[hl2]
    rw[run_loadCells_list w' _ (cl.take (m*u.size)) (fun j c hc=>by
     rw[List.getElem?_take] at hc
     split at hc
     ·rw[addr_add,cell?_eq,hw];exact hG _ _ _ (hF j c hc)
     ·cases hc)]
    rw[←hl2]
  split at e
  ·rename_i hf
   have hr:=deepV_sound (E:=false) hI.rel ha hb e hc
   obtain⟨ds,h1,h2⟩:=fin (full w.heap) (fun _ _ _ h=>h) hr
   exact⟨ds,h1,repL_mono (fun x cs=>rep_flat u hf x cs) _ _ h2⟩
  ·have hr:=deepV_sound (E:=true) hI.rel ha hb e hc
   exact fin F hI.rel.cons hr
 ·cases e
theorem post_newRow (hI:In E B0 F ρ L w){L1:HL}(hR:HRel F ρ L1 w.heap B0){d:Nat}(hk:L1 d=none)(hL:LLe L ρ L1 ρ)(hs:∀k,(L k).isSome→(L1 k).isSome){u:Ty}{id:TypeId}{xs:List u.den}{fz:Bool}{cl rest:List Value}{cap:Nat}{w':World}(hw:w'.heap=w.heap)(hB:Kept B0 w w')
 (hrep:RepL (Rep F u) xs cl) (hcap:cl.length+rest.length=cap*u.size) (hle:xs.length≤cap):
 Post B0 F ρ L w (.whole d (.arr 0 u) []) (upd L1 d (some (some ⟨true,.arr 0 u,xs,fz,[]⟩))) (.slice (some ⟨w.heap.size,0,none⟩) xs.length cap) (w'.alloc (.cells (cl++rest).toArray id)):=by
 obtain⟨F',f1,f2,f3⟩:=hR.fresh (k:=d) hk (blk:=⟨true,.arr 0 u,xs,fz,[]⟩) (e:=id) (fr:=(0,0)) (cap:=cap) (c:=(cl++rest).toArray) (cs:=cl) (rest:=rest) (fun i hi=>by simp) (by simp)
  (by simp only[RepC,if_true];exact⟨hrep,by simpa using hcap,hle⟩) hI.size rfl
 refine⟨F',upd ρ d (some (w.heap.size,(cap,0))), ?_, ?_,f1,fun b hb=>f2 b (Nat.lt_of_not_le (fun h=>hb (hI.size b h))),LLe.trans hL hs (LLe.fresh hk _ _),hB.alloc (by rw[hw];exact hI.size) _⟩
 ·refine repAV_whole.2 (fun blk hL=> ?_)
  rw[upd_same] at hL
  cases hL
  refine⟨rfl,by simp[okB],.inr ⟨w.heap.size,(cap,0),0,u,0,by rw[upd_same],rfl, ?_⟩⟩
  simp only[lcap,List.isEmpty_nil,Bool.and_self,if_true,Blk.len,lenT]
 ·show HRel F' _ _ (w'.heap.push _) B0
  rw[hw];exact f3
theorem post_nilRow {L1:HL}(hR:HRel F ρ L1 w.heap B0){d:Nat}(hk:L1 d=none)(hL:LLe L ρ L1 ρ)(hs:∀k,(L k).isSome→(L1 k).isSome){u:Ty}{fz:Bool}:
 Post B0 F ρ L w (.whole d (.arr 0 u) []) (upd L1 d (some (some ⟨true,.arr 0 u,[],fz,[]⟩))) (.slice none 0 0) w:=by
 refine⟨F,upd ρ d none, ?_,hR.freshNil (LLe.fresh hk _ _) rfl,FH.le.rfl,fun _ _=>rfl,LLe.trans hL hs (LLe.fresh hk _ _),Kept.refl _ _⟩
 refine repAV_whole.2 (fun blk hL=> ?_)
 rw[upd_same] at hL
 cases hL
 exact⟨rfl,by simp[okB],.inl ⟨by rw[upd_same],rfl,rfl,rfl,rfl⟩⟩
theorem isSome_kill (L:HL)(k:Nat):∀n,(L n).isSome→(upd L k (some none) n).isSome:=by
 intro n h
 by_cases hn:n=k
 ·subst hn;rw[upd_same];rfl
 ·rw[upd_ne _ _ hn];exact h
theorem putL_hd (hd l ds:List Value)(o:Nat):putL (hd++l) (hd.length+o) ds=hd++putL l o ds:=by
 simp only[putL]
 rw[List.take_append,List.drop_append,List.take_of_length_le (by omega),List.drop_eq_nil_of_le (by omega),Nat.add_sub_cancel_left,Nat.add_assoc,Nat.add_sub_cancel_left]
 simp
theorem sound_append (hI:In E B0 F ρ L w){c:Call}{X Y:Operand}{s x:AV×Option Blk}{st xt:TypeId}{d:Nat}(hop:o.op= .call c)(hcal:c.callee= .builtin .append)(hargs:c.args= #[X,Y])
 (hat:c.argTypes= #[st,xt]) (hs:Arg F ρ L s (ev X)) (hx:Arg F ρ L x (ev Y)) (hnew:∀p,p∈r.new→L p.1=none) (e:evalAppend E d st xt s x=some r) (hc:∀c,c∈r.cs→c):
 Does E.P o ev w (Post B0 F ρ L w r.v (r.L L)):=by
 have run:∀v w',(Builtin.append_ #[st,xt] o.type #[ev X,ev Y]).run E.P w= .ok v w'→(execOp ev o).run E.P w= .ok (.value v) w':=by
  intro v w' h
  simp[execOp,hop,resolve,hcal,hargs,hat,invoke,builtin,h]
 unfold evalAppend at e
 split at e
 ·rename_i u ht
  split at e
  ·cases e
  rename_i ys cs e1
  obtain⟨eid,g1,g2⟩:=(hI.env.ty _ _ ht).slc
  obtain⟨i,z,i1,i2,_⟩:=g2.info.out
  have hby:=hI.env.bytes _ _ _ _ ht g1 i1
  have room:∀n m,m≤n→Room n (E.bytes st)→m≤2^46∧m*i.bytes≤2^46:=by
   intro n m hm hr
   exact⟨Nat.le_trans hm hr.1,Nat.le_trans (Nat.mul_le_mul hm hby) hr.2⟩
  obtain⟨s,sb⟩:=s
  obtain⟨hs,hsb⟩:=hs
  simp only at hs hsb e
  have hzl:∀n,(List.replicate n (zeroCs u)).flatten.length=n*u.size:=fun n=>by simp[zeroCs_len]
  have grow:∀(L1:HL) (xs:List u.den) (base:Option Addr) (sCap:Nat) (old:List Value) (fz:Bool),HRel F ρ L1 w.heap B0→L1 d=none→LLe L ρ L1 ρ→(∀k,(L k).isSome→(L1 k).isSome)→
   ev X= .slice base xs.length sCap→RepL (Rep F u) xs old→(∀(ds:List Value),(Builtin.firstCells u.size xs.length (.slice base xs.length sCap)).run E.P w.drew= .ok old.toArray w.drew)→
   ¬(xs.length+ys.length≤sCap)→Room (xs.length+ys.length) (E.bytes st)→(∀c,c∈cs→c)→
   Does E.P o ev w (Post B0 F ρ L w (.whole d (.arr 0 u) []) (upd L1 d (some (some ⟨true,.arr 0 u,xs++ys,fz,[]⟩)))):=by
   intro L1 xs base sCap old fz hR hk hL1 hs1 hv hrep hold hroom hR2 hcs
   obtain⟨ds,hsrc,hds⟩:=srcV_sound hI g2 hx e1 hcs
   obtain⟨r1,r2⟩:=room _ _ (Nat.le_refl _) hR2
   have hrun:=run_append_grow (ty:=o.type) g1 g2 i1 hsrc base xs.length sCap hroom r1 r2 old (hold ds)
   rw[←hv] at hrun
   have hge:xs.length+ys.length≤grownCap w (xs.length+ys.length) sCap eid:=by unfold grownCap;simp[Question.cut]
   generalize grownCap w (xs.length+ys.length) sCap eid=cap at hrun hge
   have lo:=repL_rep_len hrep
   have ld:=repL_rep_len hds
   have pn:=post_newRow (fz:=fz) (id:=eid) (w':=w.drew) (xs:=xs++ys) (cl:=old++ds) (rest:=(List.replicate (cap-(xs.length+ys.length)) (zeroCs u)).flatten) (cap:=cap) hI hR hk hL1 hs1 rfl (Kept.refl _ _).drew
    (repL_append _ _ _ _ hrep hds) (by rw[List.length_append,lo,ld,hzl,←Nat.add_mul,←Nat.add_mul];congr 1;omega) (by simpa using hge)
   rw[List.length_append] at pn
   exact does_ok (run _ _ hrun) pn
  split at e
  ·
   cases e
   obtain⟨c1,c2⟩:=mem2 hc
   have hR2:Room ys.length (E.bytes st):=one_mem c2
   have hk:L d=none:=hnew _ (List.mem_singleton.2 rfl)
   have hv:ev X= .slice none 0 0:=by have:=repA_nt hs rfl;simpa[RepA] using this
   rw[L_new]
   by_cases h0:ys.length=0
   ·obtain⟨ds,hsrc,hds⟩:=srcV_sound hI g2 hx e1 c1
    have hy:ys=[]:=List.eq_nil_of_length_eq_zero h0
    subst hy
    have hrun:=run_append_fit (ty:=o.type) g1 g2 i1 hsrc (by simp) (by simp) none 0 0 (by simp) w (fun a h=>by cases h) (fun _=>rfl)
    rw[←hv] at hrun
    exact does_ok (run _ _ hrun) (post_nilRow hI.rel hk LLe.same (fun _ h=>h))
   ·have:=grow L [] none 0 [] (E.fz d) hI.rel hk LLe.same (fun _ h=>h) hv rfl (fun _=>rfl) (by rw[List.length_nil];omega) (by simpa using hR2) c1
    simpa using this
  ·
   rename_i k root m ww xs fz lk
   split at e
   ·rename_i xs' e2
    have:=TV.as_eq e2
    cases this
    cases e
    obtain⟨c1,c2⟩:=mem2 hc
    have hR2:Room (List.length xs'+ys.length) (E.bytes st):=one_mem c2
    have hk:L d=none:=hnew _ (List.mem_singleton.2 rfl)
    obtain⟨k',hk',hL⟩:=blkL_some hsb
    cases hk'
    have hdk:d≠k:=fun h=>by subst h;rw[hk] at hL;cases hL
    obtain⟨hrt,hok,hw⟩:=repAV_whole.1 hs _ hL
    rw[L_move]
    have hk1:upd L k (some none) d=none:=by rw[upd_ne _ _ hdk];exact hk
    rcases hw with⟨h1,h2,h3,h4,h5⟩|⟨bb,cap,n,u',off,h1,h2,h3⟩
    ·have hx0:xs'=[]:=List.eq_nil_of_length_eq_zero h4
     subst hx0
     by_cases h0:ys.length=0
     ·obtain⟨ds,hsrc,hds⟩:=srcV_sound hI g2 hx e1 c1
      have hy:ys=[]:=List.eq_nil_of_length_eq_zero h0
      subst hy
      have hrun:=run_append_fit (ty:=o.type) g1 g2 i1 hsrc (by simp) (by simp) none 0 0 (by simp) w (fun a h=>by cases h) (fun _=>rfl)
      rw[←h5] at hrun
      exact does_ok (run _ _ hrun) (post_nilRow (hI.rel.kill k) hk1 (LLe.kill k) (isSome_kill L k))
     ·have:=grow (upd L k (some none)) [] none 0 [] (fz||E.fz d) (hI.rel.kill k) hk1 (LLe.kill k) (isSome_kill L k) h5 rfl (fun _=>rfl) (by rw[List.length_nil];omega) (by simpa using hR2) c1
      simpa using this
    ·have hroot:root= .arr m u:=hrt.symm
     subst hroot
     simp only[Ty.nav,Option.some.injEq,Prod.mk.injEq,Ty.arr.injEq] at h2
     obtain⟨⟨rfl,rfl⟩,rfl⟩:=h2
     simp only[lcap,List.isEmpty_nil,Bool.and_self,if_true,Blk.len,lenT,Nat.add_zero] at h3
     obtain⟨cc,ce,fr,hd,cl,rest,q1,q2,q3,q4,q5,q6⟩:=hI.rel.live hL h1 rfl (isOpen_row rfl)
     simp only[RepC,if_true] at q5
     obtain⟨p1,p2,p3⟩:=q5
     have lcl:=repL_rep_len p1
     have lcc:cc.toList.length=cap.2+(cl.length+rest.length):=by rw[q4.2.2,List.length_append,List.length_append,q4.1]
     simp only[Array.length_toList] at lcc
     by_cases hfit:List.length xs'+ys.length≤cap.1
     ·obtain⟨ds,hsrc,hds⟩:=srcV_sound hI g2 hx e1 c1
      have ld:=repL_rep_len hds
      obtain⟨r1,r2⟩:=room (List.length xs'+ys.length) ys.length (by omega) hR2
      have hmul:(List.length xs'+ys.length)*u.size≤cap.1*u.size:=Nat.mul_le_mul_right _ hfit
      rw[Nat.add_mul] at hmul
      have hst:=run_storeCells' E.P bb (cap.2+List.length xs'*u.size) ce fr ds 0 cc w q2 q3 (by omega) (repL_one _ _ hds)
      simp only[Nat.add_zero] at hst
      have hput:putL cc.toList (cap.2+List.length xs'*u.size) ds=hd++((cl++ds)++rest.drop ds.length):=by
       rw[q4.2.2,←q4.1,putL_hd]
       congr 1
       simp only[putL]
       rw[List.take_append,List.drop_append,List.take_of_length_le (by omega),List.drop_eq_nil_of_le (by omega),show List.length xs'*u.size-cl.length=0 by omega,
        show List.length xs'*u.size+ds.length-cl.length=ds.length by omega]
       simp
      have hsz:(putL cc.toList (cap.2+List.length xs'*u.size) ds).toArray.size=cc.size:=by
       rw[List.size_toArray,putL_len (by simp;omega)];simp
      have hrun:=run_append_fit (ty:=o.type) g1 g2 i1 hsrc r1 r2 (some ⟨bb,cap.2,none⟩) (List.length xs') cap.1 hfit _ (fun a h=>by cases h;rw[addr_add];exact hst) (fun h=>by cases h)
      rw[←h3] at hrun
      obtain⟨F',f1,f2,f3⟩:=hI.rel.redo (k':=d) (blk':=⟨true,.arr 0 u,xs'++ys,fz||E.fz d,[]⟩) (c':=(putL cc.toList (cap.2+List.length xs'*u.size) ds).toArray) (hd:=hd) (cs:=cl) (cs':=cl++ds) (rest:=rest) (rest':=rest.drop ds.length)
       hL (.inr hk) h1 q2 q1 q3 q4 q6 hsz (by simpa using hput) (by rw[hsz];simp only[RepC,if_true];exact⟨repL_append _ _ _ _ p1 hds,p2,by simpa using hfit⟩)
       (fun h=>⟨by simp only at h⊢;rw[h];rfl,fun i v hv=>by rw[List.getElem?_append_left (List.getElem?_eq_some_iff.1 hv).1];exact hv⟩) (fun p kk hm=>by cases hm)
      refine does_ok (run _ _ hrun) ⟨F',_, ?_,f3,f1,fun b hb=>f2 b (fun e=>hb (by rw[e];exact q1)),LLe.redo hL (.inr hk) h1,below_set q1 _⟩
      refine repAV_whole.2 (fun blk hL'=> ?_)
      rw[upd_same] at hL'
      cases hL'
      refine⟨rfl,by simp[okB],.inr ⟨bb,cap,0,u,0,by rw[upd_same],rfl, ?_⟩⟩
      simp only[lcap,List.isEmpty_nil,Bool.and_self,if_true,Blk.len,lenT,List.length_append,Nat.add_zero]
     ·refine grow (upd L k (some none)) xs' (some ⟨bb,cap.2,none⟩) cap.1 cl (fz||E.fz d) (hI.rel.kill k) hk1 (LLe.kill k) (isSome_kill L k) h3 p1 (fun _=> ?_) hfit hR2 c1
      simp only[Builtin.firstCells]
      rw[←lcl]
      exact run_loadCells_list w.drew _ cl (fun j c hc=>by
       rw[addr_add,cell?_eq]
       show cellAt w.heap bb (cap.2+j)=some c
       simp only[cellAt,q2]
       exact at_of q4.1 q4.2.2 hc)
   ·cases e
  ·
   rename_i ww xs
   split at e
   ·rename_i xs' e2
    have:=TV.as_eq e2
    cases this
    split at e
    ·cases e
     obtain⟨c1,c2⟩:=mem2 hc
     have hR2:Room (List.length xs'+ys.length) (E.bytes st):=one_mem c2
     have hk:L d=none:=hnew _ (List.mem_singleton.2 rfl)
     rw[L_new]
     have ghost:∀v,RepV F (.slc u) xs' v→ys=[]→Post B0 F ρ L w (.val (.slc u) (xs'++ys)) (upd L d (some (some ⟨true,.arr 0 u,xs'++ys,true,[]⟩))) v w:=fun v hv hy=>by
      subst hy
      exact⟨F,upd ρ d none,by rw[List.append_nil];exact repAV_val.2 hv,hI.rel.freshNil (LLe.fresh hk _ _) rfl,FH.le.rfl,fun _ _=>rfl,LLe.fresh hk _ _,Kept.refl _ _⟩
     have conv:∀v w',Post B0 F ρ L w (.whole d (.arr 0 u) []) (upd L d (some (some ⟨true,.arr 0 u,xs'++ys,true,[]⟩))) v w'→Post B0 F ρ L w (.val (.slc u) (xs'++ys)) (upd L d (some (some ⟨true,.arr 0 u,xs'++ys,true,[]⟩))) v w':=by
      rintro v w' ⟨F',ρ',p1,p2,p3⟩
      have h:=deepV_sound (E:=true) (t:= .slc u) (b:=some ⟨true,.arr 0 u,xs'++ys,true,[]⟩) (x:=xs'++ys) (cs:=[]) p2 p1 (by simp[blkL,blkF,AV.key,mask,Blk.isOpen]) (by
       simp only[deepV,Bool.not_true,Bool.and_false,Bool.false_eq_true,if_false,getP,TV.as,castT]
       simp) (fun c hc=>by cases hc)
      exact⟨F',ρ',repAV_val.2 (by simpa using h),p2,p3⟩
     rcases repA_nt hs rfl with⟨h1,h2⟩|⟨bb,off,cl,h1,h2,h3⟩
     ·subst h1
      obtain⟨oo,h2⟩:=h2
      simp at h2
      by_cases h0:ys.length=0
      ·obtain⟨ds,hsrc,hds⟩:=srcV_sound hI g2 hx e1 c1
       have hy:ys=[]:=List.eq_nil_of_length_eq_zero h0
       have hp:=ghost (.slice oo 0 0) (by simp only[RepV,Ty.isAgg];exact⟨_,rfl,.inl ⟨⟨_,rfl⟩,rfl,rfl⟩⟩) hy
       subst hy
       have hd0:ds=[]:=hds
       subst hd0
       have hrun:=run_append_fit (ty:=o.type) g1 g2 i1 hsrc (by simp) (by simp) oo 0 0 (by simp) w (fun a h=>rfl) (fun _=>rfl)
       rw[←h2] at hrun
       rw[←h2] at hp
       have hrun2:(Builtin.append_ #[st,xt] o.type #[ev X,ev Y]).run E.P w= .ok (ev X) w:=by rw[hrun,h2];rfl
       exact does_ok (run _ _ hrun2) hp
      ·exact does_mono (grow L [] oo 0 [] true hI.rel hk LLe.same (fun _ h=>h) h2 rfl (fun _=>by
        cases oo with
        |none=>rfl
        |some ad=>
         simp only[Builtin.firstCells,List.length_nil,Nat.zero_mul]
         exact run_loadCells_list w.drew ad [] (fun j c hc=>by simp at hc)) (by rw[List.length_nil];omega) hR2 c1) conv
     ·simp at h1
      by_cases h0:ys.length=0
      ·obtain⟨ds,hsrc,hds⟩:=srcV_sound hI g2 hx e1 c1
       have hy:ys=[]:=List.eq_nil_of_length_eq_zero h0
       have hp:=ghost (.slice (some ⟨bb,off,none⟩) (List.length xs') (List.length xs')) (by simp only[RepV,Ty.isAgg];exact⟨_,rfl,.inr ⟨bb,off,_,cl,rfl,Nat.le_refl _,h2,h3⟩⟩) hy
       subst hy
       have hd0:ds=[]:=hds
       subst hd0
       have hrun:=run_append_fit (ty:=o.type) g1 g2 i1 hsrc (by simp) (by simp) (some ⟨bb,off,none⟩) (List.length xs') (List.length xs') (by simp) w (fun a h=>by cases h;rfl) (fun h=>by cases h)
       rw[←h1] at hp
       rw[←h1] at hrun
       have hrun2:(Builtin.append_ #[st,xt] o.type #[ev X,ev Y]).run E.P w= .ok (ev X) w:=by rw[hrun,h1];rfl
       exact does_ok (run _ _ hrun2) hp
      ·refine does_mono (grow L xs' (some ⟨bb,off,none⟩) (List.length xs') cl true hI.rel hk LLe.same (fun _ h=>h) h1 h2 (fun _=> ?_) (by omega) hR2 c1) conv
       simp only[Builtin.firstCells]
       rw[←repL_rep_len h2]
       exact run_loadCells_list w.drew _ cl (fun j c hc=>by
        rw[addr_add,cell?_eq]
        exact hI.rel.cons _ _ _ (h3 j c hc))
    cases e
    obtain⟨c1,c2⟩:=mem2 hc
    have hpos:0<ys.length:=c2 _ (by simp)
    have hR2:Room (List.length xs'+ys.length) (E.bytes st):=c2 _ (by simp)
    have hk:L d=none:=hnew _ (List.mem_singleton.2 rfl)
    rw[L_new]
    rcases repA_nt hs rfl with⟨h1,h2⟩|⟨bb,off,cl,h1,h2,h3⟩
    ·subst h1
     obtain⟨oo,h2⟩:=h2
     simp at h2
     exact grow L [] oo 0 [] (E.fz d) hI.rel hk LLe.same (fun _ h=>h) h2 rfl (fun _=>by
      cases oo with
      |none=>rfl
      |some ad=>
       simp only[Builtin.firstCells,List.length_nil,Nat.zero_mul]
       exact run_loadCells_list w.drew ad [] (fun j c hc=>by simp at hc)) (by rw[List.length_nil];omega) hR2 c1
    ·simp at h1
     refine grow L xs' (some ⟨bb,off,none⟩) (List.length xs') cl (E.fz d) hI.rel hk LLe.same (fun _ h=>h) h1 h2 (fun _=> ?_) (by omega) hR2 c1
     simp only[Builtin.firstCells]
     rw[←repL_rep_len h2]
     exact run_loadCells_list w.drew _ cl (fun j c hc=>by
      rw[addr_add,cell?_eq]
      exact hI.rel.cons _ _ _ (h3 j c hc))
   ·cases e
  ·cases e
 ·cases e
theorem putL_region (l:List Value)(off:Nat)(reg a ds:List Value)(b:List Value)(h:(l.drop off).take reg.length=reg)(hr:reg=a++(reg.drop a.length).take ds.length++b)(hd:a.length+ds.length≤reg.length):
 putL l (off+a.length) ds=putL l off (a++ds++b):=by
 have hb:b.length=reg.length-(a.length+ds.length):=by
  have:=congrArg List.length hr
  simp only[List.length_append,List.length_take,List.length_drop] at this
  omega
 have hl2:l=l.take off++(reg++l.drop (off+reg.length)):=by
  conv=>lhs;rw[←List.take_append_drop off l,←List.take_append_drop reg.length (l.drop off),h,List.drop_drop]
 have e1:l.take (off+a.length)=l.take off++a:=by
  rw[List.take_add]
  congr 1
  have:(l.drop off).take a.length=((l.drop off).take reg.length).take a.length:=by rw[List.take_take];congr 1;omega
  rw[this,h,hr];simp
 have e2:l.drop (off+a.length+ds.length)=b++l.drop (off+reg.length):=by
  have hd1:l.drop off=reg++l.drop (off+reg.length):=by
   rw[←List.drop_drop]
   conv=>lhs;rw[←List.take_append_drop reg.length (l.drop off),h]
  rw[Nat.add_assoc,←List.drop_drop,hd1,List.drop_append]
  have:reg.drop (a.length+ds.length)=b:=by
   rw[hr,List.append_assoc,List.drop_append,List.drop_eq_nil_of_le (by omega),show a.length+ds.length-a.length=ds.length by omega,List.drop_append]
   rw[List.drop_eq_nil_of_le (by simp;omega)]
   simp only[List.length_take,List.length_drop]
   rw[show ds.length-min ds.length (reg.length-a.length)=0 by omega]
   simp
  rw[this,show a.length+ds.length-reg.length=0 by omega];simp
 unfold putL
 rw[e1,e2,List.length_append,List.length_append,hb,show off+(a.length+ds.length+(reg.length-(a.length+ds.length)))=off+reg.length by omega]
 simp
theorem own_update {H:Array Obj}(hR:HRel F ρ L H B0){k:Nat}{blk:Blk}(hL:L k=some (some blk)){b:Nat}{cap:Cap}(hr:ρ k=some (b,cap))(hfz:blk.fz=false){path:List Stp}(hok:okB blk.row blk.len blk.t path)
 {m n:Nat} {u u':Ty} {xs:List u.den} (hg:getP blk.t blk.x path=some ⟨.arr m u,xs⟩) {off:Nat} (hn:blk.t.nav path=some (.arr n u',off)) {xs2:List u.den} (hlen:xs2.length=xs.length) {z:blk.t.den}
 (hz:setP blk.t blk.x path ⟨.arr m u,xs2⟩=some z):
 ∃c e fr reg,H[b]? =some (.cells c e fr)∧free fr c.size∧B0 b∧off+reg.length≤c.size∧(c.toList.drop off).take reg.length=reg∧RepL (Rep F u) xs reg∧
  ∀reg2,RepL (Rep F u) xs2 reg2→∃F',F.le F'∧(∀b',b'≠b→F' b'=F b')∧
   HRel F' (upd ρ k (some (b,cap))) (upd (upd L k (some none)) k (some (some ⟨blk.row,blk.t,z,false,[]⟩))) (H.setIfInBounds b (.cells (putL c.toList off reg2).toArray e fr)) B0∧lenT blk.t z=lenT blk.t blk.x:=by
 obtain⟨c,e,fr,hd,cl,rest,g1,g2,g3,g4,g5,g6⟩:=hR.live hL hr (notMap_get hg) (isOpen_fz hfz)
 obtain⟨cap,base⟩:=cap
 have hb0:base=0:=g4.2.1 hfz
 subst hb0
 have hd0:hd=[]:=List.eq_nil_of_length_eq_zero g4.1
 subst hd0
 replace g4:c.toList=cl++rest:=by simpa using g4.2.2
 simp only[Nat.zero_add] at g6
 have lc:c.toList.length=cl.length+rest.length:=by rw[g4,List.length_append]
 simp only[Array.length_toList] at lc
 have fin:∀(reg2 cl2:List Value),RepC F blk.row (cap,0) c.size blk.t z cl2→putL c.toList off reg2=cl2++rest→off+reg2.length≤c.size→lenT blk.t z=lenT blk.t blk.x→∃F':FH,F.le F'∧(∀b',b'≠b→F' b'=F b')∧
       HRel F' (upd ρ k (some (b,(cap,0)))) (upd (upd L k (some none)) k (some (some ⟨blk.row,blk.t,z,false,[]⟩))) (H.setIfInBounds b (.cells (putL c.toList off reg2).toArray e fr)) B0:=by
  intro reg2 cl2 hc2 hp hle hlz
  have hsz:(putL c.toList off reg2).toArray.size=c.size:=by rw[List.size_toArray,putL_len (by simpa using hle)];simp
  exact hR.redo0 (k':=k) (blk':=⟨blk.row,blk.t,z,false,[]⟩) (cs':=cl2) (rest':=rest) hL (.inl ⟨rfl,rfl,rfl,hlz⟩) hr g2 g1 g3 g4 g6 hsz (by simpa using hp) (by rw[hsz];exact hc2) (fun h=>by rw[hfz] at h;cases h) (fun p kk hm=>by cases hm)
 have putc:∀(o:Nat) (ds:List Value),o+ds.length≤cl.length→putL c.toList o ds=putL cl o ds++rest:=by
  intro o ds h
  simp only[putL,g4]
  rw[List.take_append,List.drop_append,show o-cl.length=0 by omega,show o+ds.length-cl.length=0 by omega]
  simp
 by_cases hrow:(blk.row&&path.isEmpty)=true
 ·simp only[Bool.and_eq_true,List.isEmpty_iff] at hrow
  obtain⟨r1,rfl⟩:=hrow
  obtain⟨row,t,x,fz⟩:=blk
  simp only[getP,Option.some.injEq] at hg
  cases hg
  simp only at r1
  subst r1
  simp only[RepC,if_true] at g5
  simp only[Ty.nav,Option.some.injEq,Prod.mk.injEq,Ty.arr.injEq] at hn
  obtain⟨⟨rfl,rfl⟩,rfl⟩:=hn
  simp only[setP] at hz
  have:=TV.as_eq hz
  cases this
  have lcl:=repL_rep_len g5.1
  refine⟨c,e,fr,cl,g2,g3,g1,by omega,by rw[List.drop_zero,g4,List.take_append,List.take_of_length_le (Nat.le_refl _)];simp,g5.1,fun reg2 h2=> ?_⟩
  have l2:=repL_rep_len h2
  have hl2:reg2.length=cl.length:=by rw[l2,lcl,hlen]
  obtain⟨F',f1,f2,f3⟩:=fin reg2 reg2 (by simp only[RepC,if_true];exact⟨h2,g5.2.1,by rw[hlen];exact g5.2.2⟩) (by
   rw[putc 0 reg2 (by omega)]
   simp only[putL,List.take_zero,List.nil_append,Nat.zero_add]
   rw[List.drop_eq_nil_of_le (by omega)];simp) (by omega) (by simp only[lenT];exact hlen)
  exact⟨F',f1,f2,f3,by simp only[lenT];exact hlen⟩
 ·have hrow:(blk.row&&path.isEmpty)=false:=by simpa using hrow
  obtain⟨o2,n1,n2,n3,n4⟩:=blk_get g5 hok hrow hg
  rw[hn] at n1
  cases n1
  have n3':xs.length=m:=n3
  have n4':RepL (Rep F u) xs ((cl.drop off).take (m*u.size)):=n4
  have n2':off+m*u.size≤cl.length:=n2
  have lr:=repL_rep_len n4'
  rw[n3'] at lr
  refine⟨c,e,fr,(cl.drop off).take (m*u.size),g2,g3,g1,by omega, ?_,n4',fun reg2 h2=> ?_⟩
  ·rw[lr,g4,List.drop_append,List.take_append]
   have:m*u.size-(cl.drop off).length=0:=by rw[List.length_drop];omega
   rw[this];simp
  ·have l2:=repL_rep_len h2
   rw[hlen,n3'] at l2
   obtain⟨o3,m1,m2,m3,m4⟩:=blk_set g5 hok hrow hz (ds:=reg2) ⟨by rw[hlen];exact n3',h2⟩
   rw[hn] at m1
   cases m1
   have hlz:lenT blk.t z=lenT blk.t blk.x:=by
    cases hr2:blk.row
    ·rw[hr2] at m3 g5;exact lenT_var m3 g5
    ·exact m4 hr2
   obtain⟨F',f1,f2,f3⟩:=fin reg2 (putL cl off reg2) m3 (putc off reg2 (by omega)) (by omega) hlz
   exact⟨F',f1,f2,f3,hlz⟩
theorem run_copy {P:Program}{dt xt eid ty:TypeId}{u:Ty}(ht:P.underlying dt=some (.slice eid))(hu:TyOk P u eid){x:Value}{n:Nat}{ds:List Value}
 (hl:∀w',(Builtin.lenOf x).run P w'= .ok n w') (base:Option Addr) (dLen dCap:Nat)
 (hf:(Builtin.firstCells u.size (min n dLen) x).run P w= .ok ds.toArray w) (w':World) (hst:∀a,base=some a→(storeCells a ds).run P w= .ok () w') (hst0:base=none→w'=w):
 (Builtin.copy_ #[dt,xt] ty #[.slice base dLen dCap,x]).run P w= .ok (.int .i64 ((min n dLen:Nat):Int)) w':=by
 have hm:Nat.min n dLen=min n dLen:=rfl
 cases base with
 |none=>rw[hst0 rfl];simp[Builtin.copy_,run_underlying ht,run_sizeOf' hu,hl,hm,hf,goInt]
 |some a=>simp[Builtin.copy_,run_underlying ht,run_sizeOf' hu,hl,hm,hf,hst a rfl,goInt]
theorem copy_core (hI:In E B0 F ρ L w){c:Call}{X Y:Operand}{dt xt eid:TypeId}{u u':Ty}(hop:o.op= .call c)(hcal:c.callee= .builtin .copy)(hargs:c.args= #[X,Y])(hat:c.argTypes= #[dt,xt])
 (g1:E.P.underlying dt=some (.slice eid)) (g2:TyOk E.P u eid) {ys:List u.den} {ds:List Value} (hsrc:Src E.P eid xt u.size (ev Y) w.heap ys.length ds) (hni:∀k,E.P.underlying xt≠some (.int k)) (hds:RepL (Rep F u) ys ds)
 {k:Nat} {blk:Blk} (hL:L k=some (some blk)) {b:Nat} {cap:Cap} (hr:ρ k=some (b,cap)) (hfz:blk.fz=false) {path:List Stp} (hok:okB blk.row blk.len blk.t path)
 {m n:Nat} {xs:List u.den} (hg:getP blk.t blk.x path=some ⟨.arr m u,xs⟩) {off:Nat} (hn:blk.t.nav path=some (.arr n u',off)) {s l:Nat} (hsl:s+l≤xs.length) {off' dCap:Nat} (hv:ev X= .slice (some ⟨b,off',none⟩) l dCap)
 (hoff:l≠0→off'=off+s*u.size) {z:blk.t.den} (hz:setP blk.t blk.x path ⟨.arr m u,xs.take s++(ys.take l++xs.drop (s+min ys.length l))⟩=some z) {cs:List Prop}:
 Does E.P o ev w (Post B0 F ρ L w (.val (.int .i64) ((min ys.length l:Nat):Int)) ((⟨cs,.val (.int .i64) ((min ys.length l:Nat):Int),[],[(k,⟨blk.row,blk.t,z,false,[]⟩)],[]⟩:Res).L L)):=by
 have run:∀v w',(Builtin.copy_ #[dt,xt] o.type #[ev X,ev Y]).run E.P w= .ok v w'→(execOp ev o).run E.P w= .ok (.value v) w':=by
  intro v w' h
  simp[execOp,hop,resolve,hcal,hargs,hat,invoke,builtin,h]
 obtain⟨hlen,hfirst⟩:(∀w',(Builtin.lenOf (ev Y)).run E.P w'= .ok ys.length w')∧(∀m w',m≤ys.length→w'.heap=w.heap→(Builtin.firstCells u.size m (ev Y)).run E.P w'= .ok (ds.take (m*u.size)).toArray w'):=by
  rcases hsrc.run with⟨_,h2,h3⟩|⟨k1,_,h1,_⟩
  ·exact⟨h2,h3⟩
  ·exact absurd h1 (hni k1)
 have hxl:(xs.take s++(ys.take l++xs.drop (s+min ys.length l))).length=xs.length:=by
  simp only[List.length_append,List.length_take,List.length_drop];omega
 obtain⟨cc,ce,fr,reg,q1,q2,q3,q4,q5,q6,q7⟩:=own_update hI.rel hL hr hfz hok hg hn hxl hz
 have lreg:=repL_rep_len q6
 have lds:=repL_rep_len hds
 have hlenR:=fun x cs=>rep_len (F:=F) u x cs
 have hq:min ys.length l*u.size≤l*u.size:=Nat.mul_le_mul_right _ (Nat.min_le_right _ _)
 have hq2:min ys.length l*u.size≤ys.length*u.size:=Nat.mul_le_mul_right _ (Nat.min_le_left _ _)
 have hq3:(s+l)*u.size≤xs.length*u.size:=Nat.mul_le_mul_right _ hsl
 rw[Nat.add_mul] at hq3
 have hq4:(s+min ys.length l)*u.size=s*u.size+min ys.length l*u.size:=Nat.add_mul _ _ _
 have hreg2:RepL (Rep F u) (xs.take s++(ys.take l++xs.drop (s+min ys.length l))) (reg.take (s*u.size)++ds.take (min ys.length l*u.size)++reg.drop ((s+min ys.length l)*u.size)):=by
  rw[List.append_assoc]
  refine repL_append _ _ _ _ (repL_take hlenR s _ _ q6) (repL_append _ _ _ _ ?_ (repL_drop hlenR _ _ _ q6))
  have:ys.take l=ys.take (min ys.length l):=by
   rw[Nat.min_comm,←List.take_take,List.take_length]
  rw[this]
  exact repL_take hlenR _ _ _ hds
 obtain⟨F',f1,f2,f3,f4⟩:=q7 _ hreg2
 have hput:putL cc.toList (off+s*u.size) (ds.take (min ys.length l*u.size))=putL cc.toList off (reg.take (s*u.size)++ds.take (min ys.length l*u.size)++reg.drop ((s+min ys.length l)*u.size)):=by
  have la:(reg.take (s*u.size)).length=s*u.size:=by rw[List.length_take];omega
  have ld2:(ds.take (min ys.length l*u.size)).length=min ys.length l*u.size:=by rw[List.length_take];omega
  have:=putL_region cc.toList off reg (reg.take (s*u.size)) (ds.take (min ys.length l*u.size)) (reg.drop ((s+min ys.length l)*u.size)) q5 (by
   rw[la,ld2,hq4,←List.take_add,List.take_append_drop]) (by omega)
  rw[la] at this
  exact this
 have hcall:∃w',w'={w with heap:=w.heap.setIfInBounds b (.cells (putL cc.toList off (reg.take (s*u.size)++ds.take (min ys.length l*u.size)++reg.drop ((s+min ys.length l)*u.size))).toArray ce fr)}∧
  (Builtin.copy_ #[dt,xt] o.type #[ev X,ev Y]).run E.P w= .ok (.int .i64 ((min ys.length l:Nat):Int)) w':=by
  refine⟨_,rfl, ?_⟩
  rw[hv]
  refine run_copy (ds:=ds.take (min ys.length l*u.size)) g1 g2 hlen _ _ _ (hfirst _ w (Nat.min_le_left _ _) rfl) _ (fun a ha=> ?_) (fun h=>by cases h)
  cases ha
  have ld2:(ds.take (min ys.length l*u.size)).length=min ys.length l*u.size:=by rw[List.length_take];omega
  by_cases hl0:l=0
  ·subst hl0
   have e0:ds.take (min ys.length 0*u.size)=[]:=by simp
   rw[←hput,e0]
   have hst:=run_storeCells' E.P b (off+s*u.size) ce fr [] 0 cc w q1 q2 (by simp;omega) (by simp)
   have hst':(storeCells ⟨b,off',none⟩ [] 0).run E.P w= .ok () w:=rfl
   rw[hst']
   have e1:(storeCells ⟨b,off+s*u.size,none⟩ [] 0).run E.P w= .ok () w:=rfl
   rw[e1] at hst
   simpa using hst
  ·have ho:=hoff hl0
   subst ho
   have hst:=run_storeCells' E.P b (off+s*u.size) ce fr (ds.take (min ys.length l*u.size)) 0 cc w q1 q2 (by omega) (fun v hv=>repL_one _ _ hds v (List.mem_of_mem_take hv))
   simp only[Nat.add_zero,hput] at hst
   exact hst
 obtain⟨w',hw',hrun⟩:=hcall
 subst hw'
 rw[L_set]
 refine does_ok (run _ _ hrun) ⟨F',_,repAV_int.2 rfl,f3,f1,fun b' hb=>f2 b' (fun e=>hb (by rw[e];exact q3)),LLe.redo (blk':=⟨blk.row,blk.t,z,false,[]⟩) hL (.inl ⟨rfl,rfl,rfl,f4⟩) hr,below_set q3 _⟩
theorem copy_nil (hI:In E B0 F ρ L w){c:Call}{X Y:Operand}{dt xt eid:TypeId}{u:Ty}(hop:o.op= .call c)(hcal:c.callee= .builtin .copy)(hargs:c.args= #[X,Y])(hat:c.argTypes= #[dt,xt])
 (g1:E.P.underlying dt=some (.slice eid)) (g2:TyOk E.P u eid) {ys:List u.den} {ds:List Value} (hsrc:Src E.P eid xt u.size (ev Y) w.heap ys.length ds) (hni:∀k,E.P.underlying xt≠some (.int k))
 {k:Nat} {blk:Blk} (hL:L k=some (some blk)) (hr:ρ k=none) (_hrow:blk.row=true) (hlen0:blk.len=0) (hv:ev X= .slice none 0 0) {z:blk.t.den} (hz:lenT blk.t z=0) {q:Nat} (hq:q=0) {cs:List Prop}:
 Does E.P o ev w (Post B0 F ρ L w (.val (.int .i64) (q:Int)) ((⟨cs,.val (.int .i64) (q:Int),[],[(k,⟨blk.row,blk.t,z,false,[]⟩)],[]⟩:Res).L L)):=by
 have run:∀v w',(Builtin.copy_ #[dt,xt] o.type #[ev X,ev Y]).run E.P w= .ok v w'→(execOp ev o).run E.P w= .ok (.value v) w':=by
  intro v w' h
  simp[execOp,hop,resolve,hcal,hargs,hat,invoke,builtin,h]
 obtain⟨hlen,hfirst⟩:(∀w',(Builtin.lenOf (ev Y)).run E.P w'= .ok ys.length w')∧(∀m w',m≤ys.length→w'.heap=w.heap→(Builtin.firstCells u.size m (ev Y)).run E.P w'= .ok (ds.take (m*u.size)).toArray w'):=by
  rcases hsrc.run with⟨_,h2,h3⟩|⟨k1,_,h1,_⟩
  ·exact⟨h2,h3⟩
  ·exact absurd h1 (hni k1)
 have hrun:=run_copy (ty:=o.type) (xt:=xt) (ds:=ds.take (0*u.size)) g1 g2 hlen none 0 0 (by rw[Nat.min_zero];exact hfirst 0 w (Nat.zero_le _) rfl) w (fun a h=>by cases h) (fun _=>rfl)
 rw[←hv,Nat.min_zero] at hrun
 subst hq
 rw[L_set]
 have e:upd (upd L k (some none)) k (some (some ⟨blk.row,blk.t,z,false,[]⟩))=upd L k (some (some ⟨blk.row,blk.t,z,false,[]⟩)):=by
  funext n;by_cases h:n=k<;>simp[upd,h]
 refine does_ok (run _ _ hrun) ⟨F,upd ρ k none,repAV_int.2 rfl, ?_,FH.le.rfl,fun _ _=>rfl,LLe.redo (blk':=⟨blk.row,blk.t,z,false,[]⟩) hL (.inl ⟨rfl,rfl,rfl,hz.trans hlen0.symm⟩) hr,Kept.refl _ _⟩
 rw[e]
 exact hI.rel.freshNil (by rw[←e];exact LLe.redo (blk':=⟨blk.row,blk.t,z,false,[]⟩) hL (.inl ⟨rfl,rfl,rfl,hz.trans hlen0.symm⟩) hr) rfl
theorem sound_copy (hI:In E B0 F ρ L w){c:Call}{X Y:Operand}{d x:AV×Option Blk}{dt xt:TypeId}(hop:o.op= .call c)(hcal:c.callee= .builtin .copy)(hargs:c.args= #[X,Y])
 (hat:c.argTypes= #[dt,xt]) (hd:Arg F ρ L d (ev X)) (hx:Arg F ρ L x (ev Y)) (e:evalCopy E dt xt d x=some r) (hc:∀c,c∈r.cs→c):
 Does E.P o ev w (Post B0 F ρ L w r.v (r.L L)):=by
 unfold evalCopy at e
 split at e
 ·rename_i u ht
  split at e
  ·cases e
  rename_i ys cs e1
  obtain⟨eid,g1,g2⟩:=(hI.env.ty _ _ ht).slc
  have hni:(∀k,E.P.underlying xt≠some (.int k))∧srcV E u xt x.1 x.2=some (ys,cs):=by
   split at e1
   ·cases e1
   ·rename_i hne
    refine⟨fun k hk=> ?_,e1⟩
    unfold srcV at e1
    cases hxt:E.ty xt with
    |none=>rw[hxt] at e1;cases e1
    |some t=>
     have hty:=hI.env.ty _ _ hxt
     cases t with
     |int k'=>exact hne k' hxt
     |str=>rw[hty.str] at hk;cases hk
     |slc u'=>obtain⟨_,h,_⟩:=hty.slc;rw[h] at hk;cases hk
     |_=>rw[hxt] at e1;cases e1
  obtain⟨hni,e1⟩:=hni
  obtain⟨a,b⟩:=d
  obtain⟨ha,hb⟩:=hd
  simp only at ha hb e
  split at e
  ·
   rename_i k root path blk
   split at e
   ·cases e
   rename_i hz
   have hz:blk.fz=false:=by simpa using hz
   split at e
   ·rename_i n ww xs hg
    split at e
    ·rename_i xs' e2
     have:=TV.as_eq e2
     cases this
     split at e
     ·rename_i z hs
      cases e
      obtain⟨ds,hsrc,hds⟩:=srcV_sound hI g2 hx e1 hc
      obtain⟨k',hk',hL⟩:=blkL_some hb
      cases hk'
      obtain⟨rfl,hok,hw⟩:=repAV_whole.1 ha blk hL
      rcases hw with⟨h1,h2,h3,h4,h5⟩|⟨bb,cap,m,u',off,h1,h2,h3⟩
      ·subst h3
       have hx0:List.length xs'=0:=by
        simp only[getP,Option.some.injEq] at hg
        have:blk.len=List.length xs':=by obtain⟨row,t,x,fz⟩:=blk;cases hg;rfl
        omega
       refine copy_nil hI hop hcal hargs hat g1 g2 hsrc hni hL h1 h2 h4 h5 ?_ (by rw[hx0];exact Nat.min_zero _)
       obtain⟨row,t,x,fz⟩:=blk
       simp only[getP,Option.some.injEq] at hg
       cases hg
       simp only[setP] at hs
       have:=TV.as_eq hs
       cases this
       simp only[lenT,List.length_append,List.length_take,List.length_drop]
       omega
      ·obtain⟨hu,hm,l1,l2,_⟩:=own_list hI.rel hL (blkL_shut hb) h1 hok hg h2
       rw[l1] at h3
       have heq:List.take (List.length xs') ys++List.drop ys.length xs'=xs'.take 0++(ys.take (List.length xs')++xs'.drop (0+min ys.length (List.length xs'))):=by
        rw[List.take_zero,List.nil_append,Nat.zero_add]
        congr 1
        by_cases hle:ys.length≤List.length xs'
        ·rw[Nat.min_eq_left hle]
        ·rw[Nat.min_eq_right (by omega),List.drop_eq_nil_of_le (by omega),List.drop_eq_nil_of_le (Nat.le_refl _)]
       rw[heq] at hs
       exact copy_core hI hop hcal hargs hat g1 g2 hsrc hni hds hL h1 hz hok hg h2 (s:=0) (l:=List.length xs') (by omega) h3 (fun _=>by have:=hI.rel.base0 hL h1 hz;omega) hs
     ·cases e
    ·cases e
   ·cases e
  ·
   rename_i k root path s l blk
   split at e
   ·cases e
   rename_i hz
   have hz:blk.fz=false:=by simpa using hz
   split at e
   ·rename_i n ww xs hg
    split at e
    ·rename_i xs' e2
     have:=TV.as_eq e2
     cases this
     split at e
     ·rename_i z hs
      cases e
      obtain⟨c1,c2⟩:=mem2 hc
      have hsl:s+l≤List.length xs':=one_mem c2
      obtain⟨ds,hsrc,hds⟩:=srcV_sound hI g2 hx e1 c1
      obtain⟨k',hk',hL⟩:=blkL_some hb
      cases hk'
      obtain⟨rfl,hok,hw⟩:=repAV_sub.1 ha blk hL
      rcases hw with⟨h1,h2,h3,h4,h5,h6,h7⟩|⟨bb,cap,m,u',off,off',h1,h2,h3,h4,h5⟩
      ·subst h3;subst h5;subst h6
       refine copy_nil hI hop hcal hargs hat g1 g2 hsrc hni hL h1 h2 h4 h7 ?_ (Nat.min_zero _)
       have hx0:List.length xs'=0:=by
        simp only[getP,Option.some.injEq] at hg
        have:blk.len=List.length xs':=by obtain⟨row,t,x,fz⟩:=blk;cases hg;rfl
        omega
       obtain⟨row,t,x,fz⟩:=blk
       simp only[getP,Option.some.injEq] at hg
       cases hg
       simp only[setP] at hs
       have:=TV.as_eq hs
       cases this
       simp only[lenT,List.length_append,List.length_take,List.length_drop]
       omega
      ·obtain⟨hu,hm,l1,l2,_⟩:=own_list hI.rel hL (blkL_shut hb) h1 hok hg h2
       subst hu
       exact copy_core hI hop hcal hargs hat g1 g2 hsrc hni hds hL h1 hz hok hg h2 (s:=s) (l:=l) hsl h3 (fun hl0=>by have q:=hI.rel.base0 hL h1 hz;have:=h5 (by omega);rw[q,Nat.zero_add] at this;exact this) hs
     ·cases e
    ·cases e
   ·cases e
  ·cases e
 ·cases e
end
end Lc
