/- The engine, part N, second text: maps. -/
import Derived.Test.YtlhdieoemhjjiaaGreatDoorEngN
import Derived.WideKeyRuns
set_option linter.unusedVariables false
set_option linter.unusedSimpArgs false
namespace Lc
open Go Go.RowKit
section
variable {P : Program} {F : FH} {w : World}
theorem ints_agg {n:Nat}{q:IntKind}{x:List Int}{v:Value}(h:RepV F (.arr n (.int q)) x v):x.length=n∧v= .agg (x.map (Value.int q)).toArray:=by
 obtain⟨cs,rfl,h1,h2⟩:∃cs:List Value,v= .agg cs.toArray∧Rep F (.arr n (.int q)) x cs:=h
 exact⟨h1,by rw[(repL_ints x cs).1 h2]⟩
theorem check_ints {n:Nat}{q:IntKind}{id:TypeId}(ht:TyOk P (.arr n (.int q)) id){x:List Int}{v:Value}(hv:RepV F (.arr n (.int q)) x v)(em:Bool):(Instr.checkKey em 10000 id v).run P w= .ok () w:=by
 obtain⟨hl,rfl⟩:=ints_agg hv
 obtain⟨e,hu,he⟩:=ht.arr
 rw[show(10000:Nat)=9999+1 from rfl,Instr.checkKey]
 simp only[Sem.run_bind,run_underlying hu,Result.andThen_ok]
 simp only[Std.Legacy.Range.forIn_eq_forIn_range',Std.Legacy.Range.size,Nat.sub_zero,Nat.add_one_sub_one,Nat.div_one]
 have each:∀j,j∈List.range' 0 n→j<n:=by intro j hj;simp[List.mem_range'] at hj;omega
 generalize List.range' 0 n=is at each
 induction is with
 |nil=>simp
 |cons j is ih=>
  have hj:=each j (by simp)
  have p1:=run_part' he w (x.map (Value.int q)).toArray (j*1) (by simp[Ty.size];omega)
  simp only[List.toList_toArray] at p1
  have hg:((x.map (Value.int q)).drop (j*1)).take (Ty.int q).size=[Value.int q (x.getD j 0)]:=by
   rw[Nat.mul_one]
   simp only[Ty.size]
   rw[List.drop_eq_getElem_cons (by simp;omega)]
   simp[List.getD_eq_getElem?_getD,show j<x.length by omega]
  rw[hg] at p1
  have p2:(Instr.checkKey em 9999 e (.int q (x.getD j 0))).run P w= .ok () w:=by
   rw[show(9999:Nat)=9998+1 from rfl,Instr.checkKey]
   simp[run_underlying he.int]
  have hm:mkV (.int q) [Value.int q (x.getD j 0)]= .int q (x.getD j 0):=rfl
  rw[hm] at p1
  have hs:(Go.sizeOf e).run P w= .ok 1 w:=run_sizeOf' he w
  simp only[List.forIn_cons,Sem.run_bind,hs,Result.andThen_ok,p1,p2,Sem.run_pure]
  exact ih (fun y hy=>each y (by simp[hy]))
theorem bits_ints (q:IntKind)(x:List Int):Instr.sameBits 10000 (.agg (x.map (Value.int q)).toArray) (.agg (x.map (Value.int q)).toArray)=true:=by
 rw[show(10000:Nat)=9999+1 from rfl]
 simp only[Instr.sameBits,beq_self_eq_true,Bool.true_and,List.all_eq_true,List.toList_toArray]
 intro p hp
 have:∀(l:List Int) (p:Value×Value),p∈(l.map (Value.int q)).zip (l.map (Value.int q))→∃n,p=(.int q n,.int q n):=by
  intro l
  induction l with
  |nil=>intro p h;cases h
  |cons a l ih=>
   intro p h
   simp only[List.map_cons,List.zip_cons_cons,List.mem_cons] at h
   rcases h with h|h
   ·exact⟨a,h⟩
   ·exact ih p h
 obtain⟨n,rfl⟩:=this x p hp
 simp[Instr.sameBits]
theorem find_rep {n:Nat}{q:IntKind}{V:Ty}{kt:TypeId}(ht:TyOk P (.arr n (.int q)) kt){k:List Int}{kv:Value}(hk:RepV F (.arr n (.int q)) k kv)(v:V.den)(d:V.den):
 ∀(xs:List (List Int×V.den)) (es:List MapEntry) (j:Nat),RepM F (.arr n (.int q)) V xs es→
  (mhas (.arr n (.int q)) V k xs=false∧(Instr.findAsking kt kv es j).run P w= .ok none w∧mget (.arr n (.int q)) V k d xs=d∧∀e:MapEntry,e.key=kv→RepV F V v e.val→RepM F (.arr n (.int q)) V (mput (.arr n (.int q)) V k v xs) (es++[e]))∨
  (mhas (.arr n (.int q)) V k xs=true∧∃i val,(Instr.findAsking kt kv es j).run P w= .ok (some (j+i,val)) w∧i<es.length∧RepV F V (mget (.arr n (.int q)) V k d xs) val∧(es[i]?).map (·.key)=some kv∧
    ∀e:MapEntry,e.key=kv→RepV F V v e.val→RepM F (.arr n (.int q)) V (mput (.arr n (.int q)) V k v xs) (es.set i e)):=by
 intro xs
 induction xs with
 |nil=>
  rintro es j rfl
  exact .inl ⟨rfl,rfl,rfl,fun e h1 h2=>⟨e,[],rfl,by rw[h1];exact hk,h2,rfl⟩⟩
 |cons x xs ih=>
  rintro es j ⟨e0,r,rfl,h1,h2,h3⟩
  have heq:=(equal_rep (P:=P) (F:=F) (.arr n (.int q)) rfl).1 kt Op.maxDepth kv e0.key k x.1 w ht (by simp[Op.maxDepth,Ty.dep]) hk h1
  have hrun:(Instr.findAsking kt kv (e0::r) j).run P w=if(Ty.arr n (.int q)).beq k x.1 then .ok (some (j,e0.val)) w else(Instr.findAsking kt kv r (j+1)).run P w:=by
   simp only[Instr.findAsking,Sem.run_bind,Op.equal,heq,Result.andThen_ok]
   split<;>rfl
  cases hb:(Ty.arr n (.int q)).beq k x.1 with
  |true=>
   have hx:=(Ty.beq_iff _ _ _).1 hb
   right
   refine⟨by simp only[mhas,hb,if_true],0,e0.val,by rw[hrun,hb];rfl,by simp,by simp only[mget,hb,if_true];exact h2, ?_,fun e g1 g2=> ?_⟩
   ·obtain⟨_,e1⟩:=ints_agg hk
    obtain⟨_,e2⟩:=ints_agg h1
    simp only[List.getElem?_cons_zero,Option.map_some,Option.some.injEq]
    rw[e1,e2,hx]
   ·simp only[mput,hb,if_true,List.set_cons_zero]
    exact⟨e,r,rfl,by rw[g1];exact hk,g2,h3⟩
  |false=>
   rcases ih r (j+1) h3 with⟨a1,a2,a3,a4⟩|⟨a1,i,val,a2,a3,a4,a5,a6⟩
   ·left
    refine⟨by simp only[mhas,hb,Bool.false_eq_true,if_false];exact a1,by rw[hrun,hb];exact a2,by simp only[mget,hb,Bool.false_eq_true,if_false];exact a3,fun e g1 g2=> ?_⟩
    simp only[mput,hb,Bool.false_eq_true,if_false]
    exact⟨e0,r++[e],rfl,h1,h2,a4 e g1 g2⟩
   ·right
    refine⟨by simp only[mhas,hb,Bool.false_eq_true,if_false];exact a1,i+1,val,by rw[hrun,hb];simp only[Bool.false_eq_true,if_false];rw[a2];congr 3;omega,by simp;omega,by simp only[mget,hb,Bool.false_eq_true,if_false];exact a4,by simpa using a5,fun e g1 g2=> ?_⟩
    simp only[mput,hb,Bool.false_eq_true,if_false,List.set_cons_succ]
    exact⟨e0,r.set i e,rfl,h1,h2,a6 e g1 g2⟩
theorem run_find {n:Nat}{q:IntKind}{kt:TypeId}(ht:TyOk P (.arr n (.int q)) kt)(kv:Value)(es:List MapEntry):(Instr.findKey kt kv es).run P w=(Instr.findAsking kt kv es).run P w:=by
 obtain⟨e,hu,_⟩:=ht.arr
 exact run_findKey_eq w (by rw[hu]) kv es
end
section
variable {E : Env} {B0 : Nat → Prop} {F : FH} {ρ : RM} {L : HL} {w : World} {o : Oper} {ev : Operand → Value} {r : Res}
theorem repAV_mref {k:Nat}{v:Value}:RepAV F ρ L (.mref k) v↔∀blk,L k=some (some blk)→∃b cap,ρ k=some (b,cap)∧v= .map (some b):=by
 constructor
 ·intro h;obtain⟨v',h1,h2⟩:=repA_nt h rfl;simp at h1;subst h1;exact h2
 ·intro h;exact repAV_nt rfl ⟨v,rfl,h⟩
theorem HRel.mapAt {H:Array Obj}(h:HRel F ρ L H B0){k:Nat}{K V:Ty}{xs:List (K.den×V.den)}{lk:List (List Stp×Nat)}(hk:L k=some (some ⟨true,.map K V,xs,false,lk⟩)){b:Nat}{cap:Cap}(hr:ρ k=some (b,cap)):
 cap=(0,0)∧B0 b∧∃es clock,H[b]? =some (.map es clock)∧RepM F K V xs es.toList:=by
 rcases h.blk _ _ hk with g|⟨b',cap',c,e,fr,hd,cs,rest,g1,g2,g3,g4,g5,g6,g7⟩|⟨K',V',xs',_,_,g,b',es,clock,g1,g2,g3,g4⟩
 ·rw[g] at hr;cases hr
 ·simp only[RepC,Bool.true_eq_false,false_and] at g6
 ·rw[g1] at hr
  cases hr
  cases g
  exact⟨rfl,g2,es,clock,g3,g4⟩
theorem sound_makeMap (hI:In E B0 F ρ L w){t:TypeId}{res:Option Operand}{args:List (AV×Option Blk)}(hop:o.op= .makeMap t res)(ha:ArgsOk F ρ L args (res.toArray.toList.map ev))(hnew:∀p,p∈r.new→L p.1=none)
 (e:evalMakeMap (E.ty t) o.dst args=some r):Does E.P o ev w (Post B0 F ρ L w r.v (r.L L)):=by
 unfold evalMakeMap at e
 have fin:∀(K V:Ty) (d:Nat),r=⟨[],.mref d,[(d,⟨true,.map K V,[],false,[]⟩)],[],[]⟩→(execOp ev o).run E.P w= .ok (.value (.map (some w.heap.size))) (w.alloc (.map #[] 0))→Does E.P o ev w (Post B0 F ρ L w r.v (r.L L)):=by
  rintro K V d rfl hrun
  rw[L_new]
  have hk:L d=none:=hnew _ (List.mem_singleton.2 rfl)
  refine does_ok hrun ⟨F,upd ρ d (some (w.heap.size,(0,0))), ?_,hI.rel.freshMap hk K V hI.size,FH.le.rfl,fun _ _=>rfl,LLe.fresh hk _ _,(Kept.refl _ _).alloc hI.size _⟩
  exact repAV_mref.2 (fun blk _=>⟨w.heap.size,(0,0),by rw[upd_same],rfl⟩)
 split at e
 ·rename_i K V d ht hd
  cases e
  cases res with
  |some x=>exact ha.elim
  |none=>exact fin K V d rfl (by simp[execOp,hop,Instr.makeMap,newObj];rfl)
 ·rename_i K V d a b ht hd
  split at e
  ·rename_i n hn
   cases e
   cases res with
   |none=>exact ha.elim
   |some x=>
    obtain⟨kd,hx⟩:=num_rep ha.1.1 hn
    obtain⟨ka,kb,hu,_⟩:=(hI.env.ty _ _ ht).map
    exact fin K V d rfl (by simp[execOp,hop,Instr.makeMap,hx,run_underlying hu,asInt,asIntOf,newObj];rfl)
  ·cases e
 ·cases e
theorem key_rep {H:Array Obj}(hR:HRel F ρ L H B0){av:AV}{v:Value}{n:Nat}{q:IntKind}{kx:List Int}(hy:RepAV F ρ L av v)(e2:deepV false (.arr n (.int q)) av none=some (kx,[])):RepV F (.arr n (.int q)) kx v:=by
 have hb:(none:Option Blk)=blkL L av:=by cases av<;>simp only[deepV] at e2<;>first|rfl|(cases e2;done)
 exact repV_flat rfl (deepV_sound (E:=false) hR hy hb e2 (fun c hc=>by cases hc))
theorem sound_lookup (hI:In E B0 F ρ L w){t:TypeId}{X Y:Operand}{ok:Bool}{x y:AV×Option Blk}(hop:o.op= .lookup t X Y ok)(hx:Arg F ρ L x (ev X))(hy:RepAV F ρ L y.1 (ev Y))(e:evalLookup (E.ty t) ok x y.1=some r):
 Does E.P o ev w (Post B0 F ρ L w r.v (r.L L)):=by
 obtain⟨a,b⟩:=x
 obtain⟨ha,hb⟩:=hx
 simp only at ha hb
 unfold evalLookup at e
 simp only at e
 split at e
 ·rename_i n q V k u xs lk ht
  split at e
  ·rename_i xs' kx e1 e2
   have:=TV.as_eq e1
   cases this
   obtain⟨k',hk',hL⟩:=blkL_some hb
   cases hk'
   obtain⟨bb,cap,h1,h2⟩:=repAV_mref.1 ha _ hL
   obtain⟨rfl,g1,es,clock,g2,g3⟩:=hI.rel.mapAt hL h1
   obtain⟨kt,vt,hu,hkt,hvt⟩:=(hI.env.ty _ _ ht).map
   have hkv:RepV F (.arr n (.int q)) kx (ev Y):=key_rep hI.rel hy e2
   obtain⟨z,z1,z2,_⟩:=run_zeroValue' hvt
   have hfind:=find_rep (w:=w) hkt hkv V.dflt V.dflt xs' es.toList 0 g3
   have hget:(getObj bb).run E.P w= .ok (.map es clock) w:=MapKept.run_getObj_map g2
   have run:∀(rv:Value) (rb:Bool),((∃i,(Instr.findAsking kt (ev Y) es.toList 0).run E.P w= .ok (some (i,rv)) w)∧rb=true)∨((Instr.findAsking kt (ev Y) es.toList 0).run E.P w= .ok none w∧rv=z∧rb=false)→
    (execOp ev o).run E.P w= .ok (.value (if ok then .tuple #[rv,.bool rb] else rv)) w:=by
    intro rv rb h
    have hl:(Instr.lookup t (ev X) (ev Y) ok).run E.P w= .ok (if ok then .tuple #[rv,.bool rb] else rv) w:=by
     rw[h2]
     rcases h with⟨⟨i,h⟩,rfl⟩|⟨h,rfl,rfl⟩
     ·simp[Instr.lookup,run_underlying hu,hget,check_ints hkt hkv,run_find hkt,h]
     ·simp[Instr.lookup,run_underlying hu,hget,check_ints hkt hkv,run_find hkt,h,z1]
    simp[execOp,hop,hl]
   have key:∃rv,RepV F V (mget (.arr n (.int q)) V kx V.dflt xs') rv∧(execOp ev o).run E.P w= .ok (.value (if ok then .tuple #[rv,.bool (mhas (.arr n (.int q)) V kx xs')] else rv)) w:=by
    rcases hfind with⟨a1,a2,a3,_⟩|⟨a1,i,val,a2,_,a4,_⟩
    ·exact⟨z,by rw[a3];exact z2 F,run z _ (.inr ⟨a2,rfl,a1⟩)⟩
    ·exact⟨val,a4,run val _ (.inl ⟨⟨_,a2⟩,a1⟩)⟩
   obtain⟨rv,hrv,hrun⟩:=key
   split at e
   ·rename_i hok
    cases e
    rw[hok] at hrun
    refine does_pure hI hrun ?_ rfl
    refine⟨[rv,.bool _],rfl,rv,[.bool _],rfl,⟨rv,rfl,hrv⟩,.bool _,[],rfl,⟨_,rfl,repV_bool.2 rfl⟩,rfl⟩
   ·rename_i hok
    cases e
    have hok:ok=false:=by simpa using hok
    rw[hok] at hrun
    exact does_pure hI hrun (repAV_val.2 hrv) rfl
  ·cases e
 ·cases e
theorem sound_mapUpdate (hI:In E B0 F ρ L w){t:TypeId}{X Y Z:Operand}{x y z:AV×Option Blk}(hop:o.op= .mapUpdate t X Y Z∨o.op= .insert t X Y Z)(hx:Arg F ρ L x (ev X))(hy:RepAV F ρ L y.1 (ev Y))(hz:Arg F ρ L z (ev Z))
 (e:evalMapUpdate (E.ty t) x y.1 z=some r) (hc:∀c,c∈r.cs→c):Does E.P o ev w (Post B0 F ρ L w r.v (r.L L)):=by
 obtain⟨a,b⟩:=x
 obtain⟨ha,hb⟩:=hx
 simp only at ha hb
 unfold evalMapUpdate at e
 simp only at e
 split at e
 ·rename_i n q V k u xs lk ht
  split at e
  ·rename_i xs' kx vx cs e1 e2 e3
   have:=TV.as_eq e1
   cases this
   cases e
   obtain⟨k',hk',hL⟩:=blkL_some hb
   cases hk'
   obtain⟨bb,cap,h1,h2⟩:=repAV_mref.1 ha _ hL
   obtain⟨rfl,g1,es,clock,g2,g3⟩:=hI.rel.mapAt hL h1
   obtain⟨kt,vt,hu,hkt,hvt⟩:=(hI.env.ty _ _ ht).map
   have hkv:RepV F (.arr n (.int q)) kx (ev Y):=key_rep hI.rel hy e2
   have hvv:RepV F V vx (ev Z):=deepV_sound (E:=true) hI.rel hz.1 hz.2 e3 hc
   have hfind:=find_rep (w:=w) hkt hkv vx V.dflt xs' es.toList 0 g3
   have hget:(getObj bb).run E.P w= .ok (.map es clock) w:=MapKept.run_getObj_map g2
   have hset:∀ob:Obj,(setObj bb ob).run E.P w= .ok () {w with heap:=w.heap.setIfInBounds bb ob}:=by
    intro ob;exact MapKept.run_setObj_map ob g2
   have fin:∀(es':Array MapEntry) (clock':Nat),RepM F (.arr n (.int q)) V (mput (.arr n (.int q)) V kx vx xs') es'.toList→(Instr.mapUpdate t (ev X) (ev Y) (ev Z)).run E.P w= .ok () {w with heap:=w.heap.setIfInBounds bb (.map es' clock')}→
    Does E.P o ev w (Post B0 F ρ L w .tnil ((⟨cs,.tnil,[],[(k,⟨true,.map (.arr n (.int q)) V,mput (.arr n (.int q)) V kx vx xs',false,[]⟩)],[]⟩:Res).L L)):=by
    intro es' clock' hrep hrun
    rw[L_set]
    have e0:upd (upd L k (some none)) k (some (some (⟨true,.map (.arr n (.int q)) V,mput (.arr n (.int q)) V kx vx xs',false,[]⟩:Blk)))=upd L k (some (some ⟨true,.map (.arr n (.int q)) V,mput (.arr n (.int q)) V kx vx xs',false,[]⟩)):=by
     funext m;by_cases h:m=k<;>simp[upd,h]
    rw[e0]
    have hrel:=hI.rel.setMap (lk:=lk) (ys:=mput (.arr n (.int q)) V kx vx xs') (clock':=clock') hL h1 g2 hrep
    refine does_skip (w':={w with heap:=w.heap.setIfInBounds bb (.map es' clock')}) ?_ ⟨F,ρ, ?_,hrel,FH.le.rfl,fun _ _=>rfl, ?_,below_set g1 _⟩
    ·rcases hop with hop|hop<;>simp[execOp,hop,hrun]
    ·simp only[RepAV,AV.isTup,if_true];exact⟨[],rfl,rfl⟩
    ·intro m hm blk' hb'
     by_cases hmk:m=k
     ·subst hmk
      rw[upd_same] at hb'
      cases hb'
      exact⟨_,hL,rfl,rfl,rfl,rfl⟩
     ·rw[upd_ne _ _ hmk] at hb'
      exact⟨blk',hb',rfl,rfl,rfl,rfl⟩
   rcases hfind with⟨a1,a2,_,a4⟩|⟨a1,i,val,a2,a3,_,a5,a6⟩
   ·refine fin (es.push {key:=ev Y,val:=ev Z,born:=clock}) (clock+1) (by simpa using a4 _ rfl hvv) ?_
    rw[h2]
    simp[Instr.mapUpdate,run_underlying hu,hget,check_ints hkt hkv,run_find hkt,a2,hset]
   ·have hi:i<es.size:=by simpa using a3
    rw[Nat.zero_add] at a2
    have hold:(es[i]?).map (·.key)=some (ev Y):=by simpa using a5
    have hstay:(Instr.keyThatStays (((es[i]?).map (·.key)).getD (ev Y)) (ev Y)).run E.P w= .ok (ev Y) w:=by
     rw[hold]
     obtain⟨_,hagg⟩:=ints_agg hkv
     simp only[Option.getD_some,Instr.keyThatStays]
     rw[hagg,bits_ints];rfl
    refine fin (es.modify i fun e=>{e with key:=ev Y,val:=ev Z}) clock ?_ ?_
    ·have:=a6 {es[i] with key:=ev Y,val:=ev Z} rfl hvv
     have e5:(es.modify i fun e=>{e with key:=ev Y,val:=ev Z}).toList=es.toList.set i {es[i] with key:=ev Y,val:=ev Z}:=by
      apply List.ext_getElem?
      intro m
      simp only[Array.toList_modify,List.getElem?_modify,List.getElem?_set]
      by_cases hm:i=m
      ·subst hm;simp[hi]
      ·simp[hm]
     rw[e5];exact this
    ·rw[h2]
     simp[Instr.mapUpdate,run_underlying hu,hget,check_ints hkt hkv,run_find hkt,a2,hstay,hset]
  ·cases e
 ·cases e
end
end Lc
namespace Lc
open Go Go.RowKit
section
variable {E : Env} {B0 : Nat → Prop} {F : FH} {ρ : RM} {L : HL} {w : World} {o : Oper} {ev : Operand → Value} {r : Res}
theorem cap_rep {H:Array Obj}(hR:HRel F ρ L H B0){a:AV}{b:Option Blk}{v:Value}{tv:TV}(ha:RepAV F ρ L a v)(hb:b=blkL L a)(e:capAV a b=some tv):RepV F tv.t tv.x v:=by
 unfold capAV at e
 split at e
 ·cases e;exact repAV_val.1 ha
 ·cases e
  obtain⟨bb,off,cs,hv,h1,h2⟩:=repAV_cptr.1 ha
  subst hv
  simp only[RepV,Ty.isAgg]
  exact⟨bb,off,cs,rfl,h1,h2⟩
 ·rename_i k root path blk
  split at e
  ·rename_i hz
   simp only[Bool.and_eq_true,Bool.not_eq_true'] at hz
   obtain⟨hz,hrow⟩:=hz
   split at e
   ·rename_i t x hg
    cases e
    obtain⟨k',hk',hL⟩:=blkL_some hb
    cases hk'
    obtain⟨rfl,hok,bb,cap,u',off,h1,h2,h3⟩:=repAV_ptr.1 ha blk hL
    obtain⟨c,eid,fr,hd,cl,rest,g1,g2,g3,g4,g5,g6⟩:=hR.live hL h1 (notMap_row h2 hrow) (blkL_shut hb)
    obtain⟨o2,n1,n2,n3⟩:=blk_get g5 hok hrow hg
    rw[h2] at n1;cases n1
    subst h3
    simp only[RepV,Ty.isAgg]
    exact⟨bb,cap.2+off,_,rfl,n3,fun i c hc=>by rw[Nat.add_assoc,g6,if_pos hz];exact take_drop_get hc⟩
   ·cases e
  ·cases e
 ·cases e
theorem fn_cap {f:Nat}{c:Ty}{x:c.den}{v:Value}:RepV F (.fn f c) x v↔∃cv,v= .func (.func f) #[] #[cv]∧RepV F c x cv:=by
 constructor
 ·rintro⟨cv,h1,h2⟩
  simp only[List.cons.injEq,and_true] at h1
  exact⟨cv,h1,h2⟩
 ·rintro⟨cv,rfl,h2⟩
  exact⟨cv,rfl,h2⟩
theorem sound_makeFunc (hI:In E B0 F ρ L w){fn:Fn}{first captured:Array Operand}{args:List (AV×Option Blk)}(hop:o.op= .makeFunc fn first captured)(ha:ArgsOk F ρ L args ((first++captured).toList.map ev))
 (e:evalMakeFunc fn first.size args=some r):Does E.P o ev w (Post B0 F ρ L w r.v (r.L L)):=by
 unfold evalMakeFunc at e
 split at e
 ·rename_i f a b hsz
  split at e
  ·rename_i tv htv
   cases e
   have hf:first= #[]:=Array.eq_empty_of_size_eq_zero hsz
   subst hf
   simp only[Array.empty_append] at ha
   obtain⟨X,hX⟩:∃X,captured.toList=[X]:=by
    match hc:captured.toList,ha with
    |[X],_=>exact⟨X,rfl⟩
    |[],ha=>exact ha.elim
    |_::_::_,ha=>exact ha.2.elim
   rw[hX] at ha
   have hcap:captured= #[X]:=by apply Array.ext';simpa using hX
   have hr:=cap_rep hI.rel ha.1.1 ha.1.2 htv
   refine does_pure hI (v:= .func (.func f) #[] #[ev X]) ?_ (repAV_val.2 (fn_cap.2 ⟨ev X,rfl,hr⟩)) rfl
   simp[execOp,hop,Instr.makeFunc,hcap]
  ·cases e
 ·cases e
theorem argsOk_snoc {a:AV×Option Blk}{v:Value}(h:Arg F ρ L a v):∀(as:List (AV×Option Blk)) (vs:List Value),ArgsOk F ρ L as vs→ArgsOk F ρ L (as++[a]) (vs++[v])
 |[],[],_=>⟨h,trivial⟩
 |_::as,_::vs,h2=>⟨h2.1,argsOk_snoc h as vs h2.2⟩
 |[],_::_,h2=>h2.elim
 |_::_,[],h2=>h2.elim
theorem sound_callC (hI:In E B0 F ρ L w)(hgl:GlobOk E.glob F){c:Call}{X:Operand}{args:List (AV×Option Blk)}{f:FuncId}{cn:Con}{cv:Value}(hop:o.op= .call c)(hcal:c.callee= .value X)(hX:ev X= .func (.func f) #[] #[cv])
 (hs:Sound E.P E.glob f cn) (ha:ArgsOk F ρ L args (c.args.toList.map ev++[cv])) {xs:Tup cn.params} {cs:List Prop} (hargs:mkArgs (!(cn.rets.all RK.flatOk)) cn.params args=some (xs,cs)) (hcs:∀c,c∈cs→c) (hpre:cn.pre xs)
 {d:Nat} (hnew:∀p,p∈(mkRets E.fz d 0 cn.rets (cn.fn xs)).2→L p.1=none) (hkn:((mkRets E.fz d 0 cn.rets (cn.fn xs)).2.map (·.1)).Nodup):
 Does E.P o ev w (Post B0 F ρ L w (oneAV cn.rets (mkRets E.fz d 0 cn.rets (cn.fn xs)).1) (withNew (mkRets E.fz d 0 cn.rets (cn.fn xs)).2 L)):=by
 obtain⟨fn,hf1,hf2,hf3⟩:=hs.fn
 have hrun:(execOp ev o).run E.P w= .ok (.enter f (c.args.toList.map ev++[cv]).toArray) w:=by
  have e1:c.args.map ev++ #[cv]=(c.args.toList.map ev++[cv]).toArray:=by apply Array.ext';simp
  have hn:fn.name≠ "runtime.NumGoroutine" :=by simpa using hf2
  have hb:fn.body≠none:=by intro h;rw[h] at hf3;cases hf3
  simp only[execOp,hop,resolve,hcal,hX,Deferred.ofValue,invoke,callFunc,Sem.run_bind,Sem.run_pure,Result.andThen_ok,Array.empty_append]
  rw[←e1]
  simp[hf1,hn,hb]
 have hrep:=mkArgs_sound hI _ _ _ _ _ _ ha hargs hcs
 have hFl:F.le (if(!(cn.rets.all RK.flatOk)) then F else full w.heap):=by
  split
  ·exact FH.le.rfl
  ·exact hI.rel.le_full
 have hcons:∀b i v,(if(!(cn.rets.all RK.flatOk)) then F else full w.heap) b i=some v→cellAt w.heap b i=some v:=by
  split
  ·exact hI.rel.cons
  ·exact fun _ _ _ h=>h
 refine does_enter hrun ((hs.calls _ w xs _ hcons (hgl.mono hFl) hrep hpre).mono ?_)
 rintro e w' ⟨v,F1,rv,bs,rfl,k1,k2,k3,k4,k5,k6,k7⟩
 exact⟨v,rfl,call_post hI k1 k2 k3 k4 k5 k6 k7 hnew hkn⟩
theorem sound_extC (hI:In E B0 F ρ L w){c:Call}{X:Operand}{args:List (AV×Option Blk)}{f:FuncId}{cn:Con}{cv:Value}(hop:o.op= .call c)(hcal:c.callee= .value X)(hX:ev X= .func (.func f) #[] #[cv])
 (hs:SoundE E.P f cn) (ha:ArgsOk F ρ L args (c.args.toList.map ev++[cv])) {xs:Tup cn.params} {cs:List Prop} (hargs:mkArgs (!(cn.rets.all RK.flatOk)) cn.params args=some (xs,cs)) (hcs:∀c,c∈cs→c) (hpre:cn.pre xs)
 {d:Nat} (hnew:∀p,p∈(mkRets E.fz d 0 cn.rets (cn.fn xs)).2→L p.1=none) (hkn:((mkRets E.fz d 0 cn.rets (cn.fn xs)).2.map (·.1)).Nodup):
 Does E.P o ev w (Post B0 F ρ L w (oneAV cn.rets (mkRets E.fz d 0 cn.rets (cn.fn xs)).1) (withNew (mkRets E.fz d 0 cn.rets (cn.fn xs)).2 L)):=by
 have hrep:=mkArgs_sound hI _ _ _ _ _ _ ha hargs hcs
 have hcons:∀b i v,(if(!(cn.rets.all RK.flatOk)) then F else full w.heap) b i=some v→cellAt w.heap b i=some v:=by
  split
  ·exact hI.rel.cons
  ·exact fun _ _ _ h=>h
 obtain⟨v,rv,h1,h2,h3⟩:=hs.run _ w xs _ hrep hpre
 have hrun:(execOp ev o).run E.P w= .ok (.value v) w:=by
  have e1:c.args.map ev++ #[cv]=(c.args.toList.map ev++[cv]).toArray:=by apply Array.ext';simp
  simp only[execOp,hop,resolve,hcal,hX,Deferred.ofValue,invoke,Sem.run_bind,Sem.run_pure,Result.andThen_ok,Array.empty_append]
  rw[e1,h1]
 exact does_ok hrun (call_post hI FH.le.rfl (fun _ _=>rfl) hcons h2 List.nodup_nil h3 (Below.refl _ _) hnew hkn)
theorem sound_tail (hI:In E B0 F ρ L w){t:TypeId}{X LO:Operand}{x:AV×Option Blk}{l:AV}(hop:o.op= .slice t X (some LO) none none)(hx:Arg F ρ L x (ev X))(hl:RepAV F ρ L l (ev LO))(hnew:∀p,p∈r.new→L p.1=none)
 (e:evalTail (E.ty t) o.dst x l=some r) (hc:∀c,c∈r.cs→c):Does E.P o ev w (Post B0 F ρ L w r.v (r.L L)):=by
 obtain⟨a,b⟩:=x
 obtain⟨ha,hb⟩:=hx
 simp only at ha hb
 unfold evalTail at e
 simp only at e
 split at e
 ·rename_i u k root m ww xs lk d n ht hd hn
  split at e
  ·rename_i xs' e2
   have:=TV.as_eq e2
   cases this
   cases e
   obtain⟨l0,l1⟩:=one_mem hc
   obtain⟨kd,hv⟩:=num_rep hl hn
   have hk:L d=none:=hnew _ (List.mem_singleton.2 rfl)
   obtain⟨k',hk',hL⟩:=blkL_some hb
   cases hk'
   obtain⟨hrt,hok,hw⟩:=repAV_whole.1 ha _ hL
   obtain⟨eid,g1,g2⟩:=(hI.env.ty _ _ ht).slc
   rcases hw with⟨h1,h2,h3,h4,h5⟩|⟨bb,cap,n',u',off,h1,h2,h3⟩
   ·exfalso
    have h4:List.length xs'=0:=h4
    rw[h4] at l1;omega
   ·have hroot:root= .arr m u:=hrt.symm
    subst hroot
    simp only[Ty.nav,Option.some.injEq,Prod.mk.injEq,Ty.arr.injEq] at h2
    obtain⟨⟨rfl,rfl⟩,rfl⟩:=h2
    simp only[lcap,List.isEmpty_nil,Bool.and_self,if_true,Blk.len,lenT,Nat.add_zero] at h3
    obtain⟨cc,ce,fr,hd2,cl,rest,q1,q2,q3,q4,q5,q6⟩:=hI.rel.live hL h1 rfl (isOpen_row rfl)
    simp only[RepC,if_true] at q5
    have hle:n.toNat<List.length xs':=by omega
    have hcap:¬cap.1=n.toNat:=by have:=q5.2.2;omega
    have hrun:(execOp ev o).run E.P w= .ok (.value (.slice (some ⟨bb,cap.2+n.toNat*u.size,none⟩) (List.length xs'-n.toNat) (cap.1-n.toNat))) w:=by
     have hb1:Bd 0 (some (ev LO)) n:= .inr ⟨kd,by rw[hv]⟩
     have hb2:Bd (List.length xs':Nat) (none:Option Value) ((List.length xs':Nat):Int):= .inl ⟨rfl,rfl⟩
     have hsb:=run_sliceBounds (P:=E.P) (w:=w) true (List.length xs') cap.1 hb1 hb2 ⟨l0,by omega,by have:=q5.2.2;omega⟩
     simp[execOp,hop,h3,Instr.sliceAt,Instr.slice,run_underlying g1,hsb,run_sizeOf' g2,hcap,addr_add]
    rw[L_move]
    refine does_ok hrun ⟨F,_, ?_,hI.rel.tail (n:=n.toNat) hL hk h1 (by omega),FH.le.rfl,fun _ _=>rfl, ?_,Kept.refl _ _⟩
    ·refine repAV_whole.2 (fun blk hL'=> ?_)
     rw[upd_same] at hL'
     cases hL'
     refine⟨rfl,by simp[okB],.inr ⟨bb,(cap.1-n.toNat,cap.2+n.toNat*u.size),0,u,0,by rw[upd_same],rfl, ?_⟩⟩
     simp only[lcap,List.isEmpty_nil,Bool.and_self,if_true,Blk.len,lenT,List.length_drop,Nat.add_zero]
    ·intro k1 hs b1 e1
     by_cases h4:k1=d
     ·subst h4;rw[hk] at hs;cases hs
     ·rw[upd_ne _ _ h4] at e1⊢
      by_cases h5:k1=k
      ·subst h5;rw[upd_same] at e1;cases e1
      ·rw[upd_ne _ _ h5] at e1;exact⟨b1,e1,rfl,rfl,rfl,rfl⟩
  ·cases e
 ·cases e
theorem lkUnder_eq :∀(p q r:List Stp),lkUnder p q=some r→q=p++r:=by
 intro p
 induction p with
 |nil=>intro q r e;simp[lkUnder] at e;subst e;rfl
 |cons s p ih=>
  intro q r e
  cases s with
  |idx i=>simp[lkUnder] at e
  |fld i=>
   cases q with
   |nil=>simp[lkUnder] at e
   |cons s q=>
    cases s with
    |idx j=>simp[lkUnder] at e
    |fld j=>
     simp only[lkUnder] at e
     split at e
     ·rename_i hij
      have:i=j:=by simpa using hij
      subst this
      rw[ih q r e];rfl
     ·cases e
theorem fld_split :∀{p q:List Stp},fldOnly (p++q)=true→fldOnly p=true∧fldOnly q=true:=by
 intro p
 induction p with
 |nil=>intro q h;exact⟨rfl,h⟩
 |cons s p ih=>
  intro q h
  cases s with
  |fld i=>simp only[List.cons_append,fldOnly] at h⊢;exact ih h
  |idx i=>simp[fldOnly] at h
theorem nav_split :∀(root:Ty) (p q:List Stp) (t u:Ty) (o1 o2:Nat),root.nav p=some (t,o1)→root.nav (p++q)=some (u,o2)→fldOnly p=true→∃o',t.nav q=some (u,o')∧o2=o1+o':=by
 intro root
 induction root with
 |pair a b iha ihb=>
  intro p q t u o1 o2 h1 h2 hf
  cases p with
  |nil=>simp[Ty.nav] at h1;obtain⟨rfl,rfl⟩:=h1;exact⟨o2,by simpa using h2,by omega⟩
  |cons s p=>
   cases s with
   |idx i=>simp[fldOnly] at hf
   |fld i=>
    cases i with
    |zero=>
     simp only[List.cons_append,Ty.nav] at h1 h2
     exact iha p q t u o1 o2 h1 h2 hf
    |succ i=>
     simp only[List.cons_append,Ty.nav] at h1 h2
     split at h1
     ·rename_i v ov e
      cases h1
      split at h2
      ·rename_i v2 ov2 e2
       cases h2
       obtain⟨o',q1,q2⟩:=ihb (.fld i::p) q t u ov ov2 e e2 hf
       exact⟨o',q1,by omega⟩
      ·cases h2
     ·cases h1
 |_=>
  intro p q t u o1 o2 h1 h2 hf
  cases p with
  |nil=>simp[Ty.nav] at h1;obtain⟨rfl,rfl⟩:=h1;exact⟨o2,by simpa using h2,by omega⟩
  |cons s p=>cases s<;>simp[Ty.nav,fldOnly] at h1 hf
theorem sound_loadL (hI:In E B0 F ρ L w){t:TypeId}{X:Operand}{x:AV×Option Blk}(hop:o.op= .load t X)(hx:Arg F ρ L x (ev X))(e:evalLoadL (E.ty t) x.1 x.2=some r):Does E.P o ev w (Post B0 F ρ L w r.v (r.L L)):=by
 obtain⟨a,b⟩:=x
 obtain⟨ha,hb⟩:=hx
 simp only at ha hb e
 unfold evalLoadL at e
 split at e
 ·rename_i t' k root path blk ht
  split at e
  ·cases e
  rename_i hrw
  have hrow0:blk.row=false:=by simpa using hrw
  have hrow:(blk.row&&path.isEmpty)=false:=by rw[hrow0];rfl
  split at e
  ·rename_i u y hg
   split at e
   ·rename_i hu;subst hu
    cases e
    obtain⟨k',hk',hL⟩:=blkL_some hb
    cases hk'
    obtain⟨rfl,hok,bb,cap,u',off,h1,h2,h3⟩:=repAV_ptr.1 ha blk hL
    obtain⟨c,e,fr,hd,cl,rest,g1,g2,g3,g4,g5,g6⟩:=hI.rel.live hL h1 (notMap_row h2 hrow) (blkL_shut hb)
    obtain⟨o2,n1,n2,n3⟩:=blk_get g5 hok hrow hg
    rw[h2] at n1;cases n1
    have hty:=hI.env.ty _ _ ht
    have hl:=run_loadVar' hty w bb (cap.2+off) _ (rep_len _ _ _ n3) (fun i c' hc=>by
     have hc2:=take_drop_get hc
     simp only[cellAt,g2]
     rw[Nat.add_assoc];exact at_of g4.1 g4.2.2 hc2)
    have hmk:(mkV u ((cl.drop off).take u.size)).cells.toList=(cl.drop off).take u.size:=by
     have hlen:=rep_len _ _ _ n3
     unfold mkV
     split
     ·simp[Value.cells]
     ·rename_i hag
      have h1':u.size=1:=by cases u<;>simp_all [Ty.isAgg,Ty.size]
      have:((cl.drop off).take u.size).length=1:=by rw[hlen,h1']
      match hq:(cl.drop off).take u.size,this with
      |[q],_=>
       have h8:=rep_one _ _ _ n3 q (by rw[hq];exact List.mem_singleton.2 rfl)
       simp only[List.getElem?_cons_zero,Option.getD_some]
       cases q<;>simp_all [Value.oneCell',Value.cells]
    refine does_pure hI (v:=mkV u ((cl.drop off).take u.size)) ?_ ?_ rfl
    ·simp[execOp,hop,h3,Instr.loadAt,Instr.sureAddr,hl]
    ·refine repAV_nt rfl ⟨_,rfl,repV_mk n3,fun p kk hm=> ?_⟩
     obtain⟨⟨pq,kq⟩,hq1,hq2⟩:=List.mem_filterMap.1 hm
     cases hlu:lkUnder path pq with
     |none=>rw[hlu] at hq2;cases hq2
     |some rr=>
      rw[hlu] at hq2
      simp only[Option.map_some,Option.some.injEq,Prod.mk.injEq] at hq2
      obtain⟨rfl,rfl⟩:=hq2
      have hpe:=lkUnder_eq _ _ _ hlu
      subst hpe
      obtain⟨_,q2⟩:=hI.rel.lnk k blk hL _ _ hq1
      obtain⟨f0,u3,off3,v3,m1,m2,m3⟩:=q2 bb cap h1
      obtain⟨fp,fr'⟩:=fld_split f0
      obtain⟨o',n4,n5⟩:=nav_split _ _ _ _ _ _ _ h2 m1 fp
      subst n5
      have hlt:=nav_le u rr _ _ (fld_ok _ _ _ _ fr' n4) n4
      simp only[Ty.size] at hlt
      simp only at n2
      refine⟨fr',u3,o',v3,n4, ?_,fun b3 hb3=>repAV_whole.1 m3 b3 hb3⟩
      rw[hmk,List.getElem?_take,if_pos (by omega),List.getElem?_drop]
      have hv4:c.toList[cap.2+(off+o')]? =some v3:=by simp only[cellAt,g2] at m2;simpa using m2
      rw[g4.2.2,List.getElem?_append_right (by omega),g4.1,Nat.add_sub_cancel_left,List.getElem?_append_left (by omega)] at hv4
      exact hv4
   ·cases e
  ·cases e
 ·cases e
end
end Lc
namespace Lc
open Go Go.RowKit
section
variable {E : Env} {B0 : Nat → Prop} {F : FH} {ρ : RM} {L : HL} {w : World} {o : Oper} {ev : Operand → Value} {r : Res}
theorem nodup_of {l:List Nat}(h:nodupB l=true):l.Nodup:=by
 induction l with
 |nil=>exact List.nodup_nil
 |cons a l ih=>
  simp only[nodupB,Bool.and_eq_true,Bool.not_eq_true'] at h
  rw[List.nodup_cons]
  exact⟨by simpa using h.1,ih h.2⟩
def ArgsOk' (F:FH)(ρ:RM)(L:HL)(tc:Bool):List (AV×Option Blk)→List Value→Prop
 |[],[]=>True
 |a::as,v::vs=>(RepAV F ρ L a.1 v∧(tc=true→a.2=blkL L a.1))∧ArgsOk' F ρ L tc as vs
 |_,_=>False
theorem ArgsOk'.arg :∀(as:List (AV×Option Blk)) (vs:List Value),ArgsOk' F ρ L true as vs→ArgsOk F ρ L as vs
 |[],[],_=>trivial
 |_::as,_::vs,h=>⟨⟨h.1.1,h.1.2 rfl⟩,ArgsOk'.arg as vs h.2⟩
 |[],_::_,h=>h.elim
 |_::_,[],h=>h.elim
def ArgsOkF (F:FH)(ρ:RM)(L:HL)(tc:Bool):List (AV×Option Blk)→List Value→Prop
 |[],[]=>True
 |a::as,v::vs=>(RepAV F ρ L a.1 v∧(tc=true→a.2=blkF L a.1))∧ArgsOkF F ρ L tc as vs
 |_,_=>False
theorem ArgsOkF.mask :∀{tc:Bool} (as:List (AV×Option Blk)) (vs:List Value),ArgsOkF F ρ L tc as vs→ArgsOk' F ρ L tc (maskA as) vs
 |_,[],[],_=>trivial
 |_,_::as,_::vs,h=>⟨⟨h.1.1,fun e=>by show Lc.mask _=_;rw[h.1.2 e];rfl⟩,ArgsOkF.mask as vs h.2⟩
 |_,[],_::_,h=>h.elim
 |_,_::_,[],h=>h.elim
theorem blkKeys_mask {o:Option Blk}{k:Nat}(h:k∈blkKeys (Lc.mask o)):k∈blkKeys o:=by
 unfold Lc.mask at h
 split at h
 ·split at h
  ·simp[blkKeys] at h
  ·exact h
 ·exact h
theorem keysOf_mask {as:List (AV×Option Blk)}{k:Nat}(h:k∈keysOf (maskA as)):k∈keysOf as:=by
 simp only[keysOf,maskA,List.mem_flatMap,List.mem_map] at h⊢
 obtain⟨_,⟨p,hp,rfl⟩,h2⟩:=h
 refine⟨p,hp, ?_⟩
 simp only[argKeys,List.mem_append] at h2⊢
 exact h2.imp id blkKeys_mask
theorem sound_op (hI:In E B0 F ρ L w)(hgl:GlobOk E.glob F)(hcon:∀f c,E.con f=some c→SoundC E.P E.glob f c){args:List (AV×Option Blk)}
 (ha:ArgsOk' F ρ L (touches o.op) args (o.op.operands.toList.map ev)) (e:evalOp E o.op o.type o.dst args=some r) (hc:∀c,c∈r.cs→c) (hnew:∀p,p∈r.new→L p.1=none) (hnd:(r.new.map (·.1)).Nodup) (hkn:∀k,k∈keysOf args→(L k).isSome):
 Does E.P o ev w (Post B0 F ρ L w r.v (r.L L)):=by
 cases hop:o.op with
 |move x=>
  rw[hop] at e ha
  match args,ha,e with
  |[(a,b)],ha,e=>exact sound_move hI (.inl hop) ha.1.1 e
 |assign x=>
  rw[hop] at e ha
  match args,ha,e with
  |[(a,b)],ha,e=>exact sound_assign hI hop ha.1.1 e
 |nilCheck x=>
  rw[hop] at e ha
  match args,ha,e with
  |[(a,b)],ha,e=>exact sound_nilCheck hI hop ⟨ha.1.1,ha.1.2 rfl⟩ e
 |pick c a b=>
  rw[hop] at e ha
  match args,ha,e with
  |[(x,_),(y,_),(z,_)],ha,e=>exact sound_pick hI hop ha.1.1 ha.2.1.1 ha.2.2.1.1 e hc
 |alloc t=>
  rw[hop] at e ha
  match args,ha,e with
  |[],ha,e=>exact sound_alloc hI hop hnew hnd e
 |box t x=>
  rw[hop] at e ha
  match args,ha,e with
  |[(a,b)],ha,e=>exact sound_box hI hop ⟨ha.1.1,ha.1.2 rfl⟩ hnew e hc (fun k hk=>hkn k (by simp only[keysOf,List.flatMap_cons,List.mem_append,argKeys];exact .inl (.inl hk)))
 |build t ps=>
  rw[hop] at e ha
  have ha':=ArgsOk'.arg _ _ ha
  simp only[Op.operands,List.toList_toArray,List.map_map] at ha'
  exact sound_build hI hop ha' hnew hnd hkn e hc
 |buildSlice t n ps=>
  rw[hop] at e ha
  have ha':=ArgsOk'.arg _ _ ha
  simp only[Op.operands,List.toList_toArray,List.map_map] at ha'
  exact sound_buildSlice hI hop ha' hnew e hc
 |load t x=>
  rw[hop] at e ha
  match args,ha,e with
  |[(a,b)],ha,e=>
   simp only[evalOp] at e
   split at e
   ·exact sound_loadL (x:=(a,b)) hI hop ⟨ha.1.1,ha.1.2 rfl⟩ e
   ·exact sound_load hI hop ⟨ha.1.1,ha.1.2 rfl⟩ e
 |store t x y=>
  rw[hop] at e ha
  match args,ha,e with
  |[(a,b),(a',b')],ha,e=>
   have hv0:∀{t:Option Ty} {a:AV} {b:Option Blk} {v:AV×Option Blk} {r:Res},evalStore t a b v=some r→r.v= .tnil:=by
    intro t a b v r e
    simp only[evalStore] at e
    repeat' split at e
    all_goals first|(cases e;rfl)|(cases e;done)
   simp only[evalOp] at e
   split at e
   ·rename_i hn
    have hnil:a'= .nil:=by
     cases x<;>cases a'<;>first|rfl|(exfalso;revert hn;simp[nilAt])
    subst hnil
    have hy:ev y= .slice none 0 0:=by
     have:=ha.2.1.1
     simp only[RepAV,AV.isTup,RepA] at this
     simpa using this
    have:=sound_storeN (x:=(a,b)) hI hop ⟨ha.1.1,ha.1.2 rfl⟩ hy (fun k hk=>hkn k (by simp[keysOf,argKeys,hk])) hnew e hc
    have hv:r.v= .tnil:=by
     simp only[evalStoreN] at e
     split at e
     ·split at e
      ·rename_i r0 e0
       have h5:=hv0 e0
       cases e;exact h5
      ·cases e
     ·cases e
    rw[hv];exact this
   ·have:=sound_store (x:=(a,b)) (y:=(a',b')) hI hop ⟨ha.1.1,ha.1.2 rfl⟩ ⟨ha.2.1.1,ha.2.1.2 rfl⟩ (fun k hk=>hkn k (by simp[keysOf,argKeys,hk])) e hc
    rw[hv0 e];exact this
 |binOp op xt x y yt=>
  rw[hop] at e ha
  match args,ha,e with
  |[(a,b),(a',b')],ha,e=>exact sound_bin hI hop ha.1.1 ha.2.1.1 e hc
 |unOp op t x=>
  rw[hop] at e ha
  match args,ha,e with
  |[(a,b)],ha,e=>exact sound_un hI hop ha.1.1 e
 |convert s d x=>
  rw[hop] at e ha
  match args,ha,e with
  |[(a,b)],ha,e=>exact sound_convert (x:=(a,b)) hI hop ⟨ha.1.1,ha.1.2 rfl⟩ hnew e hc
 |sliceToArrayPointer t x=>
  rw[hop] at e ha
  match args,ha,e with
  |[(a,b)],ha,e=>exact sound_toArr (x:=(a,b)) hI hop ⟨ha.1.1,ha.1.2 rfl⟩ e hc
 |makeSlice t x y=>
  rw[hop] at e ha
  match args,ha,e with
  |[(a,b),(a',b')],ha,e=>exact sound_makeSlice hI hop ha.1.1 ha.2.1.1 hnew e hc
 |slice t x lo hi mx=>
  rw[hop] at e ha
  match args,ha,e with
  |(a,b)::as,ha,e=>
   simp only[evalOp] at e
   cases lo with
   |none=>
    cases hi with
    |none=>
     cases mx with
     |none=>
      match as,ha,e with
      |[],ha,e=>exact sound_slice (lo:=none) (hi:=none) (mx:=none) (x:=(a,b)) hI hop ⟨ha.1.1,ha.1.2 rfl⟩ trivial trivial trivial e hc
     |some m=>match as,e with
      |[],e=>simp at e
      |[_],e=>simp at e
      |_::_::_,e=>simp at e
    |some h=>
     cases mx with
     |none=>
      match as,ha,e with
      |[(c,_)],ha,e=>exact sound_slice (lo:=none) (hi:=some c) (mx:=none) (x:=(a,b)) hI hop ⟨ha.1.1,ha.1.2 rfl⟩ trivial ha.2.1.1 trivial e hc
     |some m=>match as,ha,e with
      |[(c,_),(d,_)],ha,e=>exact sound_slice (lo:=none) (hi:=some c) (mx:=some d) (x:=(a,b)) hI hop ⟨ha.1.1,ha.1.2 rfl⟩ trivial ha.2.1.1 ha.2.2.1.1 e hc
   |some l=>
    cases hi with
    |none=>
     cases mx with
     |none=>
      match as,ha,e with
      |[(c,_)],ha,e=>
       simp only[Option.isSome_some,Option.isSome_none] at e
       split at e
       ·exact sound_tail (x:=(a,b)) hI hop ⟨ha.1.1,ha.1.2 rfl⟩ ha.2.1.1 hnew e hc
       ·exact sound_slice (lo:=some c) (hi:=none) (mx:=none) (x:=(a,b)) hI hop ⟨ha.1.1,ha.1.2 rfl⟩ ha.2.1.1 trivial trivial e hc
     |some m=>match as,e with
      |[],e=>simp at e
      |[_],e=>simp at e
      |_::_::_,e=>simp at e
    |some h=>
     cases mx with
     |none=>
      match as,ha,e with
      |[(c,_),(d,_)],ha,e=>exact sound_slice (lo:=some c) (hi:=some d) (mx:=none) (x:=(a,b)) hI hop ⟨ha.1.1,ha.1.2 rfl⟩ ha.2.1.1 ha.2.2.1.1 trivial e hc
     |some m=>
      match as,ha,e with
      |[(c,_),(d,_),(q,_)],ha,e=>exact sound_slice (lo:=some c) (hi:=some d) (mx:=some q) (x:=(a,b)) hI hop ⟨ha.1.1,ha.1.2 rfl⟩ ha.2.1.1 ha.2.2.1.1 ha.2.2.2.1.1 e hc
 |fieldAddr s x f=>
  rw[hop] at e ha
  match args,ha,e with
  |[(a,b)],ha,e=>exact sound_fieldAddr (x:=(a,b)) hI hop ⟨ha.1.1,ha.1.2 rfl⟩ e
 |field s x f=>
  rw[hop] at e ha
  match args,ha,e with
  |[(a,b)],ha,e=>exact sound_field hI hop ha.1.1 e
 |indexAddr t x y=>
  rw[hop] at e ha
  match args,ha,e with
  |[(a,b),(a',b')],ha,e=>
   simp only[evalOp] at e
   split at e
   ·rename_i n hn
    exact sound_indexAddr (x:=(a,b)) hI hop ⟨ha.1.1,ha.1.2 rfl⟩ ha.2.1.1 hn e hc
   ·cases e
 |index t x y=>
  rw[hop] at e ha
  match args,ha,e with
  |[(a,b),(a',b')],ha,e=>exact sound_index hI hop ha.1.1 ha.2.1.1 e hc
 |makeFunc fn first cap=>
  rw[hop] at e ha
  exact sound_makeFunc hI hop (ArgsOk'.arg _ _ ha) e
 |makeMap t res=>
  rw[hop] at e ha
  exact sound_makeMap hI hop (ArgsOk'.arg _ _ ha) hnew e
 |lookup t x y ok=>
  rw[hop] at e ha
  match args,ha,e with
  |[(a,b),(a',b')],ha,e=>exact sound_lookup (x:=(a,b)) (y:=(a',b')) hI hop ⟨ha.1.1,ha.1.2 rfl⟩ ha.2.1.1 e
 |mapUpdate t x y z=>
  rw[hop] at e ha
  match args,ha,e with
  |[(a,b),(a',b'),(a2,b2)],ha,e=>exact sound_mapUpdate (x:=(a,b)) (y:=(a',b')) (z:=(a2,b2)) hI (.inl hop) ⟨ha.1.1,ha.1.2 rfl⟩ ha.2.1.1 ⟨ha.2.2.1.1,ha.2.2.1.2 rfl⟩ e hc
 |insert t x y z=>
  rw[hop] at e ha
  match args,ha,e with
  |[(a,b),(a',b'),(a2,b2)],ha,e=>exact sound_mapUpdate (x:=(a,b)) (y:=(a',b')) (z:=(a2,b2)) hI (.inr hop) ⟨ha.1.1,ha.1.2 rfl⟩ ha.2.1.1 ⟨ha.2.2.1.1,ha.2.2.1.2 rfl⟩ e hc
 |extract x i=>
  rw[hop] at e ha
  match args,ha,e with
  |[(a,b)],ha,e=>exact sound_extract hI hop ha.1.1 e
 |call c=>
  rw[hop] at e ha
  have ha':=ArgsOk'.arg _ _ ha
  have argsShape:∀(n:Nat) (l:List Operand),c.args.toList=l→c.args=l.toArray:=fun _ l h=>by apply Array.ext';simpa using h
  have tyShape:∀(l:List TypeId),c.argTypes.toList=l→c.argTypes=l.toArray:=fun l h=>by apply Array.ext';simpa using h
  simp only[evalOp] at e
  simp only[Op.operands,Call.operands] at ha'
  cases hcal:c.callee with
  |invoke x m=>rw[hcal] at e;simp at e
  |value X=>
   rw[hcal] at e ha'
   simp only[Array.toList_append,List.cons_append,List.nil_append,List.map_cons] at ha'
   match args,ha',e with
   |(a0,b0)::as,ha',e=>
    cases a0 with
    |fn f=>
     simp only at e
     unfold evalCall at e
     have hX:ev X= .func (.func f) #[] #[]:=by
      have:=repA_nt ha'.1.1 rfl
      simpa[RepA] using this
     split at e
     ·split at e
      ·rename_i m hm
       exact sound_mut hI hop hcal hX (hI.env.turn _ _ hm) ha'.2 e hc
      ·split at e
       ·rename_i u hu
        exact sound_grow hI hop hcal hX (hI.env.grow _ _ hu) ha'.2 e hc hnew hnd
       ·cases e
     rename_i cn hcn
     split at e
     ·cases e
     rename_i xs cs he
     cases e
     obtain⟨c1,c2⟩:=mem2 hc
     have hL:(⟨cs++[cn.pre xs],oneAV cn.rets (mkRets E.fz (o.dst.getD 999999) 0 cn.rets (cn.fn xs)).1,(mkRets E.fz (o.dst.getD 999999) 0 cn.rets (cn.fn xs)).2,[],[]⟩:Res).L L=
      withNew (mkRets E.fz (o.dst.getD 999999) 0 cn.rets (cn.fn xs)).2 L:=by
      funext n;simp only[Res.L,withNew,look]
      cases look n (mkRets E.fz (o.dst.getD 999999) 0 cn.rets (cn.fn xs)).2<;>simp
     rw[hL]
     rcases hcon _ _ hcn with hs|hs
     ·exact sound_call hI hgl hop hcal hX hs ha'.2 he c1 (one_mem c2) hnew hnd
     ·exact sound_ext hI hop hcal hX hs ha'.2 he c1 (one_mem c2) hnew hnd
    |val t x=>
     cases t with
     |fn f ct=>
      simp only at e
      unfold evalCallF at e
      split at e
      ·cases e
      rename_i cn hcn
      split at e
      ·cases e
      rename_i xs cs he
      cases e
      obtain⟨c1,c2⟩:=mem2 hc
      obtain⟨cv,hX,hcv⟩:=fn_cap.1 (repAV_val.1 ha'.1.1)
      have hL:(⟨cs++[cn.pre xs],oneAV cn.rets (mkRets E.fz (o.dst.getD 999999) 0 cn.rets (cn.fn xs)).1,(mkRets E.fz (o.dst.getD 999999) 0 cn.rets (cn.fn xs)).2,[],[]⟩:Res).L L=
       withNew (mkRets E.fz (o.dst.getD 999999) 0 cn.rets (cn.fn xs)).2 L:=by
       funext n;simp only[Res.L,withNew,look]
       cases look n (mkRets E.fz (o.dst.getD 999999) 0 cn.rets (cn.fn xs)).2<;>simp
      rw[hL]
      rcases hcon _ _ hcn with hs|hs
      ·exact sound_callC hI hgl hop hcal hX hs (argsOk_snoc (a:=(.val ct x,none)) ⟨repAV_val.2 hcv,rfl⟩ _ _ ha'.2) he c1 (one_mem c2) hnew hnd
      ·exact sound_extC hI hop hcal hX hs (argsOk_snoc (a:=(.val ct x,none)) ⟨repAV_val.2 hcv,rfl⟩ _ _ ha'.2) he c1 (one_mem c2) hnew hnd
     |_=>cases e
    |_=>simp at e
  |builtin bt=>
   rw[hcal] at e ha'
   simp only[Array.toList_append,List.nil_append] at ha'
   cases bt with
   |len=>
    match args,ha',e with
    |[(a,b)],ha',e=>
     match hargs:c.args.toList,ha' with
     |[X],ha'=>exact sound_len (x:=(a,b)) hI hop hcal (argsShape 1 [X] hargs) ha'.1 e hc
   |append=>
    match args,ha',e with
    |[s,x],ha',e=>
     match hargs:c.args.toList,ha' with
     |[X,Y],ha'=>
      simp only at e
      split at e
      ·rename_i st xt d hat hd
       exact sound_append hI hop hcal (argsShape 2 [X,Y] hargs) (tyShape _ hat) ha'.1 ha'.2.1 hnew e hc
      ·cases e
   |copy=>
    match args,ha',e with
    |[s,x],ha',e=>
     match hargs:c.args.toList,ha' with
     |[X,Y],ha'=>
      simp only at e
      split at e
      ·rename_i dt xt hat
       exact sound_copy hI hop hcal (argsShape 2 [X,Y] hargs) (tyShape _ hat) ha'.1 ha'.2.1 e hc
      ·cases e
   |min=>
    match args,ha',e with
    |[(x,_),(y,_)],ha',e=>
     match hargs:c.args.toList,ha' with
     |[X,Y],ha'=>exact sound_mm (mx:=false) hI hop hcal (argsShape 2 [X,Y] hargs) ha'.1.1 ha'.2.1.1 e
   |max=>
    match args,ha',e with
    |[(x,_),(y,_)],ha',e=>
     match hargs:c.args.toList,ha' with
     |[X,Y],ha'=>exact sound_mm (mx:=true) hI hop hcal (argsShape 2 [X,Y] hargs) ha'.1.1 ha'.2.1.1 e
   |_=>simp at e
 |makeInterface t x=>
  rw[hop] at e
  match args,e with
  |[],e=>simp[evalOp] at e
  |[(a,b)],e=>cases e;exact(hc False (List.mem_singleton.2 rfl)).elim
  |_::_::_,e=>simp[evalOp] at e
 |panic x=>
  rw[hop] at e
  match args,e with
  |[],e=>simp[evalOp] at e
  |[(a,b)],e=>cases e;exact(hc False (List.mem_singleton.2 rfl)).elim
  |_::_::_,e=>simp[evalOp] at e
 |_=>rw[hop] at e;simp[evalOp] at e
end
end Lc
namespace Lc
open Go Go.RowKit
structure Rel (E:Env)(fix:Nat→Option Value)(F0:FH)(w0:Ctx)(F:FH)(ρ:RM)(st:St)(a:Act)(w:World):Prop where
 rel:HRel F ρ (hl st.hp) w.heap w0.U
 below:Kept w0.U w0.w w
 up:∀b,w0.w.heap.size≤b→w0.U b
 glob:GlobOk E.glob F0
 le:F0.le F
 base:∀b,¬w0.U b→F b=F0 b
 tm:∀n av,look n st.tm=some av→RepAV F ρ (hl st.hp) av (a.tmps.getD n undef)
 keys:∀n av,look n st.tm=some av→∀k,k∈av.keys→(hl st.hp k).isSome
 ntm:a.tmps.size=E.ntm
 defers:a.defers=[]
 fixed:∀n v,fix n=some v→a.tmps.getD n undef=v
 lock:∀n v,fix n=some v→n∈E.lock
def ConP.vars (c:ConP):List (Nat×Shape):=[(0,.ptrL c.t c.ps)]
structure SoundP (P:Program)(G:Nat→Option TV)(f:FuncId)(c:ConP):Prop where
 fn:∃fn,P.funcs[f]? =some fn∧(fn.name== "runtime.NumGoroutine")=false∧fn.body.isSome=true
 calls:∀(F:FH) (U:Nat→Prop) (w:World) (ρ:RM) (x:c.t.den) (ys:Tup c.params) (b:Nat) (cap:Cap) (vs:List Value),HRel F ρ (hl (mkHp c.vars (x,()))) w.heap U→ρ base=some (b,cap)→(∀b,w.heap.size≤b→U b)→GlobOk G F→
  RepArgs F c.params ys vs→c.pre x ys→
  Calls P f (Value.pointer (some ⟨b,0,none⟩)::vs).toArray w (fun e w'=>∃v F' ρ' rv,e= .returned v∧F.le F'∧(∀b,¬U b→F' b=F b)∧HRel F' ρ' (hl (mkHp c.vars ((c.fn x ys).1,()))) w'.heap U∧(∃cap',ρ' base=some (b,cap'))∧
   RepRets F' w'.heap w.heap.size c.rets (c.fn x ys).2 rv []∧RetV rv v∧Kept U w w')
def ConV.vars (c:ConV):List (Nat×Shape):=[(0,.valL c.t c.ps)]
structure SoundV (P:Program)(G:Nat→Option TV)(f:FuncId)(c:ConV):Prop where
 fn:∃fn,P.funcs[f]? =some fn∧(fn.name== "runtime.NumGoroutine")=false∧fn.body.isSome=true
 calls:∀(F:FH) (U:Nat→Prop) (w:World) (ρ:RM) (x:c.t.den) (ys:Tup c.params) (v:Value) (vs:List Value),HRel F ρ (hl (mkHp c.vars (x,()))) w.heap U→RepAV F ρ (hl (mkHp c.vars (x,()))) (avOf 0 (.valL c.t c.ps) x) v→(∀b,w.heap.size≤b→U b)→GlobOk G F→
  RepArgs F c.params ys vs→c.pre x ys→
  Calls P f (v::vs).toArray w (fun e w'=>∃v' F' ρ',e= .returned v'∧F.le F'∧(∀b,¬U b→F' b=F b)∧HRel F' ρ' (hl (mkHp c.vars (c.fn x ys,()))) w'.heap U∧RepAV F' ρ' (hl (mkHp c.vars (c.fn x ys,()))) (avOf 0 (.valL c.t c.ps) (c.fn x ys)) v'∧Kept U w w')
structure Ok (E:Env):Prop where
 env:EnvOk E
 con:∀f c,E.con f=some c→SoundC E.P E.glob f c
 ptr:∀f c,E.ptr f=some c→SoundP E.P E.glob f c
 byv:∀f c,E.byv f=some c→SoundV E.P E.glob f c
section
variable {E : Env} {fix : Nat → Option Value} {F0 : FH} {w0 : Ctx} {F : FH} {ρ : RM} {st st' : St} {a : Act} {w : World}
theorem Rel.in_ (R:Rel E fix F0 w0 F ρ st a w)(hE:Ok E):In E w0.U F ρ (hl st.hp) w:=⟨hE.env,R.rel,fun b hb=>R.up b (Nat.le_trans R.below.size hb)⟩
theorem strip_rep {L:HL}:∀(av:AV) (v:Value),RepAV F ρ L av v→(∀c,c∈(strip av).2→c)→RepAV F ρ L (strip av).1 v:=by
 intro av
 induction av with
 |opt p a ih=>
  intro v h hc
  simp only[strip] at hc⊢
  split
  ·exact h
  ·rename_i ht
   rw[if_neg ht] at hc
   have ht:a.isTup=false:=by simpa using ht
   have hp:p:=hc p (by simp)
   have h':=repA_nt h rfl
   exact ih v (repAV_nt ht (h'.1 hp)) (fun c h=>hc c (by simp[h]))
 |_=>intro v h _;exact h
theorem strip_key :∀(av:AV),(strip av).1.key=av.key∧(strip av).1.keys=av.keys:=by
 intro av
 induction av with
 |opt p a ih=>
  simp only[strip]
  split
  ·exact⟨rfl,rfl⟩
  ·exact ih
 |_=>exact⟨rfl,rfl⟩
theorem const_rep {L:HL}(v:Value):RepAV F ρ L (constAV v) v:=by
 unfold constAV
 split
 ·exact repAV_bool.2 rfl
 ·exact repAV_int.2 rfl
 ·exact repAV_str.2 rfl
 ·exact repAV_nt rfl rfl
 ·exact repAV_nt rfl rfl
theorem const_keys (v:Value):(constAV v).keys=[]:=by
 unfold constAV;split<;>rfl
theorem evalO_rep (R:Rel E fix F0 w0 F ρ st a w){x:Operand}{av:AV}(e:evalO E st.tm x=some av):RepAV F ρ (hl st.hp) av (a.eval x)∧∀k,k∈av.keys→(hl st.hp k).isSome:=by
 cases x with
 |tmp t=>exact⟨R.tm _ _ e,R.keys _ _ e⟩
 |const v=>simp only[evalO,Option.some.injEq] at e;subst e;exact⟨const_rep v,by rw[const_keys];intro k hk;cases hk⟩
 |global g=>
  simp only[evalO] at e
  split at e
  ·rename_i tv htv
   cases e
   obtain⟨cs,h1,h2⟩:=(R.glob.mono R.le) g tv htv
   exact⟨repAV_cptr.2 ⟨g,0,cs,rfl,h1,h2⟩,by intro k hk;cases hk⟩
  ·cases e
 |func f=>simp only[evalO,Option.some.injEq] at e;subst e;exact⟨repAV_nt rfl rfl,by intro k hk;cases hk⟩
theorem blkOf_eq (hp:List (Nat×Option Blk))(av:AV):blkOf hp av=blkF (hl hp) av:=rfl
theorem blkOf_eqM (hp:List (Nat×Option Blk))(av:AV):mask (blkOf hp av)=blkL (hl hp) av:=rfl
theorem blkKeys_some (R:Rel E fix F0 w0 F ρ st a w){av:AV}{tc:Bool}{k:Nat}(hk:k∈blkKeys (if tc then blkOf st.hp av else none)):(hl st.hp k).isSome:=by
 cases tc
 ·simp[blkKeys] at hk
 ·simp only[if_true] at hk
  cases hb:blkOf st.hp av with
  |none=>rw[hb] at hk;simp[blkKeys] at hk
  |some b=>
   rw[hb] at hk
   simp only[blkKeys,List.mem_map] at hk
   obtain⟨⟨p,k'⟩,hq,rfl⟩:=hk
   rw[blkOf_eq] at hb
   obtain⟨kb,_,hL⟩:=blkF_some hb.symm
   exact(R.rel.lnk kb b hL p k' hq).1
theorem evalArgs_keys (R:Rel E fix F0 w0 F ρ st a w)(pk tc:Bool):∀(ops:List Operand) (args:List (AV×Option Blk)) (cs:List Prop),evalArgs E st pk tc ops=some (args,cs)→
 ∀k,k∈keysOf args→(hl st.hp k).isSome:=by
 intro ops
 induction ops with
 |nil=>intro args cs e;cases e;intro k hk;cases hk
 |cons x ops ih=>
  intro args cs e
  simp only[evalArgs] at e
  split at e
  ·cases e
  rename_i av hav
  obtain⟨_,h2⟩:=evalO_rep R hav
  split at e
  ·cases e
  rename_i l cs' e'
  have i2:=ih _ _ e'
  split at e
  ·cases e
   intro k hk
   simp only[keysOf,List.flatMap_cons,List.mem_append,argKeys,blkKeys,List.not_mem_nil,or_false] at hk
   rcases hk with hk|hk
   ·exact h2 k hk
   ·exact i2 k hk
  ·cases e
   intro k hk
   simp only[keysOf,List.flatMap_cons,List.mem_append,argKeys,(strip_key av).2] at hk
   rcases hk with(hk|hk)|hk
   ·exact h2 k hk
   ·exact blkKeys_some R hk
   ·exact i2 k hk
theorem evalArgs_sound (R:Rel E fix F0 w0 F ρ st a w)(pk tc:Bool)(hpt:pk=true→tc=false):∀(ops:List Operand) (args:List (AV×Option Blk)) (cs:List Prop),evalArgs E st pk tc ops=some (args,cs)→(∀c,c∈cs→c)→
 ArgsOkF F ρ (hl st.hp) tc args (ops.map a.eval)∧∀k,k∈keysOf args→(hl st.hp k).isSome:=by
 intro ops
 induction ops with
 |nil=>intro args cs e _;cases e;exact⟨trivial,by intro k hk;cases hk⟩
 |cons x ops ih=>
  intro args cs e hc
  simp only[evalArgs] at e
  split at e
  ·cases e
  rename_i av hav
  obtain⟨h1,h2⟩:=evalO_rep R hav
  split at e
  ·cases e
  rename_i l cs' e'
  split at e
  ·rename_i hpk
   cases e
   obtain⟨i1,i2⟩:=ih _ _ e' hc
   refine⟨⟨⟨h1,fun h=>by rw[hpt hpk] at h;cases h⟩,i1⟩,fun k hk=> ?_⟩
   simp only[keysOf,List.flatMap_cons,List.mem_append,argKeys,blkKeys,List.not_mem_nil,or_false] at hk
   rcases hk with hk|hk
   ·exact h2 k hk
   ·exact i2 k hk
  ·cases e
   obtain⟨c1,c2⟩:=mem2 hc
   obtain⟨i1,i2⟩:=ih _ _ e' c2
   refine⟨⟨⟨strip_rep av _ h1 c1,fun h=> ?_⟩,i1⟩,fun k hk=> ?_⟩
   ·simp only[h,if_true]
    rw[blkOf_eq];unfold blkF;rw[(strip_key av).1]
   ·simp only[keysOf,List.flatMap_cons,List.mem_append,argKeys,(strip_key av).2] at hk
    rcases hk with(hk|hk)|hk
    ·exact h2 k hk
    ·exact blkKeys_some R hk
    ·exact i2 k hk
theorem put_get (a:Act)(d:Option Nat)(v:Value)(n:Nat)(hd:∀k,d=some k→k<a.tmps.size):(a.put d v).tmps.getD n undef=if d=some n then v else a.tmps.getD n undef:=by
 cases d with
 |none=>simp[Act.put]
 |some k=>
  have:=hd k rfl
  simp only[Act.put,Array.getD_eq_getD_getElem?,Array.getElem?_setIfInBounds]
  by_cases hk:k=n
  ·subst hk;simp[this]
  ·have:¬(some k=some n):=by simpa using hk
   simp[hk]
theorem put_size (a:Act)(d:Option Nat)(v:Value):(a.put d v).tmps.size=a.tmps.size:=by cases d<;>simp[Act.put]
theorem put_defers (a:Act)(d:Option Nat)(v:Value):(a.put d v).defers=a.defers:=by cases d<;>rfl
theorem yielded_get (ops:Array Oper)(tmps:Array Value)(j d:Nat)(hd:(ops[j]?).bind (·.dst)=some d):yielded ops tmps j=match tmps[d]? with|some (.bool b)=>some b|_=>none:=by
 simp only[yielded,hd,Option.bind_some]
 cases tmps[d]? with
 |none=>rfl
 |some v=>rfl
theorem guard_sound (R:Rel E fix F0 w0 F ρ st a w){ops:Array Oper}{o:Oper}{g:Option Prop}(e:guardP ops o st.tm=some g):
 match g with|none=>Region.wanted o (yielded ops a.tmps)=true|some p=>(Region.wanted o (yielded ops a.tmps)=true↔p):=by
 unfold guardP at e
 split at e
 ·rename_i hg;cases e;simp[Region.wanted,hg]
 ·rename_i j b hg
  split at e
  ·cases e
  rename_i d hd
  have hy:=yielded_get ops a.tmps j d hd
  have hw:Region.wanted o (yielded ops a.tmps)=(yielded ops a.tmps j==some b):=by simp[Region.wanted,hg]
  split at e
  ·rename_i x hx
   cases e
   have hv:=repAV_bool.1 (R.tm _ _ hx)
   have hq:a.tmps[d]? =some (.bool x):=by
    rw[Array.getD_eq_getD_getElem?] at hv
    cases hq:a.tmps[d]? with
    |none=>rw[hq] at hv;simp[undef] at hv
    |some v=>rw[hq] at hv;simp at hv;rw[hv]
   simp only
   rw[hw,hy,hq];simp
  ·rename_i p x hx
   cases e
   have hv:=repA_nt (R.tm _ _ hx) rfl
   simp only
   rw[hw,hy]
   by_cases hp:p
   ·have hv1:=hv.1 hp
    obtain⟨v,e1,e2⟩:=hv1
    simp at e1
    rw[repV_bool] at e2
    rw[e2] at e1
    have hq:a.tmps[d]? =some (.bool x):=by
     cases hq:a.tmps[d]? with
     |none=>rw[hq] at e1;simp[undef] at e1
     |some v=>rw[hq] at e1;simp at e1;rw[e1]
    rw[hq];simp[hp]
   ·have hv2:=hv.2 hp
    simp at hv2
    have hq:(match a.tmps[d]? with|some (.bool b)=>some b|_=>none)=(none:Option Bool):=by
     cases hq:a.tmps[d]? with
     |none=>rfl
     |some v=>rw[hq] at hv2;simp at hv2;rw[hv2];rfl
    rw[hq];simp[hp]
  ·cases e
theorem isSome_L (r:Res)(L:HL)(k:Nat)(h:(L k).isSome):(r.L L k).isSome:=by
 simp only[Res.L]
 split
 ·rfl
 ·split
  ·rfl
  ·split
   ·rfl
   ·exact h
theorem isSome_new (r:Res)(L:HL)(k:Nat)(h:(r.new.map (·.1)).contains k=true):(r.L L k).isSome:=by
 simp only[Res.L]
 have:(look k r.new).isSome:=by
  generalize r.new=l at h
  induction l with
  |nil=>simp at h
  |cons p l ih=>
   obtain⟨k1,b⟩:=p
   rw[look_cons]
   split
   ·rfl
   ·rename_i hne
    simp only[List.map_cons,List.contains_cons,Bool.or_eq_true,beq_iff_eq] at h
    rcases h with h|h
    ·exact absurd h hne
    ·exact ih h
 cases hq:look k r.new with
 |none=>rw[hq] at this;cases this
 |some b=>rfl
theorem lookIn {k:Nat}{b:Blk}:∀(l:List (Nat×Blk)),look k l=some b→∃p,p∈l∧p.2=b:=by
 intro l
 induction l with
 |nil=>intro e;cases e
 |cons p l ih=>
  obtain⟨k1,b1⟩:=p
  intro e
  rw[look_cons] at e
  split at e
  ·cases e;exact⟨_,List.mem_cons_self,rfl⟩
  ·obtain⟨q,q1,q2⟩:=ih e;exact⟨q,List.mem_cons_of_mem _ q1,q2⟩
theorem HRel.ghost {L:HL}{H:Array Obj}{B0:Nat→Prop}{r:Res}(h:HRel F ρ L H B0)(hn:∀p,p∈r.new→L p.1=none)(hs:r.set=[])(hl0:∀p,p∈r.new→p.2.lk=[]):∃ρ',HRel F ρ' (r.L L) H B0∧LLe L ρ (r.L L) ρ':=by
 have hnew:∀k blk,look k r.new=some blk→L k=none:=by
  intro k blk e
  have:∀l:List (Nat×Blk),look k l=some blk→∃p,p∈l∧p.1=k:=by
   intro l
   induction l with
   |nil=>intro e;cases e
   |cons p l ih=>
    obtain⟨k1,b1⟩:=p
    intro e
    rw[look_cons] at e
    split at e
    ·rename_i hk;exact⟨_,List.mem_cons_self,hk.symm⟩
    ·obtain⟨q,q1,q2⟩:=ih e;exact⟨q,List.mem_cons_of_mem _ q1,q2⟩
  obtain⟨p,p1,p2⟩:=this _ e
  rw[←p2];exact hn p p1
 have old:∀k blk,(r.L L) k=some (some blk)→look k r.new=none→L k=some (some blk):=by
  intro k blk e e2
  simp only[Res.L,e2,hs,look] at e
  split at e
  ·cases e
  ·exact e
 have hLL:LLe L ρ (r.L L) (fun k=>match look k r.new with|some _=>none|none=>ρ k):=by
  intro k hk blk' e
  cases hq:look k r.new with
  |some b=>rw[hnew k b hq] at hk;cases hk
  |none=>exact⟨blk',old k blk' e hq,rfl,rfl,rfl,by simp only[hq]⟩
 refine⟨fun k=>match look k r.new with|some _=>none|none=>ρ k,⟨h.cons, ?_, ?_, ?_⟩,hLL⟩
 ·intro k blk e
  cases hq:look k r.new with
  |some b=>exact .inl rfl
  |none=>exact h.blk k blk (old k blk e hq)
 ·intro k k' x x' b c c' e1 e2 e3 e4
  cases hq:look k r.new with
  |some b=>simp only[hq] at e3;cases e3
  |none=>
   cases hq':look k' r.new with
   |some b=>simp only[hq'] at e4;cases e4
   |none=>
    simp only[hq] at e3
    simp only[hq'] at e4
    exact h.inj k k' x x' b c c' (old _ _ e1 hq) (old _ _ e2 hq') e3 e4
 ·intro kb blk e p kk hm
  cases hq:look kb r.new with
  |some b=>
   have hb:b=blk:=by simp only[Res.L,hq,Option.some.injEq] at e;exact e
   subst hb
   obtain⟨q,q1,q2⟩:=lookIn _ hq
   have h5:=hl0 q q1
   rw[q2] at h5
   rw[h5] at hm;cases hm
  |none=>
   obtain⟨g1,g2⟩:=h.lnk kb blk (old kb blk e hq) p kk hm
   exact⟨isSome_L _ _ _ g1,fun b cap e2=>(g2 b cap e2).ext FH.le.rfl hLL g1 (fun _=>rfl)⟩
end
end Lc
