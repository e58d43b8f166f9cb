/- The engine, part L: operations that make or write memory. -/
import Derived.Test.YtlhdieoemhjjiaaGreatDoorEngJK
import Derived.Laws.MakeOwn
set_option linter.unusedVariables false
set_option linter.unusedSimpArgs false
namespace Lc
open Go Go.RowKit
theorem repC_var {F:FH}{t:Ty}{x:t.den}{cs:List Value}{cap:Nat}(h:Rep F t x cs):RepC F false (cap,0) cs.length t x cs:=by
 cases t<;>simp[RepC,h]
theorem lenT_var {F:FH}{t:Ty}{x y:t.den}{cap cap':Cap}{n n':Nat}{cs ds:List Value}(h:RepC F false cap n t x cs)(h':RepC F false cap' n' t y ds):lenT t x=lenT t y:=by
 cases t<;>simp only[lenT]
 simp only[RepC,Bool.false_eq_true,if_false] at h h'
 exact h.1.1.trans h'.1.1.symm
theorem range_cycle (zs:List Value)(n:Nat):(List.range (n*zs.length)).map (fun i=>zs.toArray[i%zs.toArray.size]!)=(List.replicate n zs).flatten:=by
 induction n with
 |zero=>simp
 |succ n ih=>
  have e:(n+1)*zs.length=n*zs.length+zs.length:=by rw[Nat.add_mul];omega
  rw[e,List.range_add,List.map_append,ih,List.replicate_succ',List.flatten_append]
  congr 1
  simp only[List.map_map,List.flatten_singleton]
  apply List.ext_getElem
  ·simp
  ·intro i h1 h2
   simp only[List.length_map,List.length_range] at h1
   simp[Nat.mod_eq_of_lt h1,h1]
theorem foldl_put (off:Nat):∀(vs:List Value) (k:Nat) (cells:Array Value),off+k+vs.length≤cells.size→
 (vs.zipIdx k).foldl (fun(cs:Array Value) (p:Value×Nat)=>cs.setIfInBounds (off+p.2) p.1) cells=(putL cells.toList (off+k) vs).toArray:=by
 intro vs
 induction vs with
 |nil=>intro k cells _;simp[putL]
 |cons v r ih=>
  intro k cells hl
  simp only[List.length_cons] at hl
  simp only[List.zipIdx_cons,List.foldl_cons]
  rw[ih (k+1) _ (by simp;omega)]
  congr 1
  simp only[putL,Array.toList_setIfInBounds,List.length_cons]
  have e1:(cells.toList.set (off+k) v).take (off+(k+1))=cells.toList.take (off+k)++[v]:=by
   rw[List.set_eq_take_append_cons_drop,if_pos (by simp;omega),List.take_append]
   simp only[List.length_take,Array.length_toList]
   rw[show min (off+k) cells.size=off+k by omega,List.take_of_length_le (by simp;omega),show off+(k+1)-(off+k)=1 by omega]
   simp
  have e2:(cells.toList.set (off+k) v).drop (off+(k+1)+r.length)=cells.toList.drop (off+k+(r.length+1)):=by
   rw[List.set_eq_take_append_cons_drop,if_pos (by simp;omega),List.drop_append]
   simp only[List.length_take,Array.length_toList]
   rw[show min (off+k) cells.size=off+k by omega,List.drop_eq_nil_of_le (by simp;omega),show off+(k+1)+r.length-(off+k)=r.length+1 by omega]
   simp;congr 1;omega
  rw[e1,e2];simp
theorem arr_foldl_put (off:Nat)(vs cells:Array Value)(h:off+vs.size≤cells.size):
 vs.zipIdx.foldl (fun(cs:Array Value) (p:Value×Nat)=>cs.setIfInBounds (off+p.2) p.1) cells=(putL cells.toList off vs.toList).toArray:=by
 rw[←Array.foldl_toList,Array.toList_zipIdx]
 exact foldl_put off vs.toList 0 cells (by simpa using h)
section
variable {E : Env} {B0 : Nat → Prop} {F : FH} {ρ : RM} {L : HL} {w : World} {o : Oper} {ev : Operand → Value} {r : Res}
theorem does_newVar (hI:In E B0 F ρ L w){d:Nat}(hk:L d=none){t:Ty}{id:TypeId}{x:t.den}{cs:List Prop}{cl:List Value}(hrep:Rep F t x cl)
 (hrun:(execOp ev o).run E.P w= .ok (.value (.pointer (some ⟨w.heap.size,0,none⟩))) (w.alloc (.cells cl.toArray id))):
 Does E.P o ev w (Post B0 F ρ L w (.ptr d t []) ((⟨cs,.ptr d t [],[(d,⟨false,t,x,false,[]⟩)],[],[]⟩:Res).L L)):=by
 rw[L_new]
 obtain⟨F',f1,f2,f3⟩:=hI.rel.fresh (k:=d) hk (blk:=⟨false,t,x,false,[]⟩) (e:=id) (fr:=(0,0)) (cap:=0) (c:=cl.toArray) (cs:=cl) (rest:=[]) (fun i hi=>by simp) (by simp)
  (by have:=repC_var (cap:=0) hrep;simpa using this) hI.size rfl
 refine does_ok hrun ⟨F',_, ?_,f3,f1,fun b hb=>f2 b (Nat.lt_of_not_le (fun h=>hb (hI.size b h))),LLe.fresh hk _ _,(Kept.refl _ _).alloc hI.size _⟩
 refine repAV_ptr.2 (fun blk hL=> ?_)
 rw[upd_same] at hL
 cases hL
 exact⟨rfl,by simp only[okB,Bool.false_eq_true,if_false];exact okT_nil t,w.heap.size,(0,0),t,0,by rw[upd_same],by cases t<;>rfl,rfl⟩
theorem does_newVarL (hI:In E B0 F ρ L w){d:Nat}(hk:L d=none){t:Ty}{id:TypeId}{x:t.den}{cs:List Prop}{cl:List Value}{lk:List (List Stp×Nat)}(hrep:Rep F t x cl)
 (hlk:∀p kk,(p,kk)∈lk→(L kk).isSome∧fldOnly p=true∧∃u off hv,t.nav p=some (.slc u,off)∧cl[off]? =some hv∧∀blk,L kk=some (some blk)→blk.t= .arr 0 u∧okB blk.row blk.len (.arr 0 u) []∧HW (ρ kk) blk.row blk.len (.arr 0 u) [] hv)
 (hrun:(execOp ev o).run E.P w= .ok (.value (.pointer (some ⟨w.heap.size,0,none⟩))) (w.alloc (.cells cl.toArray id))):
 Does E.P o ev w (Post B0 F ρ L w (.ptr d t []) ((⟨cs,.ptr d t [],[(d,⟨false,t,x,false,lk⟩)],[],[]⟩:Res).L L)):=by
 rw[L_new]
 obtain⟨F',f1,f2,f3⟩:=hI.rel.fresh (k:=d) hk (blk:=⟨false,t,x,false,[]⟩) (e:=id) (fr:=(0,0)) (cap:=0) (c:=cl.toArray) (cs:=cl) (rest:=[]) (fun i hi=>by simp) (by simp)
  (by have:=repC_var (cap:=0) hrep;simpa using this) hI.size rfl
 have f4:=f3.relink (k:=d) (by rw[upd_same]) lk (by
  intro p kk hm
  obtain⟨g1,g2,u,off,hv,g3,g4,g5⟩:=hlk p kk hm
  have hne:kk≠d:=fun e=>by subst e;rw[hk] at g1;cases g1
  refine⟨isSome_upd _ g1,fun b cap e=> ?_⟩
  rw[upd_same] at e
  cases e
  refine⟨g2,u,off,hv,g3, ?_,repAV_whole.2 (fun blk hb=> ?_)⟩
  ·simp only[cellAt]
   have:(w.heap.push (Obj.cells cl.toArray id (0,0)))[w.heap.size]? =some (Obj.cells cl.toArray id (0,0)):=by simp
   rw[this]
   simpa using g4
  ·rw[upd_ne _ _ hne] at hb⊢
   exact g5 blk hb)
 have hupd:upd (upd L d (some (some (⟨false,t,x,false,[]⟩:Blk)))) d (some (some (⟨false,t,x,false,lk⟩:Blk)))=upd L d (some (some ⟨false,t,x,false,lk⟩)):=by
  funext n;simp only[upd];split<;>rfl
 rw[hupd] at f4
 refine does_ok hrun ⟨F',_, ?_,f4,f1,fun b hb=>f2 b (Nat.lt_of_not_le (fun h=>hb (hI.size b h))),LLe.fresh hk _ _,(Kept.refl _ _).alloc hI.size _⟩
 refine repAV_ptr.2 (fun blk hL=> ?_)
 rw[upd_same] at hL
 cases hL
 exact⟨rfl,by simp only[okB,Bool.false_eq_true,if_false];exact okT_nil t,w.heap.size,(0,0),t,0,by rw[upd_same],by cases t<;>rfl,rfl⟩
theorem does_newRow (hI:In E B0 F ρ L w){d:Nat}(hk:L d=none){u:Ty}{id:TypeId}{xs:List u.den}{fz:Bool}{cs:List Prop}{cl rest:List Value}{cap:Nat}{w':World}(hw:w'.heap=w.heap)(hB:Kept B0 w w')
 (hrep:RepL (Rep F u) xs cl) (hcap:cl.length+rest.length=cap*u.size) (hle:xs.length≤cap)
 (hrun:(execOp ev o).run E.P w= .ok (.value (.slice (some ⟨w.heap.size,0,none⟩) xs.length cap)) (w'.alloc (.cells (cl++rest).toArray id))):
 Does E.P o ev w (Post B0 F ρ L w (.whole d (.arr 0 u) []) ((⟨cs,.whole d (.arr 0 u) [],[(d,⟨true,.arr 0 u,xs,fz,[]⟩)],[],[]⟩:Res).L L)):=by
 rw[L_new]
 obtain⟨F',f1,f2,f3⟩:=hI.rel.fresh (k:=d) hk (blk:=⟨true,.arr 0 u,xs,fz,[]⟩) (e:=id) (fr:=(0,0)) (cap:=cap) (c:=(cl++rest).toArray) (cs:=cl) (rest:=rest) (fun i hi=>by simp) (by simp)
  (by simp only[RepC,if_true];exact⟨hrep,by simpa using hcap,hle⟩) hI.size rfl
 refine does_ok hrun ⟨F',upd ρ d (some (w.heap.size,(cap,0))), ?_, ?_,f1,fun b hb=>f2 b (Nat.lt_of_not_le (fun h=>hb (hI.size b h))),LLe.fresh hk _ _,hB.alloc (by rw[hw];exact hI.size) _⟩
 ·refine repAV_whole.2 (fun blk hL=> ?_)
  rw[upd_same] at hL
  cases hL
  refine⟨rfl,by simp[okB],.inr ⟨w.heap.size,(cap,0),0,u,0,by rw[upd_same],rfl, ?_⟩⟩
  simp only[lcap,List.isEmpty_nil,Bool.and_self,if_true,Blk.len,lenT]
 ·show HRel F' _ _ (w'.heap.push _) B0
  rw[hw];exact f3
theorem sound_box (hI:In E B0 F ρ L w){e:TypeId}{X:Operand}{x:AV×Option Blk}(hop:o.op= .box e X)(hx:Arg F ρ L x (ev X))(hnew:∀p,p∈r.new→L p.1=none)
 (ev_:evalOp E (.box e X) o.type o.dst [x]=some r) (hc:∀c,c∈r.cs→c) (hkn:∀k,k∈x.1.keys→(L k).isSome):Does E.P o ev w (Post B0 F ρ L w r.v (r.L L)):=by
 obtain⟨a,b⟩:=x
 obtain⟨ha,hb⟩:=hx
 simp only at ha hb
 simp only[evalOp] at ev_
 split at ev_
 ·rename_i t d ht hd
  split at ev_
  ·rename_i y cs e1
   cases ev_
   have hr:=deepV_sound (E:=true) hI.rel ha hb e1 hc
   refine does_newVarL hI (hnew _ (List.mem_singleton.2 rfl)) (cl:=(ev X).cells.toList) (id:=e) (repV_cells hr) ?_ ?_
   ·intro p kk hm
    cases a with
    |vlk t2 x2 l2=>
     have ha':=repA_nt ha rfl
     obtain⟨v,h1,h2,h3⟩:=ha'
     simp only[List.cons.injEq,and_true] at h1
     obtain⟨g1,u,off,hv,g2,g3,g4⟩:=h3 p kk hm
     have ht2:t2=t:=by
      simp only[deepV] at e1
      split at e1
      ·rename_i yy hyy;have:=TV.as_eq hyy;cases this;rfl
      ·cases e1
     subst ht2
     exact⟨hkn kk (List.mem_map.2 ⟨_,hm,rfl⟩),g1,u,off,hv,g2,by rw[h1];exact g3,g4⟩
    |_=>cases hm
   ·simp[execOp,hop,Instr.box,newVar,newRow]
  ·cases ev_
 ·cases ev_
def PartsOk (F:FH)(ρ:RM)(L:HL):List (Nat×AV×Option Blk)→List (Nat×Value)→Prop
 |[],[]=>True
 |(i,a)::ps,(j,v)::vs=>i=j∧Arg F ρ L a v∧PartsOk F ρ L ps vs
 |_,_=>False
theorem fill_sound (hR:HRel F ρ L w.heap B0){mk:Nat→List Stp}{t:Ty}{sub:Nat→Option Ty}{place:Nat→Option (Nat×Nat)}
 (hsub:∀i u,sub i=some u→∃off,place i=some (off,u.size)∧t.nav (mk i)=some (u,off)∧okT t (mk i)):
 ∀(ps:List (Nat×AV×Option Blk)) (vs:List (Nat×Value)) (x z:t.den) (cells:Array Value) (cs:List Prop),PartsOk F ρ L ps vs→Rep F t x cells.toList→
  fillParts mk t x ps sub=some (z,cs)→(∀c,c∈cs→c)→∃cells',Instr.fill place cells vs=some cells'∧Rep F t z cells'.toList:=by
 intro ps
 induction ps with
 |nil=>
  intro vs x z cells cs hp hr e hc
  cases vs with
  |nil=>cases e;exact⟨cells,rfl,hr⟩
  |cons v vs=>exact hp.elim
 |cons p ps ih=>
  intro vs x z cells cs hp hr e hc
  cases vs with
  |nil=>exact hp.elim
  |cons v vs=>
   obtain⟨i,a,b⟩:=p
   obtain⟨j,v⟩:=v
   obtain⟨rfl,⟨ha,hb⟩,hp⟩:=hp
   simp only[fillParts] at e
   split at e
   ·cases e
   ·rename_i u hu
    split at e
    ·cases e
    ·rename_i y cs1 e1
     split at e
     ·cases e
     ·rename_i x' e2
      split at e
      ·rename_i z' cs2 e3
       cases e
       obtain⟨c1,c2⟩:=mem2 hc
       have hv:=deepV_sound (E:=true) hR ha hb e1 c1
       simp only[if_true] at hv
       obtain⟨off,p1,p2,p3⟩:=hsub i u hu
       have hvc:=repV_cells hv
       obtain⟨o2,n1,n2,n3⟩:=setP_rep t x cells.toList (mk i) hr p3 ⟨u,y⟩ x' e2 _ hvc
       rw[p2] at n1
       cases n1
       have lc:=rep_len _ _ _ hr
       have lv:=rep_len _ _ _ hvc
       simp only[Array.length_toList] at lc lv
       simp only at n2 n3
       obtain⟨cells',q1,q2⟩:=ih vs x' z (putL cells.toList off v.cells.toList).toArray cs2 hp (by
        simp only[putL,lv,Array.length_toList];exact n3) e3 c2
       refine⟨cells', ?_,q2⟩
       simp only[Instr.fill,p1]
       rw[if_neg (by simp;omega)]
       rw[arr_foldl_put off v.cells cells (by omega)]
       exact q1
      ·cases e
theorem fld_ok :∀(t:Ty) (p:List Stp) (u:Ty) (o:Nat),fldOnly p=true→t.nav p=some (u,o)→okT t p:=by
 intro t
 induction t with
 |pair a b iha ihb=>
  intro p u o hf hn
  cases p with
  |nil=>exact trivial
  |cons s p=>
   cases s with
   |idx i=>simp[fldOnly] at hf
   |fld i=>
    cases i with
    |zero=>simp only[Ty.nav] at hn;exact iha p u o hf hn
    |succ i=>
     simp only[Ty.nav] at hn
     split at hn
     ·rename_i u1 o1 e
      exact ihb (.fld i::p) u1 o1 hf e
     ·cases hn
 |_=>
  intro p u o hf hn
  cases p with
  |nil=>exact trivial
  |cons s p=>cases s<;>simp[Ty.nav,fldOnly] at hn hf
theorem nav_le :∀(t:Ty) (p:List Stp) (u:Ty) (o:Nat),okT t p→t.nav p=some (u,o)→o+u.size≤t.size:=by
 intro t
 induction t with
 |pair a b iha ihb=>
  intro p u o hk hn
  cases p with
  |nil=>simp only[Ty.nav,Option.some.injEq,Prod.mk.injEq] at hn;obtain⟨rfl,rfl⟩:=hn;omega
  |cons s p=>
   cases s with
   |idx i=>simp[Ty.nav] at hn
   |fld i=>
    cases i with
    |zero=>simp only[Ty.nav] at hn;simp only[okT] at hk;have:=iha p u o hk hn;simp only[Ty.size];omega
    |succ i=>
     simp only[Ty.nav] at hn
     simp only[okT] at hk
     split at hn
     ·rename_i u1 o1 e
      cases hn
      have:=ihb (.fld i::p) u o1 hk e
      simp only[Ty.size];omega
     ·cases hn
 |arr n t ih=>
  intro p u o hk hn
  cases p with
  |nil=>simp only[Ty.nav,Option.some.injEq,Prod.mk.injEq] at hn;obtain⟨rfl,rfl⟩:=hn;omega
  |cons s p=>
   cases s with
   |fld i=>simp[Ty.nav] at hn
   |idx i=>
    simp only[Ty.nav] at hn
    simp only[okT] at hk
    split at hn
    ·rename_i u1 o1 e
     cases hn
     have h1:=ih p u o1 hk.2 e
     have h2:(i+1)*t.size≤n*t.size:=Nat.mul_le_mul_right _ hk.1
     rw[Nat.add_mul] at h2
     simp only[Ty.size];omega
    ·cases hn
 |_=>
  intro p u o hk hn
  cases p with
  |nil=>simp only[Ty.nav,Option.some.injEq,Prod.mk.injEq] at hn;obtain⟨rfl,rfl⟩:=hn;omega
  |cons s p=>cases s<;>simp[Ty.nav] at hn
theorem clash_apart :∀(t:Ty) (p q:List Stp) (u w:Ty) (o1 o2:Nat),clash p q=false→okT t p→okT t q→t.nav p=some (u,o1)→t.nav q=some (w,o2)→o1+u.size≤o2∨o2+w.size≤o1:=by
 intro t
 induction t with
 |pair a b iha ihb=>
  intro p q u w o1 o2 hc h1 h2 n1 n2
  cases p with
  |nil=>simp[clash] at hc
  |cons s p=>
   cases s with
   |idx i=>simp[clash] at hc
   |fld i=>
    cases q with
    |nil=>simp[clash] at hc
    |cons s' q=>
     cases s' with
     |idx j=>simp[clash] at hc
     |fld j=>
      cases i with
      |zero=>
       simp only[Ty.nav] at n1
       simp only[okT] at h1
       cases j with
       |zero=>simp only[Ty.nav] at n2;simp only[okT] at h2;simp only[clash,beq_self_eq_true,if_true] at hc;exact iha p q u w o1 o2 hc h1 h2 n1 n2
       |succ j=>
        simp only[Ty.nav] at n2
        split at n2
        ·rename_i u2 o3 e
         cases n2
         have:=nav_le a p u o1 h1 n1
         left;omega
        ·cases n2
      |succ i=>
       simp only[Ty.nav] at n1
       simp only[okT] at h1
       split at n1
       ·rename_i u1 o3 e
        cases n1
        cases j with
        |zero=>
         simp only[Ty.nav] at n2
         simp only[okT] at h2
         have:=nav_le a q w o2 h2 n2
         right;omega
        |succ j=>
         simp only[Ty.nav] at n2
         simp only[okT] at h2
         split at n2
         ·rename_i u2 o4 e2
          cases n2
          have hc':clash (.fld i::p) (.fld j::q)=false:=by
           simp only[clash] at hc⊢
           by_cases hij:i=j
           ·subst hij;simpa using hc
           ·simp[hij]
          rcases ihb (.fld i::p) (.fld j::q) u w o3 o4 hc' h1 h2 e e2 with h|h
          ·left;omega
          ·right;omega
         ·cases n2
       ·cases n1
 |_=>
  intro p q u w o1 o2 hc h1 h2 n1 n2
  cases p with
  |nil=>simp[clash] at hc
  |cons s p=>cases s<;>first|(simp[clash] at hc;done)|(simp[Ty.nav] at n1)
theorem putL_out {l vs:List Value}{o i:Nat}(h:o+vs.length≤l.length)(hi:i<o∨o+vs.length≤i):(putL l o vs)[i]? =l[i]? :=by
 unfold putL
 rw[List.getElem?_append,List.getElem?_append]
 simp only[List.length_append,List.length_take,Nat.min_eq_left (show o≤l.length by omega)]
 rcases hi with hi|hi
 ·rw[if_pos (by omega),if_pos hi,List.getElem?_take,if_pos hi]
 ·rw[if_neg (by omega),List.getElem?_drop];congr 1;omega
theorem lk_new {a:AV}{b:Option Blk}{path p:List Stp}{kk:Nat}{lk:List (List Stp×Nat)}(hm:(p,kk)∈lkSet path (a,b) lk):
 (∃u b',a= .whole kk (.arr 0 u) []∧b=some b'∧b'.row=true∧b'.fz=true∧fldOnly path=true∧p=path)∨((p,kk)∈lk∧clash p path=false)∨
 (∃t x l q,a= .vlk t x l∧(q,kk)∈l∧fldOnly path=true∧p=path++q):=by
 simp only[lkSet,List.mem_append,List.mem_filter,Bool.not_eq_true'] at hm
 rcases hm with hm|hm
 ·split at hm
  ·split at hm
   ·rename_i hc
    simp only[Bool.and_eq_true] at hc
    simp only[List.mem_singleton,Prod.mk.injEq] at hm
    obtain⟨rfl,rfl⟩:=hm
    exact .inl ⟨_,_,rfl,rfl,hc.1.1,hc.1.2,hc.2,rfl⟩
   ·cases hm
  ·split at hm
   ·rename_i hc
    obtain⟨q,hq,hqe⟩:=List.mem_map.1 hm
    cases hqe
    exact .inr (.inr ⟨_,_,_,q.1,rfl,hq,hc,rfl⟩)
   ·cases hm
  ·cases hm
 ·exact .inr (.inl hm)
theorem slc_cells {F:FH}{u:Ty}{x:List u.den}{v:Value}(hv:RepV F (.slc u) x v):v.cells.toList=[v]:=by
 have:∀w:Value,w.cells.toList=[w]∨∃cs,w= .agg cs:=by
  intro w;cases w<;>first|(left;rfl)|(right;exact⟨_,rfl⟩)
 rcases this v with h|⟨cs,h⟩
 ·exact h
 ·exfalso
  rw[h] at hv
  simp only[RepV,Ty.isAgg] at hv
  obtain⟨v2,hv3,hv4⟩:=hv
  simp at hv3
  rcases hv4 with⟨⟨_,h5⟩,_⟩|⟨_,_,_,_,h5,_⟩
  ·rw[←hv3] at h5;cases h5
  ·rw[←hv3] at h5;cases h5
theorem nodup_of' {l:List Nat}(h:nodupB' l=true):l.Nodup:=by
 induction l with
 |nil=>exact List.nodup_nil
 |cons a l ih=>
  simp only[nodupB',Bool.and_eq_true,Bool.not_eq_true'] at h
  rw[List.nodup_cons]
  exact⟨by simpa using h.1,ih h.2⟩
theorem fill_keep {place:Nat→Option (Nat×Nat)}{o:Nat}:∀(vs:List (Nat×Value)) (cells cells':Array Value),Instr.fill place cells vs=some cells'→
 (∀i off sz,i∈vs.map (·.1)→place i=some (off,sz)→o<off∨off+sz≤o)→cells'.toList[o]? =cells.toList[o]? :=by
 intro vs
 induction vs with
 |nil=>intro c c' e _;cases e;rfl
 |cons p vs ih=>
  obtain⟨i,v⟩:=p
  intro c c' e h
  simp only[Instr.fill] at e
  split at e
  ·cases e
  rename_i off sz hp
  split at e
  ·cases e
  rename_i hsz
  simp only[ne_eq,decide_not,Bool.or_eq_true,Bool.not_eq_true',decide_eq_false_iff_not,decide_eq_true_eq,not_or,Nat.not_lt,Decidable.not_not] at hsz
  rw[arr_foldl_put off v.cells c (by omega)] at e
  rw[ih _ _ e (fun j off' sz' hj hp'=>h j off' sz' (List.mem_cons_of_mem _ hj) hp'),List.toList_toArray]
  refine putL_out (by simp;omega) ?_
  have:=h i off sz List.mem_cons_self hp
  simp only[Array.length_toList];omega
theorem fill_at {place:Nat→Option (Nat×Nat)}:∀(vs:List (Nat×Value)) (cells cells':Array Value),Instr.fill place cells vs=some cells'→(vs.map (·.1)).Nodup→
 (∀i j off sz off' sz',i∈vs.map (·.1)→j∈vs.map (·.1)→i≠j→place i=some (off,sz)→place j=some (off',sz')→off+sz≤off'∨off'+sz'≤off)→
 ∀i v off sz,(i,v)∈vs→place i=some (off,sz)→∀j,j<sz→cells'.toList[off+j]? =v.cells.toList[j]? :=by
 intro vs
 induction vs with
 |nil=>intro c c' e _ _ i v off sz h;cases h
 |cons p vs ih=>
  obtain⟨i,v⟩:=p
  intro c c' e hnd hap i' v' off' sz' hm hp' j hj
  simp only[Instr.fill] at e
  split at e
  ·cases e
  rename_i off sz hp
  split at e
  ·cases e
  rename_i hsz
  simp only[ne_eq,decide_not,Bool.or_eq_true,Bool.not_eq_true',decide_eq_false_iff_not,decide_eq_true_eq,not_or,Nat.not_lt,Decidable.not_not] at hsz
  rw[arr_foldl_put off v.cells c (by omega)] at e
  simp only[List.map_cons,List.nodup_cons] at hnd
  rcases List.mem_cons.1 hm with hm|hm
  ·cases hm
   rw[hp] at hp';cases hp'
   rw[fill_keep vs _ _ e (fun j' off' sz' hj' hp'=>by
    have hne:i≠j':=fun h=>hnd.1 (by rw[h];exact hj')
    have:=hap i j' _ _ _ _ List.mem_cons_self (List.mem_cons_of_mem _ hj') hne hp hp'
    omega),List.toList_toArray]
   unfold putL
   rw[List.append_assoc,List.getElem?_append_right (by simp;omega)]
   simp only[List.length_take,Array.length_toList]
   rw[Nat.min_eq_left (by omega),Nat.add_sub_cancel_left,List.getElem?_append_left (by simp;omega)]
  ·exact ih _ _ e hnd.2 (fun a b _ _ _ _ ha hb=>hap a b _ _ _ _ (List.mem_cons_of_mem _ ha) (List.mem_cons_of_mem _ hb)) i' v' off' sz' hm hp' j hj
theorem zero_nil :∀(t:Ty) (p:List Stp) (u:Ty) (off:Nat),fldOnly p=true→t.nav p=some (.slc u,off)→(zeroCs t)[off]? =some (.slice none 0 0):=by
 intro t
 induction t with
 |pair a b iha ihb=>
  intro p u off hf hn
  cases p with
  |nil=>simp[Ty.nav] at hn
  |cons s p=>
   cases s with
   |idx i=>simp[fldOnly] at hf
   |fld i=>
    cases i with
    |zero=>
     simp only[Ty.nav] at hn
     have h1:=nav_le a p _ _ (fld_ok _ _ _ _ hf hn) hn
     simp only[zeroCs]
     rw[List.getElem?_append_left (by rw[zeroCs_len];simp only[Ty.size] at h1;omega)]
     exact iha p u off hf hn
    |succ i=>
     simp only[Ty.nav] at hn
     split at hn
     ·rename_i u1 o1 e
      cases hn
      simp only[zeroCs]
      rw[List.getElem?_append_right (by rw[zeroCs_len];omega),zeroCs_len,Nat.add_sub_cancel_left]
      exact ihb (.fld i::p) u o1 hf e
     ·cases hn
 |slc t _=>
  intro p u off hf hn
  cases p with
  |nil=>simp only[Ty.nav,Option.some.injEq,Prod.mk.injEq] at hn;obtain⟨_,rfl⟩:=hn;rfl
  |cons s p=>cases s<;>simp[Ty.nav] at hn
 |_=>
  intro p u off hf hn
  cases p with
  |nil=>simp[Ty.nav] at hn
  |cons s p=>cases s<;>simp[Ty.nav,fldOnly] at hn hf
def nilρ (new:List (Nat×Blk))(ρ:RM):RM:=fun k=>match look k new with|some _=>none|none=>ρ k
theorem L_news (cs:List Prop)(v:AV)(L:HL)(new:List (Nat×Blk))(k:Nat):(⟨cs,v,new,[],[]⟩:Res).L L k=match look k new with|some b=>some (some b)|none=>L k:=by
 simp only[Res.L,look]
 cases look k new<;>simp
theorem look_memN {α:Type}{k:Nat}{b:α}:∀{l:List (Nat×α)},look k l=some b→(k,b)∈l:=by
 intro l
 induction l with
 |nil=>intro e;cases e
 |cons p l ih=>
  obtain⟨k1,b1⟩:=p
  intro e
  rw[look_cons] at e
  split at e
  ·rename_i h;cases e;rw[h];exact List.mem_cons_self
  ·exact List.mem_cons_of_mem _ (ih e)
theorem HRel.nils {cs:List Prop}{v:AV}{new:List (Nat×Blk)}{H:Array Obj}(h:HRel F ρ L H B0)(hn:∀p,p∈new→L p.1=none)(hl0:∀p,p∈new→p.2.lk=[]):
 HRel F (nilρ new ρ) ((⟨cs,v,new,[],[]⟩:Res).L L) H B0∧LLe L ρ ((⟨cs,v,new,[],[]⟩:Res).L L) (nilρ new ρ):=by
 have old:∀k blk,(⟨cs,v,new,[],[]⟩:Res).L L k=some (some blk)→look k new=none→L k=some (some blk):=by
  intro k blk e e2
  rw[L_news,e2] at e;exact e
 have hLL:LLe L ρ ((⟨cs,v,new,[],[]⟩:Res).L L) (nilρ new ρ):=by
  intro k hk blk' e
  cases hq:look k new with
  |some b=>rw[hn _ (look_memN hq)] at hk;cases hk
  |none=>exact⟨blk',old k blk' e hq,rfl,rfl,rfl,by simp only[nilρ,hq]⟩
 refine⟨⟨h.cons, ?_, ?_, ?_⟩,hLL⟩
 ·intro k blk e
  cases hq:look k new with
  |some b=>exact .inl (by simp only[nilρ,hq])
  |none=>simp only[nilρ,hq];exact h.blk k blk (old k blk e hq)
 ·intro k k' x x' b c c' e1 e2 e3 e4
  cases hq:look k new with
  |some b=>simp only[nilρ,hq] at e3;cases e3
  |none=>
   cases hq':look k' new with
   |some b=>simp only[nilρ,hq'] at e4;cases e4
   |none=>
    simp only[nilρ,hq] at e3
    simp only[nilρ,hq'] at e4
    exact h.inj k k' x x' b c c' (old _ _ e1 hq) (old _ _ e2 hq') e3 e4
 ·intro kb blk e p kk hm
  cases hq:look kb new with
  |some b=>
   have hb:b=blk:=by rw[L_news,hq] at e;simpa using e
   subst hb
   rw[hl0 _ (look_memN hq)] at hm;cases hm
  |none=>
   obtain⟨g1,g2⟩:=h.lnk kb blk (old kb blk e hq) p kk hm
   refine⟨?_,fun b cap e2=> ?_⟩
   ·rw[L_news];cases look kk new<;>simp[g1]
   ·simp only[nilρ,hq] at e2
    exact(g2 b cap e2).ext FH.le.rfl hLL g1 (fun _=>rfl)
theorem nilNew_spec {t:Ty}:∀(nl:List (List Stp×Nat)) (new:List (Nat×Blk)),nilNew t nl=some new→
 (∀p k,(p,k)∈nl→fldOnly p=true∧∃u off,t.nav p=some (.slc u,off)∧(k,(⟨true,.arr 0 u,[],true,[]⟩:Blk))∈new)∧∀q,q∈new→q.2.lk=[]∧(q.2.row=true∧q.2.len=0)∧∃u,q.2.t= .arr 0 u:=by
 intro nl
 induction nl with
 |nil=>intro new e;cases e;exact⟨(fun p k h=>by cases h),(fun q h=>by cases h)⟩
 |cons p nl ih=>
  obtain⟨p,k⟩:=p
  intro new e
  simp only[nilNew] at e
  split at e
  ·rename_i u off l h1 h2
   split at e
   ·rename_i hf
    cases e
    obtain⟨i1,i2⟩:=ih l h2
    refine⟨fun p' k' hm=> ?_,fun q hq=> ?_⟩
    ·rcases List.mem_cons.1 hm with hm|hm
     ·cases hm;exact⟨hf,u,off,h1,List.mem_cons_self⟩
     ·obtain⟨j1,u',off',j2,j3⟩:=i1 p' k' hm
      exact⟨j1,u',off',j2,List.mem_cons_of_mem _ j3⟩
    ·rcases List.mem_cons.1 hq with hq|hq
     ·subst hq;exact⟨rfl,⟨rfl,rfl⟩,u,rfl⟩
     ·exact i2 q hq
   ·cases e
  ·cases e
theorem fillParts_mem {mk:Nat→List Stp}{t:Ty}{sub:Nat→Option Ty}:∀(ps:List (Nat×AV×Option Blk)) (x z:t.den) (cs:List Prop),fillParts mk t x ps sub=some (z,cs)→
 ∀i a b,(i,a,b)∈ps→∃u y cs',sub i=some u∧deepV true u a b=some (y,cs')∧∀c,c∈cs'→c∈cs:=by
 intro ps
 induction ps with
 |nil=>intro x z cs _ i a b h;cases h
 |cons p ps ih=>
  obtain⟨i0,a0,b0⟩:=p
  intro x z cs e i a b hm
  simp only[fillParts] at e
  split at e
  ·cases e
  rename_i u hu
  split at e
  ·cases e
  rename_i y cs1 e1
  split at e
  ·cases e
  rename_i x' e2
  split at e
  ·rename_i z' cs2 e3
   cases e
   rcases List.mem_cons.1 hm with hm|hm
   ·cases hm;exact⟨u,y,cs1,hu,e1,fun c hc=>List.mem_append_left _ hc⟩
   ·obtain⟨u',y',cs',j1,j2,j3⟩:=ih x' z cs2 e3 i a b hm
    exact⟨u',y',cs',j1,j2,fun c hc=>List.mem_append_right _ (j3 c hc)⟩
  ·cases e
theorem partsOk_mem :∀(ps:List (Nat×AV×Option Blk)) (vs:List (Nat×Value)),PartsOk F ρ L ps vs→ps.map (·.1)=vs.map (·.1)∧∀i a b,(i,a,b)∈ps→∃v,(i,v)∈vs∧Arg F ρ L (a,b) v:=by
 intro ps
 induction ps with
 |nil=>
  intro vs h
  cases vs with
  |nil=>exact⟨rfl,fun i a b h=>by cases h⟩
  |cons v vs=>exact h.elim
 |cons p ps ih=>
  obtain⟨i0,a0,b0⟩:=p
  intro vs h
  cases vs with
  |nil=>exact h.elim
  |cons v vs=>
   obtain⟨j,v⟩:=v
   obtain⟨rfl,ha,hp⟩:=h
   obtain⟨i1,i2⟩:=ih vs hp
   refine⟨by simp[i1],fun i a b hm=> ?_⟩
   rcases List.mem_cons.1 hm with hm|hm
   ·cases hm;exact⟨v,List.mem_cons_self,ha⟩
   ·obtain⟨v',h1,h2⟩:=i2 i a b hm
    exact⟨v',List.mem_cons_of_mem _ h1,h2⟩
theorem whole_slc {k:Nat}{u2:Ty}{b2:Blk}{t':Ty}{z:t'.den}{cs:List Prop}(hroot:b2.t= .arr 0 u2)(hc2:b2.fz=true)(e1:deepV true t' (.whole k (.arr 0 u2) []) (some b2)=some (z,cs)):t'= .slc u2:=by
 obtain⟨row2,t2,x2,fz2,lk2⟩:=b2
 simp only at hroot hc2
 subst hroot
 cases t' with
 |slc u=>
  simp only[deepV,hc2,Bool.not_true,Bool.and_false,Bool.false_eq_true,if_false,getP] at e1
  split at e1
  ·rename_i y e3
   have:=TV.as_eq e3
   injection this with h4
   injection h4 with h4
   rw[h4]
  ·cases e1
 |_=>simp[deepV] at e1
theorem vlk_ty {t1 t':Ty}{x1:t1.den}{l:List (List Stp×Nat)}{b:Option Blk}{z:t'.den}{cs:List Prop}(e1:deepV true t' (.vlk t1 x1 l) b=some (z,cs)):t1=t':=by
 have:∃y,(TV.mk t1 x1).as t'=some y:=by
  cases t'<;>simp only[deepV] at e1<;>split at e1<;>first|exact⟨_,by assumption⟩|cases e1
 obtain⟨y,hy⟩:=this
 have:=TV.as_eq hy
 injection this with h
theorem look_of_mem {α:Type}{k:Nat}{b:α}:∀{l:List (Nat×α)},(k,b)∈l→(l.map (·.1)).Nodup→look k l=some b:=by
 intro l
 induction l with
 |nil=>intro h;cases h
 |cons p l ih=>
  obtain⟨k1,b1⟩:=p
  intro h hn
  simp only[List.map_cons,List.nodup_cons] at hn
  rw[look_cons]
  rcases List.mem_cons.1 h with h|h
  ·cases h;rw[if_pos rfl]
  ·rw[if_neg (fun he=>hn.1 (by rw[←he];exact List.mem_map.2 ⟨_,h,rfl⟩))];exact ih h hn.2
theorem build_links {H:Array Obj}{t':Ty}{ps:List (Nat×AV×Option Blk)}{vs:List (Nat×Value)}{x0 x:t'.den}{cs cs0:List Prop}{av:AV}{place:Nat→Option (Nat×Nat)}{zc cells':Array Value}
 {nl:List (List Stp×Nat)} {new:List (Nat×Blk)} (hR:HRel F ρ L H B0) (hpl:∀i u o,t'.nav [.fld i]=some (u,o)→place i=some (o,u.size)∧okT t' [.fld i]) (hz:zc.toList=zeroCs t') (hpo:PartsOk F ρ L ps vs)
 (e1:fillParts (fun i=>[.fld i]) t' x0 ps (fun i=>(t'.nav [.fld i]).map (·.1))=some (x,cs)) (hc:∀c,c∈cs→c) (hfill:Instr.fill place zc vs=some cells') (hnd:nodupB' (ps.map (·.1))=true)
 (hhf:nl.all (fun q=>headFree q.1 (ps.map (·.1)))=true) (hnew:nilNew t' nl=some new) (hnl:∀p,p∈new→L p.1=none) (hndn:(new.map (·.1)).Nodup)
 (hkn:∀i a b,(i,a,b)∈ps→∀k,k∈a.keys→(L k).isSome):
 ∀p k,(p,k)∈ps.flatMap partLink++nl→fldOnly p=true∧∃u off hv,t'.nav p=some (.slc u,off)∧cells'.toList[off]? =some hv∧
  ∀blk,(⟨cs0,av,new,[],[]⟩:Res).L L k=some (some blk)→blk.t= .arr 0 u∧okB blk.row blk.len (.arr 0 u) []∧HW (nilρ new ρ k) blk.row blk.len (.arr 0 u) [] hv:=by
 obtain⟨m1,m2⟩:=partsOk_mem ps vs hpo
 have hndv:(vs.map (·.1)).Nodup:=by rw[←m1];exact nodup_of' hnd
 have hsub:∀i,i∈ps.map (·.1)→∃u o,t'.nav [.fld i]=some (u,o):=by
  intro i hi
  obtain⟨⟨i',a,b⟩,hm,rfl⟩:=List.mem_map.1 hi
  obtain⟨u,y,cs',h1,_⟩:=fillParts_mem ps x0 x cs e1 i' a b hm
  cases hn:t'.nav [.fld i'] with
  |none=>rw[hn] at h1;cases h1
  |some q=>exact⟨q.1,q.2,rfl⟩
 have hap:∀i j off sz off' sz',i∈vs.map (·.1)→j∈vs.map (·.1)→i≠j→place i=some (off,sz)→place j=some (off',sz')→off+sz≤off'∨off'+sz'≤off:=by
  intro i j off sz off' sz' hi hj hne p1 p2
  rw[←m1] at hi hj
  obtain⟨u,o,n1⟩:=hsub i hi
  obtain⟨u',o',n2⟩:=hsub j hj
  obtain⟨k1,k2⟩:=hpl i u o n1
  obtain⟨k3,k4⟩:=hpl j u' o' n2
  rw[k1] at p1;cases p1
  rw[k3] at p2;cases p2
  exact clash_apart t' [.fld i] [.fld j] u u' _ _ (by simp[clash,hne]) k2 k4 n1 n2
 have oldL:∀k,(L k).isSome→(⟨cs0,av,new,[],[]⟩:Res).L L k=L k∧nilρ new ρ k=ρ k:=by
  intro k hk
  cases hq:look k new with
  |some b=>rw[hnl _ (look_memN hq)] at hk;cases hk
  |none=>exact⟨by rw[L_news,hq],by simp only[nilρ,hq]⟩
 intro p k hm
 rcases List.mem_append.1 hm with hm|hm
 ·obtain⟨⟨i,a,b⟩,hp,hm⟩:=List.mem_flatMap.1 hm
  obtain⟨v,hv,ha,hb⟩:=m2 i a b hp
  obtain⟨u,y,cs',s1,s2,s3⟩:=fillParts_mem ps x0 x cs e1 i a b hp
  have hk:=hkn i a b hp
  obtain⟨u0,o0,n0⟩:=hsub i (List.mem_map.2 ⟨_,hp,rfl⟩)
  have hu:u0=u:=by rw[n0] at s1;simpa using s1
  subst hu
  obtain⟨k1,k2⟩:=hpl i u0 o0 n0
  have hat:=fill_at vs zc cells' hfill hndv hap i v o0 _ hv k1
  have hrv:=deepV_sound (E:=true) hR ha hb s2 (fun c hc'=>hc c (s3 c hc'))
  simp only[if_true] at hrv
  simp only[partLink] at hm
  split at hm
  ·rename_i k' u2 b2
   split at hm
   ·rename_i hrf
    simp only[Bool.and_eq_true] at hrf
    simp only[List.mem_singleton,Prod.mk.injEq] at hm
    obtain⟨rfl,rfl⟩:=hm
    have ha':RepAV F ρ L (.whole k (.arr 0 u2) []) v:=ha
    obtain⟨k3,hk3,hL3⟩:=blkL_some hb
    simp only[AV.key,Option.some.injEq] at hk3
    subst hk3
    obtain⟨hroot,_⟩:=repAV_whole.1 ha' _ hL3
    have hts:=whole_slc hroot hrf.2 s2
    subst hts
    refine⟨rfl,u2,o0,v,n0, ?_,fun blk hL=> ?_⟩
    ·have:=hat 0 (by simp[Ty.size])
     rw[Nat.add_zero] at this
     rw[this,slc_cells hrv];rfl
    ·obtain⟨o1,o2⟩:=oldL k (by rw[hL3];rfl)
     rw[o1] at hL
     rw[o2];exact repAV_whole.1 ha' blk hL
   ·cases hm
  ·rename_i t1 x1 l _
   obtain⟨q,hq,hqe⟩:=List.mem_map.1 hm
   cases hqe
   have ht1:=vlk_ty s2
   subst ht1
   obtain⟨v1,hv1,_,hl⟩:=repA_nt ha rfl
   cases hv1
   obtain⟨f1,u2,off2,hv2,n2,c2,w2⟩:=hl q.1 q.2 hq
   refine⟨f1,u2,o0+off2,hv2,nav_append t' [.fld i] q.1 _ _ _ _ n0 n2, ?_,fun blk hL=> ?_⟩
   ·have hlt:=nav_le _ q.1 _ _ (fld_ok _ _ _ _ f1 n2) n2
    simp only[Ty.size] at hlt
    rw[hat off2 (by omega)];exact c2
   ·obtain⟨o1,o2⟩:=oldL q.2 (hk q.2 (by simp only[AV.keys,List.mem_map];exact⟨_,hq,rfl⟩))
    rw[o1] at hL
    rw[o2];exact w2 blk hL
  ·cases hm
 ·obtain⟨j1,j2⟩:=nilNew_spec nl new hnew
  obtain⟨f1,u,off,n1,hmem⟩:=j1 p k hm
  have hq:=look_of_mem hmem hndn
  refine⟨f1,u,off,.slice none 0 0,n1, ?_,fun blk hL=> ?_⟩
  ·have hh:=(List.all_eq_true.1 hhf) _ hm
   rw[fill_keep vs zc cells' hfill (fun i o1 s1 hi hp1=> ?_),hz]
   ·exact zero_nil t' p u off f1 n1
   ·rw[←m1] at hi
    obtain⟨u',o',n2⟩:=hsub i hi
    obtain⟨k1,k2⟩:=hpl i u' o' n2
    rw[k1] at hp1;cases hp1
    have hcl:clash p [.fld i]=false:=by
     cases p with
     |nil=>simp[headFree] at hh
     |cons s p=>
      cases s with
      |idx j=>simp[headFree] at hh
      |fld j=>
       simp only[headFree,Bool.not_eq_true'] at hh
       have hne:j≠i:=fun e=>by subst e;simp at hh;obtain⟨a,b,hab⟩:=List.mem_map.1 hi;exact absurd hi (by simpa using hh)
       simp[clash,hne]
    have:=clash_apart t' p [.fld i] _ _ _ _ hcl (fld_ok _ _ _ _ f1 n1) k2 n1 n2
    simp only[Ty.size] at this
    omega
  ·rw[L_news,hq] at hL
   cases hL
   exact⟨rfl,by simp[okB],.inl ⟨by simp only[nilρ,hq],rfl,rfl,rfl,rfl⟩⟩
theorem chain_all {P:Program}:∀(t:Ty) (fs:List Field) (off:Nat),tOkB P t (.inr (fs,off))=true→∀f,f∈fs→∃u,TyOk P u f.type:=by
 intro t
 induction t with
 |pair a b _ ihb=>
  intro fs off h
  cases fs with
  |nil=>simp[tOkB] at h
  |cons f r=>
   simp only[tOkB,Bool.and_eq_true,beq_iff_eq,bne_iff_ne,ne_eq] at h
   intro g hg
   rcases List.mem_cons.1 hg with rfl|hg
   ·exact⟨a,h.1.2⟩
   ·exact ihb r _ h.2 g hg
 |unit=>
  intro fs off h
  cases fs with
  |nil=>intro f hf;cases hf
  |cons f r=>simp[tOkB] at h
 |_=>intro fs off h;cases fs<;>simp[tOkB] at h
theorem run_places {P:Program}:∀(fs:List Field) (w:World),(∀f,f∈fs→∃u,TyOk P u f.type)→
 ((fs.mapM fun f=>do pure (f.offset,←Go.sizeOf f.type):Sem (List (Nat×Nat)))).run P w= .ok (fs.map fun f=>(f.offset,P.cellsOf f.type)) w:=by
 intro fs
 induction fs with
 |nil=>intro w _;simp
 |cons f r ih=>
  intro w h
  obtain⟨u,hu⟩:=h f (by simp)
  obtain⟨i,z,i1,i2,_⟩:=hu.info.out
  have hs:P.cellsOf f.type=u.size:=by simp[Program.cellsOf,i1,i2]
  simp only[List.mapM_cons,Sem.run_bind,run_sizeOf' hu,Result.andThen_ok,Sem.run_pure,ih w (fun g hg=>h g (by simp[hg])),hs,List.map_cons]
theorem pairUp_ok :∀(parts:List (Nat×Operand)) (args:List (AV×Option Blk)) (ps:List (Nat×AV×Option Blk)),pairUp (parts.map (·.1)) args=some ps→ArgsOk F ρ L args (parts.map fun p=>ev p.2)→
 PartsOk F ρ L (ps.map fun p=>(p.1,p.2.1,p.2.2)) (parts.map fun p=>(p.1,ev p.2)):=by
 intro parts
 induction parts with
 |nil=>
  intro args ps e h
  cases args with
  |nil=>simp[pairUp] at e;subst e;trivial
  |cons a args=>exact h.elim
 |cons p parts ih=>
  intro args ps e h
  cases args with
  |nil=>exact h.elim
  |cons a args=>
   simp only[List.map_cons,pairUp] at e
   split at e
   ·rename_i r e1
    cases e
    exact⟨rfl,h.1,ih args r e1 h.2⟩
   ·cases e
theorem pairUp_mem :∀(is:List Nat) (args:List (AV×Option Blk)) (ps:List (Nat×AV×Option Blk)),pairUp is args=some ps→∀i a b,(i,a,b)∈ps→(a,b)∈args:=by
 intro is
 induction is with
 |nil=>
  intro args ps e i a b h
  cases args with
  |nil=>simp[pairUp] at e;subst e;cases h
  |cons x args=>simp[pairUp] at e
 |cons j is ih=>
  intro args ps e i a b h
  cases args with
  |nil=>simp[pairUp] at e
  |cons x args=>
   simp only[pairUp] at e
   split at e
   ·rename_i r e1
    cases e
    rcases List.mem_cons.1 h with h|h
    ·cases h;exact List.mem_cons_self
    ·exact List.mem_cons_of_mem _ (ih args r e1 i a b h)
   ·cases e
theorem sound_build (hI:In E B0 F ρ L w){t:TypeId}{parts:Array (Nat×Operand)}{args:List (AV×Option Blk)}(hop:o.op= .build t parts)(hx:ArgsOk F ρ L args (parts.toList.map fun p=>ev p.2))
 (hnew:∀p,p∈r.new→L p.1=none) (hnd:(r.new.map (·.1)).Nodup) (hkn:∀k,k∈keysOf args→(L k).isSome) (e:evalOp E (.build t parts) o.type o.dst args=some r) (hc:∀c,c∈r.cs→c):Does E.P o ev w (Post B0 F ρ L w r.v (r.L L)):=by
 simp only[evalOp] at e
 split at e
 ·rename_i n u ps ht hp
  split at e
  ·rename_i x cs e1
   cases e
   have hty:=hI.env.ty _ _ ht
   obtain⟨eid,g1,g2⟩:=hty.arr
   obtain⟨z,z1,z2,z3⟩:=run_zeroValue' hty
   have hpo:=pairUp_ok (ev:=ev) parts.toList args ps hp hx
   obtain⟨cells',q1,q2⟩:=fill_sound hI.rel (mk:=fun i=>[.idx i]) (t:= .arr n u) (sub:=fun i=>if i<n then some u else none) (place:=fun i=>some (i*u.size,u.size))
    (fun i u' h=>by
      split at h
      ·rename_i hi;cases h;exact⟨i*u.size,rfl,by simp[Ty.nav],hi,okT_nil _⟩
      ·cases h) _ _ _ _ z.cells cs hpo (by rw[z3];exact hty.dflt F) e1 hc
   refine does_pure hI (v:= .agg cells') ?_ (repAV_val.2 (show RepV F (.arr n u) x (.agg cells') from ⟨cells'.toList,by simp,q2⟩)) rfl
   simp[execOp,hop,Instr.build,z1,run_underlying g1,run_sizeOf' g2,q1]
  ·cases e
 ·rename_i t' ps hna ht hp
  split at e
  ·cases e
  rename_i hag
  split at e
  ·rename_i x cs e1
   have hty:=hI.env.ty _ _ ht
   have hpo:=pairUp_ok (ev:=ev) parts.toList args ps hp hx
   obtain⟨z,z1,z2,z3⟩:=run_zeroValue' hty
   have hcs:∀c,c∈cs→c:=by
    intro c hcc
    unfold buildRes at e
    split at e
    ·cases e;exact hc c hcc
    ·split at e
     ·split at e
      ·cases e;exact hc c hcc
      ·cases e
     ·cases e
   have fin:∀(fs:Array Field),E.P.underlying t=some (.struct fs)→(∀f,f∈fs.toList→∃u,TyOk E.P u f.type)→t'.isAgg=true→
    (∀i u o,t'.nav [.fld i]=some (u,o)→∃f,fs[i]? =some f∧f.offset=o∧TyOk E.P u f.type∧okT t' [.fld i])→Does E.P o ev w (Post B0 F ρ L w r.v (r.L L)):=by
    intro fs g1 hall hagg hfld
    have hpl:=run_places fs.toList w hall
    have hpl2:((fs.mapM fun f=>do pure (f.offset,←Go.sizeOf f.type):Sem (Array (Nat×Nat)))).run E.P w= .ok (fs.map fun f=>(f.offset,E.P.cellsOf f.type)) w:=by
     rw[Array.mapM_eq_mapM_toList,Sem.run_map,hpl]
     simp only[Result.andThen_ok]
     congr 1
     apply Array.ext';simp
    obtain⟨cells',q1,q2⟩:=fill_sound hI.rel (mk:=fun i=>[.fld i]) (t:=t') (sub:=fun i=>(t'.nav [.fld i]).map (·.1)) (place:=fun i=>(fs.map fun f=>(f.offset,E.P.cellsOf f.type))[i]?)
     (fun i u' h=>by
       cases hn:t'.nav [.fld i] with
       |none=>rw[hn] at h;cases h
       |some p=>
        obtain⟨u2,o2⟩:=p
        rw[hn] at h
        cases h
        obtain⟨f,k1,k2,k3,k4⟩:=hfld i _ _ hn
        obtain⟨ii,zz,i1,i2,_⟩:=k3.info.out
        exact⟨o2,by simp[k1,k2,Program.cellsOf,i1,i2],rfl,k4⟩) _ _ _ _ z.cells cs hpo (by rw[z3];exact hty.dflt F) e1 hcs
    have hrun:(execOp ev o).run E.P w= .ok (.value (.agg cells')) w:=by
     simp only[execOp,hop,Instr.build,Sem.run_bind,z1,run_underlying g1,Result.andThen_ok,hpl2]
     simp only[Array.toList_map,q1,Sem.run_pure,Result.andThen_ok]
    have hrv:RepV F t' x (.agg cells'):=by unfold RepV;rw[if_pos hagg];exact⟨cells'.toList,by simp,q2⟩
    unfold buildRes at e
    split at e
    ·cases e
     exact does_pure hI (v:= .agg cells') hrun (repAV_val.2 hrv) rfl
    ·rename_i nl hnl
     split at e
     ·rename_i new hnw
      split at e
      ·rename_i hchk
       cases e
       simp only[Bool.and_eq_true] at hchk
       obtain⟨h1,h2⟩:=hI.rel.nils (cs:=cs) (v:= .vlk t' x (ps.flatMap partLink++nl)) hnew (fun p hp=>((nilNew_spec nl new hnw).2 p hp).1)
       refine does_ok hrun ⟨F,nilρ new ρ,repAV_nt rfl ⟨.agg cells',rfl,hrv, ?_⟩,h1,FH.le.rfl,fun _ _=>rfl,h2,Kept.refl _ _⟩
       have hbl:=build_links (cs0:=cs) (av:= .vlk t' x (ps.flatMap partLink++nl)) (zc:=z.cells) hI.rel (place:=fun i=>(fs.map fun f=>(f.offset,E.P.cellsOf f.type))[i]?) (fun i u o hn=>by
        obtain⟨f,k1,k2,k3,k4⟩:=hfld i _ _ hn
        obtain⟨ii,zz,i1,i2,_⟩:=k3.info.out
        exact⟨by simp[k1,k2,Program.cellsOf,i1,i2],k4⟩) z3 hpo e1 hcs q1 (by simpa using hchk.1) (by simpa using hchk.2) hnw hnew hnd (fun i a b hm k hk=>hkn k (by
         have:=pairUp_mem _ _ _ hp i a b (by simpa using hm)
         exact List.mem_flatMap.2 ⟨_,this,by simp only[argKeys];exact List.mem_append_left _ hk⟩))
       simpa[Value.cells] using hbl
      ·cases e
     ·cases e
   cases t' with
   |pair a b=>
    obtain⟨fs,f,rr,h1,h2,h3,h4,h5,h6,h7,h8⟩:=hty.pair
    have hcch:tOkB E.P (.pair a b) (.inr (fs.toList,0))=true:=by
     rw[h3];simp only[tOkB,Bool.and_eq_true,beq_iff_eq,bne_iff_ne,ne_eq]
     exact⟨⟨⟨⟨h4,h5⟩,h6⟩,h7⟩,by simpa using h8⟩
    refine fin fs h1 (chain_all _ _ _ hcch) rfl (fun i u o hn=> ?_)
    obtain⟨g,k1,k2,k3,k4,k5⟩:=chain_field _ _ _ _ _ _ hcch hn
    exact⟨g,by simpa using k1,by simpa using k2,k3,k5⟩
   |unit=>
    obtain⟨fs,h1,h2,h3⟩:=hty.unit
    exact fin fs h1 (by rw[h2];intro f hf;cases hf) rfl (fun i u o hn=>by simp[Ty.nav] at hn)
   |arr n u=>exact absurd rfl (hna n u)
   |_=>simp[Ty.isAgg] at hag
  ·cases e
 ·cases e
theorem range_cycle' (zs:Array Value)(n:Nat):((Array.range (n*zs.size)).map (fun i=>zs[i%zs.size]!))=(List.replicate n zs.toList).flatten.toArray:=by
 have:=range_cycle zs.toList n
 apply Array.ext'
 rw[List.toList_toArray,←this]
 simp[Array.toList_map,Array.toList_range]
theorem sound_buildSlice (hI:In E B0 F ρ L w){t:TypeId}{len:Nat}{parts:Array (Nat×Operand)}{args:List (AV×Option Blk)}(hop:o.op= .buildSlice t len parts)
 (hx:ArgsOk F ρ L args (parts.toList.map fun p=>ev p.2)) (hnew:∀p,p∈r.new→L p.1=none)
 (e:evalOp E (.buildSlice t len parts) o.type o.dst args=some r) (hc:∀c,c∈r.cs→c):Does E.P o ev w (Post B0 F ρ L w r.v (r.L L)):=by
 simp only[evalOp] at e
 split at e
 ·rename_i u ps d ht hp hd
  split at e
  ·rename_i x cs e1
   split at e
   ·cases e
   rename_i hbig
   cases e
   have hty:=hI.env.ty _ _ ht
   obtain⟨eid,g1,g2⟩:=hty.slc
   obtain⟨z,z1,z2,z3⟩:=run_zeroValue' g2
   have hzs:z.cells.size=u.size:=by rw[←Array.length_toList,z3,zeroCs_len]
   have hpo:=pairUp_ok (ev:=ev) parts.toList args ps hp hx
   have hcells:∃zc:Array Value,(len*u.size=0→zc= #[])∧(len*u.size≠0→zc=z.cells)∧
    ((Array.range (len*u.size)).map (zc[·%zc.size]!)).toList=(List.replicate len (zeroCs u)).flatten:=by
    by_cases h0:len*u.size=0
    ·refine⟨#[],fun _=>rfl,fun h=>absurd h0 h, ?_⟩
     rw[h0]
     have:(List.replicate len (zeroCs u)).flatten.length=0:=by simp[zeroCs_len,h0]
     rw[List.eq_nil_of_length_eq_zero this];simp
    ·refine⟨z.cells,fun h=>absurd h h0,fun _=>rfl, ?_⟩
     rw[←hzs,range_cycle' z.cells len,List.toList_toArray,z3]
   obtain⟨zc,zc0,zc1,zc2⟩:=hcells
   obtain⟨cells',q1,q2⟩:=fill_sound hI.rel (mk:=fun i=>[.idx i]) (t:= .arr len u) (sub:=fun i=>if i<len then some u else none) (place:=fun i=>some (i*u.size,u.size))
    (fun i u' h=>by
      split at h
      ·rename_i hi;cases h;exact⟨i*u.size,rfl,by simp[Ty.nav],hi,okT_nil _⟩
      ·cases h) _ _ _ _ ((Array.range (len*u.size)).map (zc[·%zc.size]!)) cs hpo (by rw[zc2];exact⟨by simp[Ty.dflt],repL_replicate (g2.dflt F) len⟩) e1 hc
   obtain⟨k1,k2⟩:=q2
   have ll:=repL_rep_len k2
   have k1':List.length x=len:=k1
   refine does_newRow hI (hnew _ (List.mem_singleton.2 rfl)) (w':=w) (id:=eid) (cl:=cells'.toList) (rest:=[]) (cap:=len) rfl (Kept.refl _ _) k2 (by rw[ll,k1'];simp) (by rw[k1'];exact Nat.le_refl _) ?_
   have hb:¬(len*u.size>2^24):=hbig
   simp only[execOp,hop,Instr.buildSlice,Sem.run_bind,run_underlying g1,Result.andThen_ok,run_sizeOf' g2]
   rw[if_neg hb]
   by_cases h0:len*u.size=0
   ·rw[zc0 h0] at q1
    simp only[if_pos h0,Sem.run_bind,Sem.run_pure,Result.andThen_ok,Array.toList_map,q1,newRow,run_newObj,k1',List.append_nil]
    simp
   ·rw[zc1 h0] at q1
    simp only[if_neg h0,Sem.run_bind,Sem.run_pure,Result.andThen_ok,z1,Array.toList_map,q1,newRow,run_newObj,k1',List.append_nil]
    simp
  ·cases e
 ·cases e
theorem does_mono {P:Program}{o:Oper}{ev:Operand→Value}{w:World}{post post':Value→World→Prop}(h:Does P o ev w post)(hp:∀v w',post v w'→post' v w'):Does P o ev w post':=
 fun a next Q he hn=>h a next Q he (fun v w' p=>hn v w' (hp v w' p))
theorem look_app {α:Type}(n:Nat):∀(l m:List (Nat×α)),look n (l++m)=match look n l with|some b=>some b|none=>look n m
 |[],m=>rfl
 |p::l,m=>by
  obtain⟨k,b⟩:=p
  rw[List.cons_append,look_cons,look_cons,look_app n l m]
  split<;>rfl
theorem sound_alloc (hI:In E B0 F ρ L w){e:TypeId}(hop:o.op= .alloc e)(hnew:∀p,p∈r.new→L p.1=none)(hnd:(r.new.map (·.1)).Nodup)(ev_:evalOp E (.alloc e) o.type o.dst []=some r):
 Does E.P o ev w (Post B0 F ρ L w r.v (r.L L)):=by
 simp only[evalOp] at ev_
 split at ev_
 ·rename_i t d ht hd
  have hty:=hI.env.ty _ _ ht
  obtain⟨z,z1,z2,z3⟩:=run_zeroValue' hty
  have hrun:(execOp ev o).run E.P w= .ok (.value (.pointer (some ⟨w.heap.size,0,none⟩))) (w.alloc (.cells z.cells.toList.toArray e)):=by simp[execOp,hop,Instr.alloc,z1,newVar,newRow]
  split at ev_
  ·cases ev_
   exact does_newVar hI (hnew _ (List.mem_singleton.2 rfl)) (cl:=z.cells.toList) (id:=e) (by rw[z3];exact hty.dflt F) hrun
  ·rename_i nl hnl
   split at ev_
   ·rename_i new hnw
    cases ev_
    obtain⟨j1,j2⟩:=nilNew_spec nl new hnw
    have hnew1:∀p,p∈new→L p.1=none:=fun p hp=>hnew p (List.mem_append_left _ hp)
    have hd0:L d=none:=hnew (d,_) (List.mem_append_right _ (List.mem_singleton.2 rfl))
    rw[List.map_append,List.nodup_append] at hnd
    obtain⟨hnd1,_,hnd3⟩:=hnd
    have hdn:look d new=none:=by
     cases hq:look d new with
     |none=>rfl
     |some b=>exact absurd rfl (hnd3 d (List.mem_map.2 ⟨_,look_memN hq,rfl⟩) d (by simp))
    obtain⟨h1,h2⟩:=hI.rel.nils (cs:=[]) (v:= .tnil) hnew1 (fun p hp=>(j2 p hp).1)
    have hI':In E B0 F (nilρ new ρ) ((⟨[],.tnil,new,[],[]⟩:Res).L L) w:=⟨hI.env,h1,hI.size⟩
    have hLd:(⟨[],.tnil,new,[],[]⟩:Res).L L d=none:=by rw[L_news,hdn];exact hd0
    have hS:=does_newVarL (cs:=[]) (lk:=nl) hI' hLd (cl:=z.cells.toList) (id:=e) (x:=t.dflt) (t:=t) (by rw[z3];exact hty.dflt F) (by
     intro p kk hm
     obtain⟨f1,u,off,n1,hmem⟩:=j1 p kk hm
     have hq:=look_of_mem hmem hnd1
     refine⟨by rw[L_news,hq];rfl,f1,u,off,.slice none 0 0,n1, ?_,fun blk hL=> ?_⟩
     ·rw[z3];exact zero_nil t p u off f1 n1
     ·rw[L_news,hq] at hL
      cases hL
      exact⟨rfl,by simp[okB],.inl ⟨by simp only[nilρ,hq],rfl,rfl,rfl,rfl⟩⟩) hrun
    have hLq:(⟨[],.ptr d t [],new++[(d,⟨false,t,t.dflt,false,nl⟩)],[],[]⟩:Res).L L=(⟨[],.ptr d t [],[(d,⟨false,t,t.dflt,false,nl⟩)],[],[]⟩:Res).L ((⟨[],.tnil,new,[],[]⟩:Res).L L):=by
     funext n
     rw[L_new,L_news]
     by_cases h:n=d
     ·subst h
      rw[look_app,hdn,upd_same]
      simp[look_cons]
     ·rw[upd_ne _ _ h,L_news,look_app]
      cases look n new with
      |some b=>rfl
      |none=>simp[look_cons,h,look]
    rw[hLq]
    refine does_mono hS (fun v w' hp=> ?_)
    obtain⟨F',ρ',p1,p2,p3,p4,p5,p6⟩:=hp
    refine⟨F',ρ',p1,p2,p3,p4,LLe.trans h2 (fun kk hkk=> ?_) p5,p6⟩
    rw[L_news]
    cases look kk new with
    |some b=>rfl
    |none=>exact hkk
   ·cases ev_
 ·cases ev_
theorem fld_append :∀{p q:List Stp},fldOnly p=true→fldOnly q=true→fldOnly (p++q)=true:=by
 intro p
 induction p with
 |nil=>intro q _ h;exact h
 |cons s p ih=>
  intro q h1 h2
  cases s with
  |fld i=>simp only[List.cons_append,fldOnly] at h1⊢;exact ih h1 h2
  |idx i=>simp[fldOnly] at h1
theorem sound_store (hI:In E B0 F ρ L w){t:TypeId}{X Y:Operand}{x y:AV×Option Blk}(hop:o.op= .store t X Y)(hx:Arg F ρ L x (ev X))(hy:Arg F ρ L y (ev Y))(hkn:∀k,k∈y.1.keys→(L k).isSome)
 (e:evalStore (E.ty t) x.1 x.2 y=some r) (hc:∀c,c∈r.cs→c):Does E.P o ev w (Post B0 F ρ L w .tnil (r.L L)):=by
 obtain⟨a,b⟩:=x
 obtain⟨ha,hb⟩:=hx
 obtain⟨a',b'⟩:=y
 obtain⟨ha',hb'⟩:=hy
 simp only at ha hb ha' hb' e
 unfold evalStore at e
 split at e
 ·rename_i t' k root path blk ht
  split at e
  ·cases e
  rename_i hfz
  simp only[Bool.or_eq_true,not_or,Bool.not_eq_true] at hfz
  obtain⟨hz,hrow⟩:=hfz
  split at e
  ·rename_i z cs e1
   split at e
   ·rename_i zz e2
    cases e
    have hv:=deepV_sound (E:=true) hI.rel ha' hb' e1 hc
    simp only[if_true] at hv
    have hvc:=repV_cells hv
    obtain⟨k',hk',hL⟩:=blkL_some hb
    cases hk'
    obtain⟨rfl,hok,bb,cap,u',off,h1,h2,h3⟩:=repAV_ptr.1 ha blk hL
    obtain⟨c,eid,fr,hd,cl,rest,g1,g2,g3,g4,g5,g6⟩:=hI.rel.live hL h1 (notMap_row h2 hrow) (blkL_shut hb)
    obtain⟨cap,base⟩:=cap
    have hb0:base=0:=g4.2.1 hz
    subst hb0
    have hd0:hd=[]:=List.eq_nil_of_length_eq_zero g4.1
    subst hd0
    replace g4:c.toList=cl++rest:=by simpa using g4.2.2
    simp only[Nat.zero_add] at h3 g6
    obtain⟨o2,n1,n2,n3,n4⟩:=blk_set g5 hok hrow e2 hvc
    rw[h2] at n1;cases n1
    simp only at n2 n3
    have hty:=hI.env.ty _ _ ht
    have lv:=rep_len _ _ _ hvc
    have lc:c.toList.length=cl.length+rest.length:=by rw[g4,List.length_append]
    simp only[Array.length_toList] at lv lc
    have hst:=run_storeCells' E.P bb off eid fr (ev Y).cells.toList 0 c w g2 g3 (by simp;omega) (rep_one _ _ _ hvc)
    have hput:putL c.toList off (ev Y).cells.toList=putL cl off (ev Y).cells.toList++rest:=by
     simp only[putL,g4,Array.length_toList]
     rw[List.take_append,List.drop_append,show off-cl.length=0 by omega,show off+(ev Y).cells.size-cl.length=0 by omega]
     simp
    have hsz:(putL c.toList off (ev Y).cells.toList).toArray.size=c.size:=by
     rw[List.size_toArray,putL_len (by simp;omega)];simp
    have hlen':(⟨blk.row,blk.t,zz,false,if blk.row then[] else lkSet path (a',b') blk.lk⟩:Blk).len=blk.len:=by
     simp only[Blk.len]
     cases hr:blk.row
     ·rw[hr] at n3 g5;exact lenT_var n3 g5
     ·exact n4 hr
    obtain⟨F',f1,f2,f3⟩:=hI.rel.redo0 (k':=k) (blk':=⟨blk.row,blk.t,zz,false,if blk.row then[] else lkSet path (a',b') blk.lk⟩) (c':=(putL c.toList off (ev Y).cells.toList).toArray) (cs:=cl) (cs':=putL cl off (ev Y).cells.toList) (rest':=rest)
     hL (.inl ⟨rfl,rfl,rfl,hlen'⟩) h1 g2 g1 g3 g4 g6 hsz (by simpa using hput) (by rw[hsz];exact n3) (fun h=>by rw[hz] at h;cases h) (by
      intro p kk hm
      cases hrw:blk.row
      ·rw[hrw] at hm hok
       have hokT:okT blk.t path:=hok
       simp only[Bool.false_eq_true,if_false] at hm
       rcases lk_new hm with⟨u2,b2,rfl,rfl,hc1,hc2,hc3,rfl⟩|⟨hm,hcl⟩|⟨t1,x1,l1,q,rfl,hq,hfo,rfl⟩
       ···obtain⟨k3,hk3,hL3⟩:=blkL_some hb'
          simp only[AV.key,Option.some.injEq] at hk3
          subst hk3
          obtain⟨hroot,_⟩:=repAV_whole.1 ha' _ hL3
          have hts:t'= .slc u2:=by
           obtain⟨row2,t2,x2,fz2,lk2⟩:=b2
           simp only at hroot hc2
           subst hroot
           cases t' with
           |slc u=>
            simp only[deepV,hc2,Bool.not_true,Bool.and_false,Bool.false_eq_true,if_false,getP] at e1
            split at e1
            ·rename_i y e3
             have:=TV.as_eq e3
             injection this with h4
             injection h4 with h4
             rw[h4]
            ·cases e1
           |_=>simp[deepV] at e1
          subst hts
          refine⟨by rw[hL3];rfl,hc3,u2,off,ev Y,h2, ?_,ha'⟩
          have hcells:(ev Y).cells.toList=[ev Y]:=by
           obtain⟨v,hv1,hv2⟩:=hvc
           have:∀w:Value,w.cells.toList=[w]∨∃cs,w= .agg cs:=by
            intro w;cases w<;>first|(left;rfl)|(right;exact⟨_,rfl⟩)
           rcases this (ev Y) with h|⟨cs,h⟩
           ·exact h
           ·exfalso
            rw[h] at hv
            simp only[RepV,Ty.isAgg] at hv
            obtain⟨v2,hv3,hv4⟩:=hv
            simp at hv3
            rcases hv4 with⟨⟨_,h5⟩,_⟩|⟨_,_,_,_,h5,_⟩
            ·rw[←hv3] at h5;cases h5
            ·rw[←hv3] at h5;cases h5
          rw[List.getElem?_toArray]
          unfold putL
          rw[hcells,List.append_assoc,List.getElem?_append_right (by simp;omega)]
          simp only[List.length_take,Array.length_toList]
          rw[Nat.min_eq_left (by omega),Nat.sub_self];rfl
       ·obtain⟨q1,q2⟩:=hI.rel.lnk k blk hL p kk hm
        obtain⟨q0,u3,off3,v3,q3,q4,q5⟩:=q2 bb (cap,0) h1
        refine⟨q1,q0,u3,off3,v3,q3, ?_,q5⟩
        have hc3:c.toList[off3]? =some v3:=by simp only[cellAt,g2,Nat.zero_add] at q4;simpa using q4
        have hap:=clash_apart blk.t p path _ _ _ _ hcl (fld_ok _ _ _ _ q0 q3) hokT q3 h2
        have:(putL c.toList off (ev Y).cells.toList)[off3]? =c.toList[off3]? :=putL_out (by simp;omega) (by
         simp only[Ty.size] at hap
         simp only[Array.length_toList,lv]
         omega)
        rw[List.getElem?_toArray,this];exact hc3
       ·have ht1:=vlk_ty e1
        subst ht1
        obtain⟨v1,hv1,_,hl⟩:=repA_nt ha' rfl
        cases hv1
        obtain⟨f1,u2,off2,hv2,n2',c2,w2⟩:=hl q kk hq
        refine⟨hkn kk (by simp only[AV.keys,List.mem_map];exact⟨_,hq,rfl⟩),fld_append hfo f1,u2,off+off2,hv2,nav_append _ _ _ _ _ _ _ h2 n2', ?_,repAV_whole.2 w2⟩
        have hlt:=nav_le t1 q _ _ (fld_ok _ _ _ _ f1 n2') n2'
        simp only[Ty.size] at hlt
        rw[List.getElem?_toArray]
        unfold putL
        rw[List.append_assoc,List.getElem?_append_right (by simp;omega)]
        simp only[List.length_take,Array.length_toList]
        rw[Nat.min_eq_left (by omega),Nat.add_sub_cancel_left,List.getElem?_append_left (by simp;omega)];exact c2
      ·rw[hrw] at hm;simp at hm)
    rw[L_set]
    refine does_skip (w':={w with heap:=w.heap.setIfInBounds bb (.cells (putL c.toList off (ev Y).cells.toList).toArray eid fr)}) ?_ ⟨F',_, ?_,f3,f1,fun b hb=>f2 b (fun e=>hb (e▸g1)), ?_, ?_⟩
    ·simp only[Nat.add_zero] at hst
     simp[execOp,hop,h3,Instr.storeAt,Instr.sureAddr,storeVar,run_sizeOf' hty,lv,hst]
    ·simp only[RepAV,AV.isTup,if_true];exact⟨[],rfl,rfl⟩
    ·exact LLe.redo (blk':=⟨blk.row,blk.t,zz,false,if blk.row then[] else lkSet path (a',b') blk.lk⟩) hL (.inl ⟨rfl,rfl,rfl,hlen'⟩) h1
    ·refine⟨rfl,rfl,rfl,by simp,fun i hi=> ?_⟩
     show(w.heap.setIfInBounds bb _)[i]? =_
     have hne:bb≠i:=fun e=>hi (by rw[←e];exact g1)
     rw[Array.getElem?_setIfInBounds_ne hne]
   ·cases e
  ·cases e
 ·cases e
theorem keyM :∀(av:AV) (k:Nat),av.key=some k→k∈av.keys:=by
 intro av
 induction av with
 |opt p a ih=>intro k h;exact ih k h
 |ptr k r p=>intro k' h;simp[AV.key] at h;simp[AV.keys,h]
 |whole k r p=>intro k' h;simp[AV.key] at h;simp[AV.keys,h]
 |sub k r p o n=>intro k' h;simp[AV.key] at h;simp[AV.keys,h]
 |mref k=>intro k' h;simp[AV.key] at h;simp[AV.keys,h]
 |_=>intro k h;simp[AV.key] at h
theorem sound_storeN (hI:In E B0 F ρ L w){t:TypeId}{X Y:Operand}{x:AV×Option Blk}{d:Nat}(hop:o.op= .store t X Y)(hx:Arg F ρ L x (ev X))(hy:ev Y= .slice none 0 0)(hkx:∀k,k∈x.1.keys→(L k).isSome)
 (hnew:∀p,p∈r.new→L p.1=none) (e:evalStoreN (E.ty t) d x.1 x.2=some r) (hc:∀c,c∈r.cs→c):Does E.P o ev w (Post B0 F ρ L w .tnil (r.L L)):=by
 unfold evalStoreN at e
 split at e
 ·rename_i u ht
  split at e
  ·rename_i r0 e0
   cases e
   have hd:L d=none:=hnew _ (List.mem_singleton.2 rfl)
   have hLL:LLe L ρ (upd L d (some (some (emptyB u)))) (upd ρ d none):=LLe.fresh hd _ _
   have hI':In E B0 F (upd ρ d none) (upd L d (some (some (emptyB u)))) w:=⟨hI.env,hI.rel.freshNil hLL rfl,hI.size⟩
   have hb:blkL (upd L d (some (some (emptyB u)))) x.1=blkL L x.1:=by
    unfold blkL
    congr 1
    unfold blkF
    split
    ·rfl
    ·rename_i k hk
     have hne:k≠d:=by
      intro h
      have h2:=hkx k (keyM _ _ hk)
      rw[h,hd] at h2;cases h2
     rw[upd_ne _ _ hne]
   have hx':Arg F (upd ρ d none) (upd L d (some (some (emptyB u)))) x (ev X):=⟨repAV_ext FH.le.rfl hLL hkx hx.1,by rw[hb];exact hx.2⟩
   have hr0:r0.new=[]∧r0.kill=[]∧∃k b,r0.set=[(k,b)]∧k∈x.1.keys:=by
    have e1:=e0
    unfold evalStore at e1
    split at e1
    ·rename_i k root path blk _ hxa _
     split at e1
     ·cases e1
     ·split at e1
      ·split at e1
       ·cases e1
        exact⟨rfl,rfl,_,_,rfl,by rw[hxa];simp[AV.keys]⟩
       ·cases e1
      ·cases e1
    ·cases e1
   obtain⟨n1,n2,k,bk,n3,n4⟩:=hr0
   have hkd:k≠d:=by
    intro h
    have h2:=hkx k n4
    rw[h,hd] at h2;cases h2
   have hy':Arg F (upd ρ d none) (upd L d (some (some (emptyB u)))) (.whole d (.arr 0 u) [],some (emptyB u)) (ev Y):=by
    refine⟨repAV_whole.2 (fun blk hL=> ?_), ?_⟩
    ·rw[upd_same] at hL
     cases hL
     exact⟨rfl,by simp[okB,emptyB],.inl ⟨by rw[upd_same],rfl,rfl,rfl,hy⟩⟩
    ·simp[blkL,blkF,AV.key,mask,Blk.isOpen,emptyB]
   have hS:=sound_store (r:=r0) (y:=(.whole d (.arr 0 u) [],some (emptyB u))) hI' hop hx' hy' (fun kk hkk=>by
    simp only[AV.keys,List.mem_singleton] at hkk
    subst hkk;simp) (by rw[ht];exact e0) hc
   have hLq:(⟨r0.cs,r0.v,[(d,emptyB u)],r0.set,r0.kill⟩:Res).L L=r0.L (upd L d (some (some (emptyB u)))):=by
    funext n
    have l1:look n [(d,emptyB u)]=if n=d then some (emptyB u) else none:=by rw[look_cons];rfl
    have l2:look n [(k,bk)]=if n=k then some bk else none:=by rw[look_cons];rfl
    have l3:look n ([]:List (Nat×Blk))=none:=rfl
    simp only[Res.L,n1,n2,n3,l1,l2,l3]
    by_cases h1:n=d
    ·subst h1
     rw[if_pos rfl,if_neg (fun h=>hkd h.symm)];simp
    ·rw[if_neg h1]
     by_cases h2:n=k
     ·subst h2;simp
     ·rw[if_neg h2];simp[upd_ne _ _ h1]
   rw[hLq]
   refine does_mono hS (fun v w' hp=> ?_)
   obtain⟨F',ρ',p1,p2,p3,p4,p5,p6⟩:=hp
   refine⟨F',ρ',p1,p2,p3,p4,LLe.trans hLL (fun kk hkk=> ?_) p5,p6⟩
   by_cases h1:kk=d
   ·subst h1;simp
   ·rw[upd_ne _ _ h1];exact hkk
  ·cases e
 ·cases e
theorem below_set {bb:Nat}(hb:B0 bb)(ob:Obj):Kept B0 w {w with heap:=w.heap.setIfInBounds bb ob}:=by
 refine⟨rfl,rfl,rfl,by simp,fun i hi=> ?_⟩
 show(w.heap.setIfInBounds bb _)[i]? =_
 have hne:bb≠i:=fun e=>hi (by rw[←e];exact hb)
 rw[Array.getElem?_setIfInBounds_ne hne]
theorem sound_makeSlice (hI:In E B0 F ρ L w){t:TypeId}{X Y:Operand}{x y:AV×Option Blk}(hop:o.op= .makeSlice t X Y)(hx:RepAV F ρ L x.1 (ev X))(hy:RepAV F ρ L y.1 (ev Y))(hnew:∀p,p∈r.new→L p.1=none)
 (e:evalOp E (.makeSlice t X Y) o.type o.dst [x,y]=some r) (hc:∀c,c∈r.cs→c):Does E.P o ev w (Post B0 F ρ L w r.v (r.L L)):=by
 obtain⟨x,xb⟩:=x
 obtain⟨y,yb⟩:=y
 simp only[evalOp] at e
 split at e
 ·rename_i u l c d ht hl hcn hd
  cases e
  obtain⟨k1,e1⟩:=num_rep hx hl
  obtain⟨k2,e2⟩:=num_rep hy hcn
  have hb:0≤l∧l≤c:=hc _ (by simp)
  have hroom:Room c.toNat (E.bytes t):=hc _ (by simp)
  have hty:=hI.env.ty _ _ ht
  obtain⟨eid,g1,g2⟩:=hty.slc
  obtain⟨i,z,i1,i2,i3,i4,i5,_⟩:=g2.info.out
  have hbytes:=hI.env.bytes _ _ _ _ ht g1 i1
  have hzs:z.cells.size=u.size:=by rw[←Array.length_toList,i5,zeroCs_len]
  obtain⟨r1,r2⟩:=hroom
  have hb2:(i.bytes:Int)*c≤281474976710656:=by
   have h1:i.bytes*c.toNat≤2^46:=by
    calc i.bytes*c.toNat≤E.bytes t*c.toNat:=Nat.mul_le_mul_right _ hbytes
     _=c.toNat*E.bytes t:=Nat.mul_comm _ _
     _≤2^46:=r2
   have h2:((i.bytes*c.toNat:Nat):Int)≤2^46:=by exact_mod_cast h1
   rw[Int.natCast_mul,Int.toNat_of_nonneg (by omega)] at h2
   omega
  have hrun:=run_make (P:=E.P) w t eid i z g1 i1 i3 k1 k2 l c hb.1 hb.2 hb2 (by omega)
  have hcells:(madeCells z.cells (c.toNat*i.size)).toList=(List.replicate l.toNat (zeroCs u)).flatten++(List.replicate (c.toNat-l.toNat) (zeroCs u)).flatten:=by
   rw[madeCells,i2,←hzs,range_cycle' z.cells c.toNat,List.toList_toArray,i5,←List.flatten_append,List.replicate_append_replicate]
   congr 2;omega
  have hfl:∀n,(List.replicate n (zeroCs u)).flatten.length=n*u.size:=fun n=>by simp[zeroCs_len]
  refine does_newRow hI (hnew _ (List.mem_singleton.2 rfl)) (w':=w) (id:=eid) (cl:=(List.replicate l.toNat (zeroCs u)).flatten) (rest:=(List.replicate (c.toNat-l.toNat) (zeroCs u)).flatten) (cap:=c.toNat) rfl (Kept.refl _ _)
   (repL_replicate (g2.dflt F) _) (by rw[hfl,hfl,←Nat.add_mul];congr 1;omega) (by simp;omega) ?_
  rw[←hcells]
  simp only[execOp,hop,e1,e2,Sem.run_bind,hrun,Result.andThen_ok,Sem.run_pure,List.length_replicate]
 ·cases e
end
end Lc
