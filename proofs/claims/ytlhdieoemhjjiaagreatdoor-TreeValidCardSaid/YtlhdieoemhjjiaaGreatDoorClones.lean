/- The library's Clone at an empty slice that is not nil, wherever its address points. -/
import Derived.Test.YtlhdieoemhjjiaaGreatDoorEngSV
import Derived.Shelf.SlicesE.Clone
import Derived.Shelf.SlSortCmp.NoneTotal
import Derived.Lib.RowBridge
import Derived.Lib.SortBridge
import Derived.Lib.Small
import Derived.Test.YtlhdieoemhjjiaaGreatDoorRulings
import Derived.Test.YtlhdieoemhjjiaaGreatDoorTargets
import Derived.Laws.Externs
set_option linter.unusedVariables false
set_option linter.unusedSimpArgs false
namespace Lc
open Go Go.RowKit Go.Shelf Go.Proofs Go.Lib
set_option maxHeartbeats 1000000 in
theorem cloneE {P:Program}{ρ:Ren}(L:SlLaysE0.n41 P ρ)(i0:TypeInfo)(z:Value)(size:Nat)(hi:P.info? (ρ.t 23)=some i0)(hz0:i0.zero=some z)(hz1:i0.size=size)(hzs:z.cells.size=size)(hsz:0<size)
 (z23:∀w,(Go.sizeOf (ρ.t 23)).run P w= .ok size w) (ad:Addr) (w:World):
 Calls P (ρ.f 41) #[.slice (some ad) 0 0] w fun e w'=>∃v',e= .returned v'∧w'.ownsRow w.heap.size (ρ.t 23) size v' 0 []∧v'≠ .slice none 0 0∧Below w.heap.size w w':=by
 have mixed:=L.mixed;have t4:=L.t4;have a4:=L.a4;have z4:=L.z4;have v4:=L.v4;have t22:=L.t22;have a22:=L.a22;have z22:=L.z22;have v22:=L.v22
 have q22:∀(w:World) (a:Option Addr) (n c n' c':Nat),(binOp .eql (ρ.t 22) (.slice a n c) (.slice none n' c')).run P w= .ok (.bool a.isNone) w:=fun w a n c n' c'=>Lib.run_eql_slice_nil w _ _ a n c n' c' L.t22
 have u22:∀w,Sem.run P (underlying (ρ.t 22)) w= .ok (TypeDesc.slice (ρ.t 23)) w:=run_underlying t22
 obtain⟨_,_,FG⟩:=L.f41
 go_enter FG,SlBodyN.n41_ntmps ρ
 go_wp2_with (at_builtin;refine wpList_append_own _ rfl _ _ (ρ.t 22) rfl w.heap.size (ρ.t 23) i0 z size i0.bytes t22 hi hz0 hz1 rfl hzs hsz _ _ _ rfl (World.ownsRow_made w #[] 0 (Nat.le_refl _) (Nat.zero_le _) (by simp)) ad 0 0 [] rfl ?r1 ?r2 ?r3 ?r4 ?r5 ?r6 ?_)
 case r1=>simp
 case r2=>intro j u hj;simp at hj
 case r3=>intro u hu;simp at hu
 case r4=>exact Nat.zero_le _
 case r5=>simp
 case r6=>simp
 intro v' w1 hown hgrow hnil
 go_wp2
 go_ret
 refine⟨v',rfl,by simpa using hown, ?_, ?_⟩
 ·exact hnil
 ·exact((Below.refl _ w).alloc (Nat.le_refl _) _).grown hgrow (by simp) (by intro k hk;simp[Value.ownBlock] at hk;omega)
end Lc
namespace Lc
open Go Go.Proofs Go.Shelf Go.RowKit Go.Lib Go.Sort
theorem ltC (x y:Int):ltOf Lib.compareInt x y=decide (x<y):=by
 unfold ltOf Lib.compareInt
 by_cases h1:x<y
 ·simp[h1]
 ·by_cases h2:y<x<;>simp[h1,h2]
theorem swoC :SWO (ltOf Lib.compareInt) where
 irrefl x:=by rw[ltC];simp
 trans x y z h1 h2:=by rw[ltC] at*;simp at*;omega
 ntrans x y z h1 h2:=by rw[ltC] at*;simp at*;omega
theorem totC (x y:Int)(h1:ltOf Lib.compareInt x y=false)(h2:ltOf Lib.compareInt y x=false):x=y:=by rw[ltC] at*;simp at*;omega
theorem leC :(fun x y:Int=> !ltOf Lib.compareInt y x)=fun x y=>decide (x≤y):=by
 funext x y
 rw[ltC]
 by_cases h:x≤y
 ·have h':¬y<x:=by omega
  simp[h,h']
 ·have h':y<x:=by omega
  simp[h,h']
theorem repInts {F:FH}{k:IntKind}:∀(xs:List Int) (cs:List Value),RepL (Rep F (.int k)) xs cs↔cs=xs.map (Value.int k)
 |[],cs=>by simp[RepL]
 |x::xs,cs=>by
  simp only[RepL,List.map_cons]
  constructor
  ·rintro⟨c1,c2,rfl,h1,h2⟩
   have h1:c1=[.int k x]:=h1
   rw[h1,(repInts xs c2).1 h2];rfl
  ·intro h
   exact⟨[.int k x],xs.map (Value.int k),by rw[h];rfl,rfl,(repInts xs _).2 rfl⟩
noncomputable abbrev sortMut (k:IntKind)(g:FuncId):Mut:=⟨.int k,[g],fun xs=>List.length xs<4611686018427387904,fun xs=>List.mergeSort (xs:List Int) (fun x y=>decide (x≤y)),false⟩
theorem sortM {P:Program}{ρ:Ren}(L:SlLaysF.n6 P ρ)(k:IntKind)(g:FuncId)(f:FuncId)(hf:ρ.f 6=f)
 (hcl:∀x y W,Calls P g #[.int k x,.int k y] W fun e w'=>e= .returned (.int .i64 (Lib.compareInt x y))∧∃q,w'=W.drewN q)
 (eg:∀args w,(callFunc g args).run P w= .ok (.enter g args) w) (hfn:∃fn,P.funcs[f]? =some fn∧(fn.name== "runtime.NumGoroutine")=false∧fn.body.isSome=true):
 SoundM P f (sortMut k g):=by
 have hnone:∀(p:Option Addr) (cap:Nat) (w:World),Calls P f (Value.slice p 0 cap::fnVals [g]).toArray w (fun e w'=>e= .returned (.tuple #[])∧w'=w):=by
  intro p cap w
  have h:=AnyF.slices_SortFunc_none (P:=P) (ρ:=ρ) {L with} p cap (.func (.func g) #[] #[]) w
  rw[hf] at h
  exact h
 refine⟨hfn,fun xs=>List.length_mergeSort _,fun a cap w _=>(hnone a cap w).mono (fun e w' ⟨h1,h2⟩=>⟨h1,by rw[h2];exact Below.refl _ _⟩), ?_,fun h=>by cases h⟩
 intro F w xs b cap c eid fr cs rest hH hfr hc hr hsz hcap hpre
 have hr:=(repInts xs cs).1 hr
 subst hr
 have hb:b<w.heap.size:=(Array.getElem?_eq_some_iff.1 hH).1
 by_cases hx:xs=[]
 ·subst hx
  refine(hnone (some ⟨b,0,none⟩) cap w).mono ?_
  rintro e w' ⟨h1,rfl⟩
  refine⟨h1,[],(repInts _ _).2 (by simp),rfl,rfl,rfl,Nat.le_refl _, ?_,fun _ _ _=>rfl⟩
  rw[hH]
  have:c=([]++rest).toArray:=by apply Array.ext';simpa using hc
  rw[this]
 have hlen:List.length xs+rest.length=c.size:=by
  have:=congrArg List.length hc
  simp only[Array.length_toList,List.length_append,List.length_map] at this
  omega
 have hcell:∀j,j<List.length xs→c[j]? =some (.int k (xs.getD j 0)):=by
  intro j hj
  have h2:c.toList[j]? =some (.int k (xs.getD j 0)):=by
   rw[hc,List.getElem?_append_left (by simpa using hj)]
   simp[List.getD_eq_getElem?_getD,hj]
  simpa using h2
 have hHo:Holds (Value.int k) w b 0 (List.toArray xs):=by
  intro j hj
  have hj:j<List.length xs:=by simpa using hj
  refine⟨?_, ?_⟩
  ·rw[cell?_eq,cellAt,hH]
   simp only[Nat.zero_add]
   rw[hcell j hj]
   simp[List.getD_eq_getElem?_getD,hj]
  ·have:=hfr j (by omega)
   simp only[World.frozen?,hH,Nat.zero_add]
   simpa using this
 have hcm:CmpReads P g #[] (Value.int k) Lib.compareInt b 0 (List.toArray xs).size w:=fun _ _ _ _ x y=>hcl x y _
 have h:=Any.slices_SortFunc_total L (Value.int k) (fun _=>rfl) Lib.compareInt swoC g #[] b 0 cap (List.toArray xs) w eg hcm.lays hHo hb (by simpa using hpre) totC
 rw[leC,hf] at h
 rw[List.size_toArray] at h
 refine h.mono ?_
 rintro e w' ⟨h1,n,os,rfl⟩
 refine⟨h1,(List.mergeSort (xs:List Int) (fun x y=>decide (x≤y))).map (Value.int k),(repInts _ _).2 rfl,rfl,rfl,rfl, ?_, ?_, ?_⟩
 ·simp[sortWorld,grow,putRow,mapBlock,Sort.ahead]
 ·simp only[sortWorld,grow,putRow,mapBlock,Sort.ahead]
  rw[Array.getElem?_append_left (by simpa using hb),Array.getElem?_modify,if_pos rfl,hH]
  simp only[Option.map_some,onCells,Option.some.injEq,Obj.cells.injEq,and_true]
  apply Array.ext_getElem?
  intro j
  simp only[putCells,Array.getElem?_mapIdx,Nat.zero_le,true_and,Nat.zero_add,Nat.sub_zero,List.size_toArray,List.length_mergeSort,List.getElem?_toArray]
  by_cases hj:j<List.length xs
  ·rw[List.getElem?_append_left (by simpa using hj)]
   have:j<c.size:=by omega
   simp[hj,this]
  ·rw[List.getElem?_append_right (by simpa using Nat.le_of_not_lt hj)]
   simp only[hj,if_false]
   have h2:c[j]? =(xs.map (Value.int k)++rest)[j]? :=by rw[←hc];simp
   rw[Option.map_id',h2,List.getElem?_append_right (by simpa using Nat.le_of_not_lt hj)]
   simp
 ·intro i hi hne
  simp only[sortWorld,grow,putRow,mapBlock,Sort.ahead]
  rw[Array.getElem?_append_left (by simpa using hi),Array.getElem?_modify,if_neg (fun h=>hne h.symm)]
end Lc
namespace Lc
open Go Go.Proofs Go.Shelf Go.RowKit Go.Lib
end Lc
namespace Lc
open Go Go.Proofs Go.Shelf Go.RowKit Go.Lib
theorem repL_ones {F:FH}{u:Ty}:∀(xs:List u.den) (cs:List Value),RepL (Rep F u) xs cs→∀v,v∈cs→v.oneCell'=true
 |[],cs,h,v,hv=>by
  have h:cs=[]:=h
  subst h;cases hv
 |x::xs,cs,h,v,hv=>by
  obtain⟨c1,c2,rfl,h1,h2⟩:=h
  rcases List.mem_append.1 hv with hv|hv
  ·exact rep_one u x c1 h1 v hv
  ·exact repL_ones xs c2 h2 v hv
theorem cloneG {P:Program}{ρ:Ren}(L:SlLaysE0.n41 P ρ)(G:Nat→Option TV)(u:Ty)(hsz:0<u.size)(lim bts:Nat)(hlim:lim≤maxLen)(hbts:lim*bts≤140737488355328)(f:FuncId)(hf:ρ.f 41=f)(hty:TyOk P u (ρ.t 23))
 (hby:∀i,P.info? (ρ.t 23)=some i→i.bytes≤bts) (hfn:∃fn,P.funcs[f]? =some fn∧(fn.name== "runtime.NumGoroutine")=false∧fn.body.isSome=true):
 Sound P G f {params:=[.slc u],rets:=[.own u],pre:=fun x=>List.length x.1≤lim,fn:=fun x=>(x.1,())}:=by
 refine⟨hfn, ?_⟩
 intro F w xs vs hF hG hargs hpre
 obtain⟨v,r,rfl,hv,rfl⟩:=hargs
 have hpre:List.length xs.1≤lim:=hpre
 obtain⟨v',hv1,hv2⟩:∃v',[v]=[v']∧SlcV F (List.length xs.1) (RepL (Rep F u) xs.1) v':=by simpa[RepV,Rep,Ty.isAgg] using hv
 cases hv1
 have key:(v= .slice none 0 0∧xs.1=[])∨∃cs,RepL (Rep F u) xs.1 cs∧Calls P f #[v] w (fun e w'=>∃v',e= .returned v'∧w'.ownsRow w.heap.size (ρ.t 23) u.size v' (List.length xs.1) cs∧v'≠ .slice none 0 0∧Below w.heap.size w w'):=by
  obtain⟨i0,z,g1,g2,g3,g4,g5,g6⟩:=hty.info.out
  rcases hv2 with⟨⟨oo,rfl⟩,hn,_⟩|⟨b,off,cap,cs,rfl,hcap,hr,hat⟩
  ·have hx:xs.1=[]:=List.eq_nil_of_length_eq_zero hn
   cases oo with
   |none=>exact .inl ⟨rfl,hx⟩
   |some ad=>
    have h:=cloneE L i0 z u.size g1 g3 g2 (by rw[←Array.length_toList,g5,zeroCs_len]) hsz (fun w=>run_sizeOf' hty w) ad w
    rw[hf] at h
    refine .inr ⟨[],by rw[hx];rfl, ?_⟩
    rw[hx];exact h
  ·have hl:=repL_rep_len hr
   have h:=AnyE.slices_Clone L i0 z u.size i0.bytes g1 g3 g2 rfl (by rw[←Array.length_toList,g5,zeroCs_len]) hsz (fun w=>run_sizeOf' hty w) b off (List.length xs.1) cap cs w hl (Nat.le_trans hpre hlim)
    (Nat.le_trans (Nat.mul_le_mul hpre (hby i0 g1)) hbts) (fun j u hj=>by rw[cell?_eq];exact hF _ _ _ (hat j u hj)) (repL_ones _ _ hr)
   rw[hf] at h
   exact .inr ⟨cs,hr,h⟩
 rcases key with⟨rfl,hx⟩|⟨cs,hr,h⟩
 ·have h:=AnyE.slices_Clone_nil L 0 0 w
  rw[hf] at h
  refine h.mono ?_
  rintro e w' ⟨rfl,rfl⟩
  exact⟨.slice none 0 0,F,[.slice none 0 0],[],rfl,FH.le.rfl,fun _ _=>rfl,hF,⟨_,_,rfl,.inl ⟨rfl,hx,rfl,rfl⟩⟩,List.nodup_nil,.inl ⟨_,rfl,rfl⟩,Below.refl _ _⟩
 ·refine h.mono ?_
  rintro e w' ⟨v',rfl,⟨_,hown⟩,hne,hbelow⟩
  rcases hown with⟨rfl,_⟩|⟨g,cap',cur,rfl,hg,hH,hc1,hc2,hc3,hc4⟩
  ·exact absurd rfl hne
  have hFg:∀i,F g i=none:=by
   intro i
   cases hq:F g i with
   |none=>rfl
   |some y=>
    have:=cellAt_lt (hF g i y hq)
    omega
  refine⟨_,F,[.slice (some ⟨g,0,none⟩) (List.length xs.1) cap'],[g],rfl,FH.le.rfl,fun _ _=>rfl,fun b i v hb=> ?_,⟨_,_,rfl,.inr ⟨g,[],rfl,⟨(cap',0),cur,_,(0,0),[],cs,cur.toList.drop (List.length xs.1*u.size),rfl,hg,hH, ?_,⟨rfl, ?_⟩,hr,by simpa using hc3,hc1, ?_⟩,rfl,rfl⟩⟩,by simp,.inl ⟨_,rfl,rfl⟩,hbelow⟩
  ·have h1:=hF _ _ _ hb
   have hlt:=cellAt_lt h1
   simp only[cellAt] at h1⊢
   rw[hbelow.block _ hlt];exact h1
  ·intro i _ h;simp at h
  ·rw[List.nil_append]
   conv=>lhs;rw[←List.take_append_drop (List.length xs.1*u.size) cur.toList,hc4]
  ·exact .inl (fun i=>hFg _)
end Lc
namespace Lc
open Go
def addEntry :Array Value→Sem Value:=fun args=>do
 let (x,y,c)←Extern.MathBitsCarry.three "Add64" args
 pure (Extern.MathBitsCarry.pair ((x+y+c)%Extern.MathBitsCarry.m64) ((x+y+c)/Extern.MathBitsCarry.m64))
def subEntry :Array Value→Sem Value:=fun args=>do
 let (x,y,b)←Extern.MathBitsCarry.three "Sub64" args
 pure (Extern.MathBitsCarry.pair ((x+Extern.MathBitsCarry.m64-y-b)%Extern.MathBitsCarry.m64) (if x<y+b then 1 else 0))
theorem run_add {P:Program}(x y c:Nat)(hc:c≤1)(w:World):(addEntry #[.int .u64 x,.int .u64 y,.int .u64 c]).run P w=
 .ok (.tuple #[.int .u64 (((x+y+c)%18446744073709551616:Nat):Int),.int .u64 (((x+y+c)/18446744073709551616:Nat):Int)]) w:=by
 have:c=0∨c=1:=by omega
 rcases this with rfl|rfl<;>rfl
theorem run_sub {P:Program}(x y b:Nat)(hb:b≤1)(w:World):(subEntry #[.int .u64 x,.int .u64 y,.int .u64 b]).run P w=
 .ok (.tuple #[.int .u64 (((x+18446744073709551616-y-b)%18446744073709551616:Nat):Int),.int .u64 ((if x<y+b then 1 else 0:Nat):Int)]) w:=by
 have:b=0∨b=1:=by omega
 rcases this with rfl|rfl<;>rfl
theorem args3 {F:FH}{x:Tup [.int .u64,.int .u64,.int .u64]}{vs:List Value}(h:RepArgs F [.int .u64,.int .u64,.int .u64] x vs):vs=[.int .u64 x.1,.int .u64 x.2.1,.int .u64 x.2.2.1]:=by
 obtain⟨v,r,rfl,h1,v2,r2,rfl,h2,v3,r3,rfl,h3,rfl⟩:=h
 have e1:v= .int .u64 x.1:=by simpa[RepV,Rep,Ty.isAgg] using h1
 have e2:v2= .int .u64 x.2.1:=by simpa[RepV,Rep,Ty.isAgg] using h2
 have e3:v3= .int .u64 x.2.2.1:=by simpa[RepV,Rep,Ty.isAgg] using h3
 rw[e1,e2,e3]
theorem rep_u64 {F:FH}(x:Int):RepV F (.int .u64) x (.int .u64 x):=by simp[RepV,Rep,Ty.isAgg]
theorem add64E {P:Program}{f:FuncId}{fn:Func}(hf:P.funcs[f]? =some fn)(hname:(fn.name== "runtime.NumGoroutine")=false)(hb:fn.body.isNone=true)(hn:Extern.findNext fn=none)(he:Extern.find fn=some addEntry):
 SoundE P f {params:=[.int .u64,.int .u64,.int .u64],rets:=[.deep (.int .u64),.deep (.int .u64)],pre:=fun x=>Add64.pre x.1 x.2.1 x.2.2.1,fn:=fun x=>((Add64.fn x.1 x.2.1 x.2.2.1).1,((Add64.fn x.1 x.2.1 x.2.2.1).2,()))}:=by
 refine⟨fun F w xs vs ha hp=> ?_⟩
 obtain⟨h1,h2,h3,h4⟩:=hp
 have hv:=args3 ha
 subst hv
 obtain⟨x,hx,e1⟩:=W64.nat h1
 obtain⟨y,hy,e2⟩:=W64.nat h2
 obtain⟨c,e3⟩:=Int.eq_ofNat_of_zero_le h3
 have hr:=run_callFunc_extern hf hname hb hn he #[.int .u64 x,.int .u64 y,.int .u64 c] w
 rw[run_add x y c (by omega) w] at hr
 simp only[Add64.fn]
 rw[e1,e2,e3]
 refine⟨_,[.int .u64 _,.int .u64 _],hr,⟨_,_,rfl, ?_,_,_,rfl, ?_,rfl,rfl⟩,.inr ⟨by simp,rfl⟩⟩
 ·have:((x:Int)+(y:Int)+(c:Int))%18446744073709551616=(((x+y+c)%18446744073709551616:Nat):Int):=by omega
  rw[this];exact rep_u64 _
 ·have:((x:Int)+(y:Int)+(c:Int))/18446744073709551616=(((x+y+c)/18446744073709551616:Nat):Int):=by omega
  rw[this];exact rep_u64 _
theorem sub64E {P:Program}{f:FuncId}{fn:Func}(hf:P.funcs[f]? =some fn)(hname:(fn.name== "runtime.NumGoroutine")=false)(hb:fn.body.isNone=true)(hn:Extern.findNext fn=none)(he:Extern.find fn=some subEntry):
 SoundE P f {params:=[.int .u64,.int .u64,.int .u64],rets:=[.deep (.int .u64),.deep (.int .u64)],pre:=fun x=>Sub64.pre x.1 x.2.1 x.2.2.1,fn:=fun x=>((Sub64.fn x.1 x.2.1 x.2.2.1).1,((Sub64.fn x.1 x.2.1 x.2.2.1).2,()))}:=by
 refine⟨fun F w xs vs ha hp=> ?_⟩
 obtain⟨h1,h2,h3,h4⟩:=hp
 have hv:=args3 ha
 subst hv
 obtain⟨x,hx,e1⟩:=W64.nat h1
 obtain⟨y,hy,e2⟩:=W64.nat h2
 obtain⟨c,e3⟩:=Int.eq_ofNat_of_zero_le h3
 have hr:=run_callFunc_extern hf hname hb hn he #[.int .u64 x,.int .u64 y,.int .u64 c] w
 rw[run_sub x y c (by omega) w] at hr
 simp only[Sub64.fn]
 rw[e1,e2,e3]
 refine⟨_,[.int .u64 _,.int .u64 _],hr,⟨_,_,rfl, ?_,_,_,rfl, ?_,rfl,rfl⟩,.inr ⟨by simp,rfl⟩⟩
 ·have:((x:Int)-(y:Int)-(c:Int))%18446744073709551616=(((x+18446744073709551616-y-c)%18446744073709551616:Nat):Int):=by omega
  rw[this];exact rep_u64 _
 ·have:(if(x:Int)<(y:Int)+(c:Int) then(1:Int) else 0)=((if x<y+c then 1 else 0:Nat):Int):=by
   by_cases h:x<y+c
   ·rw[if_pos (by omega),if_pos h];rfl
   ·rw[if_neg (by omega),if_neg h];rfl
  rw[this];exact rep_u64 _
end Lc
