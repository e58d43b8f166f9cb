/- The engine, part A: types, data, abstract values, abstract states, and the abstract step. -/
import Derived.Calls
import Derived.Orders
import Derived.Below
import Derived.KernelRfl
set_option linter.unusedVariables false
set_option linter.unusedSimpArgs false
namespace Lc
open Go
inductive Ty where
 |int (k:IntKind)|bool|str|unit
 |pair (a b:Ty)
 |arr (n:Nat) (t:Ty)
 |slc (t:Ty)
 |map (k v:Ty)
 |fn (f:Nat) (c:Ty)
 |ref (t:Ty)
 deriving DecidableEq,Inhabited
@[reducible] def Ty.den : Ty → Type
  | .int _=>Int
  | .bool=>Bool
  | .str=>ByteArray
  | .unit=>Unit
  | .pair a b=>a.den×b.den
  | .arr _ t=>List t.den
  | .slc t=>List t.den
  | .map k v=>List (k.den×v.den)
  | .fn _ c=>c.den
  | .ref c=>c.den
def Ty.size :Ty→Nat
 | .int _| .bool| .str| .slc _| .map _ _| .fn _ _| .ref _=>1
 | .unit=>0
 | .pair a b=>a.size+b.size
 | .arr n t=>n*t.size
def Ty.isAgg :Ty→Bool
 | .unit| .pair _ _| .arr _ _=>true
 |_=>false
def isMapT :Ty→Bool
 | .map _ _=>true
 |_=>false
def Ty.flat :Ty→Bool
 | .pair a b=>a.flat&&b.flat
 | .arr _ t=>t.flat
 | .slc _| .map _ _| .fn _ _| .ref _=>false
 |_=>true
def Ty.dep :Ty→Nat
 | .pair a b=>max a.dep b.dep+1
 | .arr _ t=>t.dep+1
 | .slc t=>t.dep+1
 |_=>0
def Ty.dflt :(t:Ty)→t.den
 | .int _=>(0:Int)
 | .bool=>false
 | .str=>ByteArray.empty
 | .unit=>()
 | .pair a b=>(a.dflt,b.dflt)
 | .arr n t=>List.replicate n t.dflt
 | .slc _=>[]
 | .map _ _=>[]
 | .fn _ c=>c.dflt
 | .ref c=>c.dflt
def listBeq {α:Type}(f:α→α→Bool):List α→List α→Bool
 |[],[]=>true
 |x::xs,y::ys=>f x y&&listBeq f xs ys
 |_,_=>false
def Ty.beq :(t:Ty)→t.den→t.den→Bool
 | .int _=>fun(x y:Int)=>x==y
 | .bool=>fun(x y:Bool)=>x==y
 | .str=>fun(x y:ByteArray)=>x.toList==y.toList
 | .unit=>fun _ _=>true
 | .pair a b=>fun x y=>a.beq x.1 y.1&&b.beq x.2 y.2
 | .arr _ t=>listBeq t.beq
 | .slc t=>listBeq t.beq
 | .map k v=>listBeq (fun p q=>k.beq p.1 q.1&&v.beq p.2 q.2)
 | .fn _ c=>c.beq
 | .ref c=>c.beq
structure TV where
 t:Ty
 x:t.den
def castT {t u:Ty}(h:t=u)(x:t.den):u.den:=h▸x
def TV.as (v:TV)(t:Ty):Option t.den:=if h:v.t=t then some (castT h v.x) else none
inductive Stp where
 |fld (i:Nat)|idx (i:Nat)
inductive AV where
 |val (t:Ty) (x:t.den)
 |vlk (t:Ty) (x:t.den) (l:List (List Stp×Nat))
 |cptr (t:Ty) (x:t.den)
 |ptr (key:Nat) (root:Ty) (path:List Stp)
 |whole (key:Nat) (root:Ty) (path:List Stp)
 |sub (key:Nat) (root:Ty) (path:List Stp) (off len:Nat)
 |nil
 |cut (t:Ty) (xs:List t.den)
 |raw (v:Value)
 |fn (f:FuncId)
 |mref (key:Nat)
 |opt (p:Prop) (v:AV)
 |tnil
 |tcons (a b:AV)
def AV.keys :AV→List Nat
 | .ptr k _ _| .whole k _ _| .sub k _ _ _ _| .mref k=>[k]
 | .vlk _ _ l=>l.map (·.2)
 | .opt _ v=>v.keys
 | .tcons a b=>a.keys++b.keys
 |_=>[]
def AV.key :AV→Option Nat
 | .ptr k _ _| .whole k _ _| .sub k _ _ _ _| .mref k=>some k
 | .opt _ v=>v.key
 |_=>none
def AV.isTup :AV→Bool
 | .tnil| .tcons _ _=>true
 |_=>false
structure Blk where
 row:Bool
 t:Ty
 x:t.den
 fz:Bool
 lk:List (List Stp×Nat)
def Blk.isOpen (b:Blk):Bool:= !b.row&&(b.fz&& !b.lk.isEmpty)
def mask :Option Blk→Option Blk
 |some b=>if b.isOpen then none else some b
 |none=>none
def look {α:Type}(n:Nat):List (Nat×α)→Option α
 |[]=>none
 |(m,v)::l=>if n.beq m then some v else look n l
structure St where
 tm:List (Nat×AV)
 hp:List (Nat×Option Blk)
def Ty.nav :Ty→List Stp→Option (Ty×Nat)
 |t,[]=>some (t,0)
 | .pair a _,.fld 0::p=>a.nav p
 | .pair a b,.fld (i+1)::p=>match b.nav (.fld i::p) with|some (u,o)=>some (u,a.size+o)|none=>none
 | .arr _ u,.idx i::p=>match u.nav p with|some (v,o)=>some (v,i*u.size+o)|none=>none
 |_,_=>none
def getP :(t:Ty)→t.den→List Stp→Option TV
 |t,x,[]=>some ⟨t,x⟩
 | .pair a _,x,.fld 0::p=>getP a x.1 p
 | .pair _ b,x,.fld (i+1)::p=>getP b x.2 (.fld i::p)
 | .arr _ u,xs,.idx i::p=>getP u (xs.getD i u.dflt) p
 |_,_,_=>none
def setP :(t:Ty)→t.den→List Stp→TV→Option t.den
 |t,_,[],v=>v.as t
 | .pair a _,x,.fld 0::p,v=>match setP a x.1 p v with|some y=>some (y,x.2)|none=>none
 | .pair _ b,x,.fld (i+1)::p,v=>match setP b x.2 (.fld i::p) v with|some y=>some (x.1,y)|none=>none
 | .arr _ u,xs,.idx i::p,v=>match setP u (xs.getD i u.dflt) p v with|some y=>some (xs.set i y)|none=>none
 |_,_,_,_=>none
def decode :(t:Ty)→List Value→Option (t.den×List Value)
 | .int k,.int k' n::r=>if k=k' then some (n,r) else none
 | .bool,.bool b::r=>some (b,r)
 | .str,.string s::r=>some (s,r)
 | .unit,r=>some ((),r)
 | .pair a b,r=>match decode a r with
   |some (x,r)=>match decode b r with
    |some (y,r)=>some ((x,y),r)
    |none=>none
   |none=>none
 | .arr n t,r=>go (decode t) n r
 | .slc _,.slice none 0 0::r=>some ([],r)
 | .map _ _,.map none::r=>some ([],r)
 |_,_=>none
 where
 go {α:Type} (f:List Value→Option (α×List Value)):Nat→List Value→Option (List α×List Value)
  |0,r=>some ([],r)
  |n+1,r=>match f r with
   |some (x,r)=>match go f n r with
    |some (xs,r)=>some (x::xs,r)
    |none=>none
   |none=>none
end Lc
namespace Lc
open Go
@[reducible] def Tup : List Ty → Type
  |[]=>Unit
  |t::ts=>t.den×Tup ts
inductive RK where
 |deep (t:Ty)|own (t:Ty)|ownw (t:Ty)|vlk (t:Ty) (ps:List (List Stp×Ty×Nat))
@[reducible] def RK.ty : RK → Ty
  | .deep t=>t
  | .own t=> .slc t
  | .ownw t=> .slc t
  | .vlk t _=>t
def RK.flatOk :RK→Bool
 | .deep t=>t.flat
 | .own t=>t.flat
 | .ownw t=>t.flat
 | .vlk _ _=>false
@[reducible] def RTup : List RK → Type
  |[]=>Unit
  |r::rs=>r.ty.den×RTup rs
structure Con where
 params:List Ty
 rets:List RK
 pre:Tup params→Prop
 fn:Tup params→RTup rets
structure Mut where
 t:Ty
 rest:List FuncId
 pre:List t.den→Prop
 fn:List t.den→List t.den
 part:Bool
structure ConP where
 t:Ty
 ps:List (List Stp×Ty×Nat)
 params:List Ty
 rets:List RK
 pre:t.den→Tup params→Prop
 fn:t.den→Tup params→t.den×RTup rets
structure ConV where
 t:Ty
 ps:List (List Stp×Ty×Nat)
 params:List Ty
 pre:t.den→Tup params→Prop
 fn:t.den→Tup params→t.den
structure Env where
 P:Program
 ty:TypeId→Option Ty
 bytes:TypeId→Nat
 glob:Nat→Option TV
 con:FuncId→Option Con
 wr:List Nat
 ntm:Nat
 lock:List Nat
 turn:FuncId→Option Mut:=fun _=>none
 lkd:List (Nat×List (List Stp×Nat)):=[]
 icy:List Nat:=[]
 ptr:FuncId→Option ConP:=fun _=>none
 tails:List Nat:=[]
 lkl:List Nat:=[]
 grow:FuncId→Option Ty:=fun _=>none
 vals:List Nat:=[]
 nilk:List Nat:=[]
 byv:FuncId→Option ConV:=fun _=>none
def iand (k:IntKind)(a b:Int):Int:=k.wrap (BitVec.ofInt k.bits a&&&BitVec.ofInt k.bits b).toNat
def ior (k:IntKind)(a b:Int):Int:=k.wrap (BitVec.ofInt k.bits a|||BitVec.ofInt k.bits b).toNat
def ixor (k:IntKind)(a b:Int):Int:=k.wrap (BitVec.ofInt k.bits a^^^BitVec.ofInt k.bits b).toNat
def iandNot (k:IntKind)(a b:Int):Int:=k.wrap (BitVec.ofInt k.bits a&&& ~~~BitVec.ofInt k.bits b).toNat
def ishl (k:IntKind)(a b:Int):Int:=k.wrap (a*2^(min b.toNat k.bits))
def ishr (k:IntKind)(a b:Int):Int:=a.fdiv (2^(min b.toNat k.bits))
def inot (k:IntKind)(a:Int):Int:=ixor k (if k.signed then-1 else k.max) a
def Room (n bytes:Nat):Prop:=n≤2^46∧n*bytes≤2^46
structure Res where
 cs:List Prop
 v:AV
 new:List (Nat×Blk)
 set:List (Nat×Blk)
 kill:List Nat
def Res.pure (v:AV):Option Res:=some ⟨[],v,[],[],[]⟩
def Res.cond (cs:List Prop)(v:AV):Option Res:=some ⟨cs,v,[],[],[]⟩
def isAggV :Value→Bool
 | .agg _=>true
 |_=>false
def rawV (t:Ty)(v:Value):Option t.den:=
 if t.isAgg==isAggV v then(match decode t v.cells.toList with|some (x,[])=>some x|_=>none) else none
def deepV (need:Bool):(t:Ty)→AV→Option Blk→Option (t.den×List Prop)
 |t,.val u x,_=>match(TV.mk u x).as t with|some y=>some (y,[])|none=>none
 |t,.vlk u x _,_=>match(TV.mk u x).as t with|some y=>some (y,[])|none=>none
 |t,.raw v,_=>match rawV t v with|some x=>some (x,[])|none=>none
 | .ref u,.cptr w x,_=>match(TV.mk w x).as u with|some y=>some (y,[])|none=>none
 | .ref u,.ptr _ _ path,some b=>
   if(need&& !b.fz)||(b.row&&path.isEmpty) then none else
   match getP b.t b.x path with
   |some ⟨w,x⟩=>match(TV.mk w x).as u with|some y=>some (y,[])|none=>none
   |none=>none
 | .slc _,.nil,_=>some ([],[])
 | .slc u,.cut w xs,_=>match(TV.mk (.slc w) xs).as (.slc u) with|some y=>some (y,[])|none=>none
 | .slc u,.whole _ _ path,some b=>
   if need&& !b.fz then none else
   match getP b.t b.x path with
   |some ⟨.arr _ w,xs⟩=>match(TV.mk (.slc w) xs).as (.slc u) with|some y=>some (y,[])|none=>none
   |_=>none
 | .slc u,.sub _ _ path off len,some b=>
   if need&& !b.fz then none else
   match getP b.t b.x path with
   |some ⟨.arr _ w,xs⟩=>match(TV.mk (.slc w) ((xs.drop off).take len)).as (.slc u) with|some y=>some (y,[off+len≤xs.length])|none=>none
   |_=>none
 |_,_,_=>none
def evalEq (t:Ty)(op:BinOp)(x y:AV):Option Res:=
 match deepV false t x none,deepV false t y none with
 |some (a,[]),some (b,[])=>
  match op with
  | .eql=>Res.pure (.val .bool (t.beq a b))
  | .neq=>Res.pure (.val .bool !(t.beq a b))
  |_=>none
 |_,_=>none
def evalBin (E:Env)(op:BinOp)(xt:TypeId)(x y:AV):Option Res:=
 match x,y with
 | .val (.int k) a,.val (.int k') b=>
   match op with
   | .shl=>Res.cond [0≤(b:Int)] (.val (.int k) (ishl k a b))
   | .shr=>Res.cond [0≤(b:Int)] (.val (.int k) (ishr k a b))
   |_=>
    if k≠k' then none else
    match op with
    | .add=>Res.pure (.val (.int k) (k.wrap ((a:Int)+(b:Int))))
    | .sub=>Res.pure (.val (.int k) (k.wrap ((a:Int)-(b:Int))))
    | .mul=>Res.pure (.val (.int k) (k.wrap ((a:Int)*(b:Int))))
    | .quo=>Res.cond [(b:Int)≠0] (.val (.int k) (k.wrap ((a:Int).tdiv b)))
    | .rem=>Res.cond [(b:Int)≠0] (.val (.int k) ((a:Int).tmod b))
    | .and=>Res.pure (.val (.int k) (iand k a b))
    | .or=>Res.pure (.val (.int k) (ior k a b))
    | .xor=>Res.pure (.val (.int k) (ixor k a b))
    | .andNot=>Res.pure (.val (.int k) (iandNot k a b))
    | .eql=>Res.pure (.val .bool ((a:Int)==(b:Int)))
    | .neq=>Res.pure (.val .bool ((a:Int) !=(b:Int)))
    | .lss=>Res.pure (.val .bool (decide ((a:Int)<(b:Int))))
    | .leq=>Res.pure (.val .bool (decide ((a:Int)≤(b:Int))))
    | .gtr=>Res.pure (.val .bool (decide ((a:Int)>(b:Int))))
    | .geq=>Res.pure (.val .bool (decide ((a:Int)≥(b:Int))))
    |_=>none
 | .val .str a,.val .str b=>
   match op with
   | .eql=>Res.pure (.val .bool (ByteArray.toList a==ByteArray.toList b))
   | .neq=>Res.pure (.val .bool !(ByteArray.toList a==ByteArray.toList b))
   |_=>none
 |_,_=>
  match E.ty xt with
  |some t=>
   if !t.flat||decide (5000<t.dep) then none else
   match t with
   | .int _| .str=>none
   |t=>evalEq t op x y
  |none=>none
def fillParts (mk:Nat→List Stp)(t:Ty):t.den→List (Nat×AV×Option Blk)→(sub:Nat→Option Ty)→Option (t.den×List Prop)
 |x,[],_=>some (x,[])
 |x,(i,a,b)::r,sub=>
  match sub i with
  |none=>none
  |some u=>
   match deepV true u a b with
   |none=>none
   |some (y,cs)=>
    match setP t x (mk i) ⟨u,y⟩ with
    |none=>none
    |some x'=>match fillParts mk t x' r sub with
     |some (z,cs')=>some (z,cs++cs')
     |none=>none
def rowOf (t:Ty)(x:t.den)(p:List Stp)(u:Ty):List u.den:=
 match getP t x p with
 |some tv=>(match tv.as (.slc u) with|some y=>y|none=>[])
 |none=>[]
def linkB (t:Ty)(x:t.den)(q:List Stp×Ty×Nat):Nat×Blk:=(q.2.2,⟨true,.arr 0 q.2.1,rowOf t x q.1 q.2.1,true,[]⟩)
def vkey (d i:Nat)(q:List Stp×Ty×Nat):Nat:=200000+20000*i+q.2.2+d
def mkRets (fz:Nat→Bool)(dst:Nat):Nat→(rs:List RK)→RTup rs→AV×List (Nat×Blk)
 |_,[],_=>(.tnil,[])
 |i,.deep t::rs,x=>(.tcons (.val t x.1) (mkRets fz dst (i+1) rs x.2).1,(mkRets fz dst (i+1) rs x.2).2)
 |i,.own t::rs,x=>(.tcons (.whole (dst+1000*i) (.arr 0 t) []) (mkRets fz dst (i+1) rs x.2).1,
    (dst+1000*i,⟨true,.arr 0 t,x.1,true,[]⟩)::(mkRets fz dst (i+1) rs x.2).2)
 |i,.ownw t::rs,x=>(.tcons (.whole (dst+1000*i) (.arr 0 t) []) (mkRets fz dst (i+1) rs x.2).1,
    (dst+1000*i,⟨true,.arr 0 t,x.1,fz (dst+1000*i),[]⟩)::(mkRets fz dst (i+1) rs x.2).2)
 |i,.vlk t ps::rs,x=>(.tcons (.vlk t x.1 (ps.map (fun q=>(q.1,vkey dst i q)))) (mkRets fz dst (i+1) rs x.2).1,
    ps.map (fun q=>(vkey dst i q,(linkB t x.1 q).2))++(mkRets fz dst (i+1) rs x.2).2)
def mkArgs (need:Bool):(ts:List Ty)→List (AV×Option Blk)→Option (Tup ts×List Prop)
 |[],[]=>some ((),[])
 |t::ts,(a,b)::r=>
  match deepV need t a b with
  |some (x,cs)=>match mkArgs need ts r with
   |some (y,cs')=>some ((x,y),cs++cs')
   |none=>none
  |none=>none
 |_,_=>none
def oneAV (rs:List RK)(v:AV):AV:=
 match rs,v with
 |[_],.tcons a .tnil=>a
 |_,v=>v
def Env.fz (E:Env)(dst:Nat):Bool:= !(E.wr.contains dst)
def fnsB :List FuncId→List (AV×Option Blk)→Bool
 |[],[]=>true
 |f::fs,(.fn g,_)::r=>Nat.beq f g&&fnsB fs r
 |_,_=>false
def evalMut (m:Mut)(args:List (AV×Option Blk)):Option Res:=
 match args with
 |(.whole k _ [],some b)::r=>
  if b.fz|| !b.row|| !(fnsB m.rest r) then none else
  match getP b.t b.x [] with
  |some ⟨.arr n w,xs⟩=>match(TV.mk (.slc w) xs).as (.slc m.t) with
   |some xs=>match setP b.t b.x [] ⟨.arr n m.t,m.fn xs⟩ with
    |some z=>some ⟨[m.pre xs],.tnil,[],[(k,⟨b.row,b.t,z,false,[]⟩)],[]⟩
    |none=>none
   |none=>none
  |_=>none
 |(.sub k _ [] off len,some b)::r=>
  if b.fz|| !b.row|| !m.part|| !(fnsB m.rest r) then none else
  match getP b.t b.x [] with
  |some ⟨.arr n w,xs⟩=>match(TV.mk (.slc w) xs).as (.slc m.t) with
   |some xs=>match setP b.t b.x [] ⟨.arr n m.t,xs.take off++(m.fn ((xs.drop off).take len)++xs.drop (off+len))⟩ with
    |some z=>some ⟨[off+len≤xs.length,m.pre ((xs.drop off).take len)],.tnil,[],[(k,⟨b.row,b.t,z,false,[]⟩)],[]⟩
    |none=>none
   |none=>none
  |_=>none
 |_=>none
def evalGrow (E:Env)(u:Ty)(dst:Option Nat)(args:List (AV×Option Blk)):Option Res:=
 match args with
 |[(.nil,_),(.val (.int .i64) n,_)]=>some ⟨[0≤(n:Int)∧(n:Int)≤1000000],oneAV [.own u] (mkRets E.fz (dst.getD 999999) 0 [.own u] (([]:List u.den),())).1,(mkRets E.fz (dst.getD 999999) 0 [.own u] (([]:List u.den),())).2,[],[]⟩
 |_=>none
def evalCall (E:Env)(f:FuncId)(dst:Option Nat)(args:List (AV×Option Blk)):Option Res:=
 match E.con f with
 |none=>match E.turn f with
  |some m=>evalMut m args
  |none=>match E.grow f with
   |some u=>evalGrow E u dst args
   |none=>none
 |some c=>
  match mkArgs (!(c.rets.all RK.flatOk)) c.params args with
  |none=>none
  |some (xs,cs)=>some ⟨cs++[c.pre xs],oneAV c.rets (mkRets E.fz (dst.getD 999999) 0 c.rets (c.fn xs)).1,(mkRets E.fz (dst.getD 999999) 0 c.rets (c.fn xs)).2,[],[]⟩
def srcV (E:Env)(u:Ty)(xt:TypeId)(a:AV)(b:Option Blk):Option (List u.den×List Prop):=
 match E.ty xt with
 |some (.int _)=>match a with
  | .val (.int _) n=>some (List.replicate (Int.toNat n) u.dflt,[0≤(n:Int)])
  |_=>none
 |some .str=>match a with
  | .val .str s=>if h:(Ty.int .u8)=u then some (castT (congrArg Ty.slc h) (((ByteArray.toList s).map fun(c:UInt8)=>((c.toNat:Nat):Int)):List Int),[]) else none
  |_=>none
 |some (.slc _)=>if u.flat then deepV false (.slc u) a b else deepV true (.slc u) a b
 |_=>none
def evalAppend (E:Env)(dst:Nat)(st xt:TypeId)(s x:AV×Option Blk):Option Res:=
 match E.ty st with
 |some (.slc u)=>
  match srcV E u xt x.1 x.2 with
  |none=>none
  |some (ys,cs)=>
   match s.1,s.2 with
   | .nil,_=>some ⟨cs++[Room ys.length (E.bytes st)],.whole dst (.arr 0 u) [],[(dst,⟨true,.arr 0 u,ys,E.fz dst,[]⟩)],[],[]⟩
   | .whole k _ [],some ⟨true,.arr _ w,xs,fz,_⟩=>
     match(TV.mk (.slc w) xs).as (.slc u) with
     |some xs=>
      some ⟨cs++[Room (xs.length+ys.length) (E.bytes st)],.whole dst (.arr 0 u) [],
       [(dst,⟨true,.arr 0 u,xs++ys,fz||E.fz dst,[]⟩)],[],[k]⟩
     |none=>none
   | .cut w xs,_=>
     match(TV.mk (.slc w) xs).as (.slc u) with
     |some xs=>if E.vals.contains dst then some ⟨cs++[Room (xs.length+ys.length) (E.bytes st)],.val (.slc u) (xs++ys),[(dst,⟨true,.arr 0 u,xs++ys,true,[]⟩)],[],[]⟩ else
      some ⟨cs++[0<ys.length,Room (xs.length+ys.length) (E.bytes st)],.whole dst (.arr 0 u) [],[(dst,⟨true,.arr 0 u,xs++ys,E.fz dst,[]⟩)],[],[]⟩
     |none=>none
   |_,_=>none
 |_=>none
def evalLen (n:Option Ty)(a:AV)(b:Option Blk):Option Res:=
 match n with
 |some (.arr n _)=>Res.pure (.val (.int .i64) (n:Int))
 |some .str=>match a with
  | .val .str s=>Res.pure (.val (.int .i64) ((ByteArray.size s:Nat):Int))
  |_=>none
 |some (.slc u)=>match a,b with
  | .sub _ _ _ _ len,some _=>Res.pure (.val (.int .i64) (len:Int))
  |a,b=>match deepV false (.slc u) a b with
   |some (xs,cs)=>Res.cond cs (.val (.int .i64) ((List.length xs:Nat):Int))
   |none=>none
 |_=>none
def evalCopy (E:Env)(dt:TypeId)(xt:TypeId)(d x:AV×Option Blk):Option Res:=
 match E.ty dt with
 |some (.slc u)=>
  match(match E.ty xt with|some (.int _)=>none|_=>srcV E u xt x.1 x.2) with
  |none=>none
  |some (ys,cs)=>
   match d.1,d.2 with
   | .whole k _ path,some b=>
     if b.fz then none else
     match getP b.t b.x path with
     |some ⟨.arr n w,xs⟩=>
      match(TV.mk (.slc w) xs).as (.slc u) with
      |some xs'=>
       match setP b.t b.x path ⟨.arr n u,ys.take xs'.length++xs'.drop ys.length⟩ with
       |some z=>some ⟨cs,.val (.int .i64) ((min ys.length xs'.length:Nat):Int),[],[(k,⟨b.row,b.t,z,false,[]⟩)],[]⟩
       |none=>none
      |none=>none
     |_=>none
   | .sub k _ path off len,some b=>
     if b.fz then none else
     match getP b.t b.x path with
     |some ⟨.arr n w,xs⟩=>
      match(TV.mk (.slc w) xs).as (.slc u) with
      |some xs'=>
       match setP b.t b.x path ⟨.arr n u,xs'.take off++(ys.take len++xs'.drop (off+min ys.length len))⟩ with
       |some z=>some ⟨cs++[off+len≤xs'.length],.val (.int .i64) ((min ys.length len:Nat):Int),[],[(k,⟨b.row,b.t,z,false,[]⟩)],[]⟩
       |none=>none
      |none=>none
     |_=>none
   |_,_=>none
 |_=>none
def AV.num :AV→Option Int
 | .val (.int _) n=>some n
 |_=>none
def evalIndexAddr (E:Env)(t:TypeId)(x:AV×Option Blk)(i:Int):Option Res:=
 match E.ty t,x.1,x.2 with
 |some (.arr n u),.ptr k root path,some b=>
  if(root.nav path).map (·.1)=some (.arr n u)∧(b.row&&path.isEmpty)=false then Res.cond [0≤i∧i<(n:Int)] (.ptr k root (path++[.idx i.toNat])) else none
 |some (.arr n u),.cptr w xs,_=>match(TV.mk w xs).as (.arr n u) with
  |some (xs:List u.den)=>Res.cond [0≤i∧i<(n:Int)] (.cptr u (xs.getD i.toNat u.dflt))
  |none=>none
 |some (.slc u),.val w xs,_=>match(TV.mk w xs).as (.slc u) with
  |some (xs:List u.den)=>Res.cond [0≤i∧i<((xs.length:Nat):Int)] (.cptr u (xs.getD i.toNat u.dflt))
  |none=>none
 |some (.slc u),.cut w xs,_=>match(TV.mk (.slc w) xs).as (.slc u) with
  |some (xs:List u.den)=>Res.cond [0≤i∧i<((xs.length:Nat):Int)] (.cptr u (xs.getD i.toNat u.dflt))
  |none=>none
 |some (.slc u),.whole k root path,some b=>match getP b.t b.x path with
  |some ⟨.arr _ w,xs⟩=>if w=u then Res.cond [0≤i∧i<((List.length xs:Nat):Int)] (.ptr k root (path++[.idx i.toNat])) else none
  |_=>none
 |some (.slc u),.sub k root path off len,some b=>match getP b.t b.x path with
  |some ⟨.arr _ w,xs⟩=>if w=u then Res.cond [0≤i∧i<(len:Int),off+len≤List.length xs] (.ptr k root (path++[.idx (off+i.toNat)])) else none
  |_=>none
 |_,_,_=>none
def AV.numOr (d:Int):Option AV→Option Int
 |none=>some d
 |some a=>a.num
def evalSlice (E:Env)(t:TypeId)(x:AV×Option Blk)(lo hi mx:Option AV):Option Res:=
 match E.ty t,x.1,x.2,mx with
 |some (.arr n u),.ptr k root path,some b,none=>
  if(root.nav path).map (·.1)≠some (.arr n u)∨(b.row&&path.isEmpty)=true then none else
  match lo,hi with
  |none,none=>Res.pure (.whole k root path)
  |_,_=>match AV.numOr 0 lo,AV.numOr n hi with
   |some l,some h=>Res.cond [0≤l∧l≤h∧h≤(n:Int)] (.sub k root path l.toNat (h.toNat-l.toNat))
   |_,_=>none
 |some (.arr n u),.cptr w xs,_,none=>
  match(TV.mk w xs).as (.arr n u) with
  |some (xs:List u.den)=>match lo,hi with
   |none,none=>Res.pure (.val (.slc u) xs)
   |_,_=>match AV.numOr 0 lo,AV.numOr n hi with
    |some l,some h=>Res.cond [0≤l∧l≤h∧h≤(n:Int)] (.val (.slc u) ((xs.drop l.toNat).take (h.toNat-l.toNat)))
    |_,_=>none
  |none=>none
 |some (.slc u),.val w xs,_,none=>
  match(TV.mk w xs).as (.slc u) with
  |some (xs:List u.den)=>match AV.numOr 0 lo,AV.numOr (xs.length:Nat) hi with
    |some l,some h=>Res.cond [0≤l∧l≤h∧h≤((xs.length:Nat):Int)] (.val (.slc u) ((xs.drop l.toNat).take (h.toNat-l.toNat)))
    |_,_=>none
  |none=>none
 |some (.slc u),.val w xs,_,some m=>
  match(TV.mk w xs).as (.slc u) with
  |some (xs:List u.den)=>match AV.numOr 0 lo,hi,m.num with
    |some l,some hv,some m=>match hv.num with
     |some h=>Res.cond [0≤l∧l≤h∧h=m∧m≤((xs.length:Nat):Int)] (.cut u ((xs.drop l.toNat).take (h.toNat-l.toNat)))
     |none=>none
    |_,_,_=>none
  |none=>none
 |some (.slc u),.whole k root path,some b,none=>
  match getP b.t b.x path with
  |some ⟨.arr _ w,xs⟩=>if w≠u then none else match AV.numOr 0 lo,AV.numOr (List.length xs:Nat) hi with
   |some l,some h=>Res.cond [0≤l∧l≤h∧h≤((List.length xs:Nat):Int)] (.sub k root path l.toNat (h.toNat-l.toNat))
   |_,_=>none
  |_=>none
 |some (.slc u),.sub k root path off len,some b,none=>
  match getP b.t b.x path with
  |some ⟨.arr _ w,_⟩=>if w≠u then none else match AV.numOr 0 lo,AV.numOr (len:Nat) hi with
   |some l,some h=>Res.cond [0≤l∧l≤h∧h≤(len:Int)] (.sub k root path (off+l.toNat) (h.toNat-l.toNat))
   |_,_=>none
  |_=>none
 |_,_,_,_=>none
def samePath :List Stp→List Stp→Bool
 |[],[]=>true
 | .fld i::p,.fld j::q=>i==j&&samePath p q
 |_,_=>false
def lkAt (path:List Stp):List (List Stp×Nat)→Option Nat
 |[]=>none
 |(p,k)::r=>if samePath p path then some k else lkAt path r
def isSlc :Ty→Option Ty
 | .slc w=>some w
 |_=>none
def loadAV (u:Ty)(x:u.den)(k:Option Nat):AV:=
 match k,isSlc u with
 |some kk,some w=> .whole kk (.arr 0 w) []
 |_,_=> .val u x
def evalLoad (t:Option Ty)(a:AV)(b:Option Blk):Option Res:=
 match t,a,b with
 |some t,.cptr u x,_=>if u=t then Res.pure (.val u x) else none
 |some t,.ptr _ _ path,some b=>
  if b.row&&path.isEmpty then none else
  match getP b.t b.x path with
  |some ⟨u,x⟩=>if u=t then Res.pure (loadAV u x (lkAt path b.lk)) else none
  |none=>none
 |_,_,_=>none
def fldOnly :List Stp→Bool
 |[]=>true
 | .fld _::p=>fldOnly p
 |_=>false
def clash :List Stp→List Stp→Bool
 | .fld i::p,.fld j::q=>if i==j then clash p q else false
 |_,_=>true
def lkSet (path:List Stp)(v:AV×Option Blk)(lk:List (List Stp×Nat)):List (List Stp×Nat):=
 (match v.1,v.2 with
  | .whole k (.arr 0 _) [],some b=>if b.row&&b.fz&&fldOnly path then[(path,k)] else[]
  | .vlk _ _ l,_=>if fldOnly path then l.map (fun q=>(path++q.1,q.2)) else[]
  |_,_=>[])++lk.filter (fun q=> !(clash q.1 path))
def nilNew (t:Ty):List (List Stp×Nat)→Option (List (Nat×Blk))
 |[]=>some []
 |(p,k)::r=>match t.nav p,nilNew t r with
  |some (.slc u,_),some l=>if fldOnly p then some ((k,⟨true,.arr 0 u,[],true,[]⟩)::l) else none
  |_,_=>none
def headFree :List Stp→List Nat→Bool
 | .fld i::_,is=> !(is.contains i)
 |_,_=>false
def partLink (p:Nat×AV×Option Blk):List (List Stp×Nat):=
 match p.2.1,p.2.2 with
 | .whole k (.arr 0 _) [],some b=>if b.row&&b.fz then[([.fld p.1],k)] else[]
 | .vlk _ _ l,_=>l.map (fun q=>(.fld p.1::q.1,q.2))
 |_,_=>[]
def nodupB' :List Nat→Bool
 |[]=>true
 |a::l=> !(l.contains a)&&nodupB' l
def buildRes (E:Env)(dst:Option Nat)(t:Ty)(x:t.den)(cs:List Prop)(ps:List (Nat×AV×Option Blk)):Option Res:=
 match dst.bind (fun d=>look d E.lkd) with
 |none=>Res.cond cs (.val t x)
 |some nl=>match nilNew t nl with
  |some new=>if nodupB' (ps.map (·.1))&&nl.all (fun q=>headFree q.1 (ps.map (·.1))) then some ⟨cs,.vlk t x (ps.flatMap partLink++nl),new,[],[]⟩ else none
  |none=>none
def evalStore (t:Option Ty)(a:AV)(b:Option Blk)(v:AV×Option Blk):Option Res:=
 match t,a,b with
 |some t,.ptr k _ path,some b=>
  if b.fz||(b.row&&path.isEmpty) then none else
  match deepV true t v.1 v.2 with
  |some (y,cs)=>match setP b.t b.x path ⟨t,y⟩ with
   |some z=>some ⟨cs,.tnil,[],[(k,⟨b.row,b.t,z,false,if b.row then[] else lkSet path v b.lk⟩)],[]⟩
   |none=>none
  |none=>none
 |_,_,_=>none
def nkey :Operand→Nat
 | .tmp n=>300000+n
 |_=>300000
def nilAt (E:Env)(x:Operand)(v:AV):Bool:=
 match x,v with
 | .tmp n,.nil=>E.nilk.contains n
 |_,_=>false
def emptyB (u:Ty):Blk:=⟨true,.arr 0 u,([]:List u.den),true,[]⟩
def evalStoreN (t:Option Ty)(d:Nat)(a:AV)(b:Option Blk):Option Res:=
 match t with
 |some (.slc u)=>match evalStore (some (.slc u)) a b (.whole d (.arr 0 u) [],some (emptyB u)) with
  |some r=>some ⟨r.cs,r.v,[(d,emptyB u)],r.set,r.kill⟩
  |none=>none
 |_=>none
def pickGo (x:Bool)(cs:List Prop)(a b:AV):Option Res:=
 match a,b with
 | .val t y,.val u z=>match(TV.mk u z).as t with
   |some z=>Res.cond cs (.val t (bif x then y else z))
   |none=>none
 |_,_=>none
def pickB (x:Bool)(a b:AV):Option Res:=
 match a,b with
 | .opt p a,.opt q b=>pickGo x [(x:Bool)=true→p,(x:Bool)=false→q] a b
 | .opt p a,b=>pickGo x [(x:Bool)=true→p] a b
 |a,.opt q b=>pickGo x [(x:Bool)=false→q] a b
 |a,b=>pickGo x [] a b
def evalPick (c a b:AV):Option Res:=
 match c with
 | .val .bool x=>pickB x a b
 | .opt p (.val .bool x)=>match pickB x a b with
   |some r=>some ⟨p::r.cs,r.v,r.new,r.set,r.kill⟩
   |none=>none
 |_=>none
def evalFieldAddr (t:Option Ty)(f:Nat)(x:AV)(b:Option Blk):Option Res:=
 match t,x,b with
 |some t,.ptr k root path,some b=>
  if(root.nav path).map (·.1)=some t∧(t.nav [.fld f]).isSome∧(b.row&&path.isEmpty)=false then Res.pure (.ptr k root (path++[.fld f])) else none
 |some t,.cptr u y,_=>if u=t then(match getP u y [.fld f] with|some ⟨v,z⟩=>Res.pure (.cptr v z)|none=>none) else none
 |_,_,_=>none
def evalField (t:Option Ty)(f:Nat)(x:AV):Option Res:=
 match t,x with
 |some t,.val u y=>if u=t then(match getP u y [.fld f] with|some ⟨v,z⟩=>Res.pure (.val v z)|none=>none) else none
 |_,_=>none
def pairUp {α:Type}:List Nat→List α→Option (List (Nat×α))
 |[],[]=>some []
 |i::is,a::as=>match pairUp is as with|some r=>some ((i,a)::r)|none=>none
 |_,_=>none
def evalIndex (t:Option Ty)(x:AV)(i:Option Int):Option Res:=
 match t,x,i with
 |some (.arr n u),.val w xs,some i=>match(TV.mk w xs).as (.arr n u) with
  |some (xs:List u.den)=>Res.cond [0≤i∧i<(n:Int)] (.val u (xs.getD i.toNat u.dflt))
  |none=>none
 |some .str,.val .str s,some i=>Res.cond [0≤i∧i<((ByteArray.size s:Nat):Int)] (.val (.int .u8) ((((ByteArray.toList s).getD i.toNat 0).toNat:Nat):Int))
 |_,_,_=>none
def nthAV :Nat→AV→Option AV
 |0,.tcons a _=>some a
 |i+1,.tcons _ b=>nthAV i b
 |_,_=>none
def evalExtract (i:Nat)(x:AV):Option Res:=
 match nthAV i x with
 |some a=>if a.isTup then none else Res.pure a
 |none=>none
def evalConvert (same:Bool)(s d:Option Ty)(fz:Nat→Bool)(dst:Option Nat)(x:AV)(b:Option Blk):Option Res:=
 match s,d with
 |some (.int _),some (.int k)=>match x with
  | .val (.int _) n=>Res.pure (.val (.int k) (k.wrap n))
  |_=>none
 |some .str,some (.slc (.int .u8))=>match x,dst with
  | .val .str s,some dk=>some ⟨[],.whole dk (.arr 0 (.int .u8)) [],[(dk,⟨true,.arr 0 (.int .u8),((ByteArray.toList s).map fun(c:UInt8)=>((c.toNat:Nat):Int):List Int),fz dk,[]⟩)],[],[]⟩
  |_,_=>none
 |some (.slc (.int .u8)),some .str=>match deepV false (.slc (.int .u8)) x b with
  |some (xs,cs)=>Res.cond cs (.val .str ⟨(List.map (fun(n:Int)=>UInt8.ofNat n.toNat) xs).toArray⟩)
  |none=>none
 |some (.slc (.int .u8)),some (.slc (.int .u8))=>match same,x,deepV true (.slc (.int .u8)) x b with
  |true,.whole k _ [],some (xs,cs)=>some ⟨cs++[0<List.length xs],.val (.slc (.int .u8)) xs,[],[],[k]⟩
  |_,_,_=>none
 |_,_=>none
def evalToArr (t:Option Ty)(x:AV)(b:Option Blk):Option Res:=
 match t with
 |some (.arr n u)=>if n=0 then none else match deepV true (.slc u) x b with
  |some (xs,cs)=>Res.cond (cs++[n≤List.length xs]) (.cptr (.arr n u) (List.take n xs))
  |none=>none
 |_=>none
def evalMM (mx:Bool)(x y:AV):Option Res:=
 match x,y with
 | .val (.int k) a,.val (.int k') b=>if k=k' then Res.pure (.val (.int k) (if mx then(if(b:Int)>a then b else a) else(if(b:Int)<a then b else a))) else none
 |_,_=>none
def avLinks :AV→List (List Stp×Nat)
 | .vlk _ _ l=>l
 |_=>[]
def capAV (a:AV)(b:Option Blk):Option TV:=
 match a,b with
 | .val t x,_=>some ⟨t,x⟩
 | .cptr t x,_=>some ⟨.ref t,x⟩
 | .ptr _ _ path,some b=>if b.fz&& !(b.row&&path.isEmpty) then(match getP b.t b.x path with|some ⟨t,x⟩=>some ⟨.ref t,x⟩|none=>none) else none
 |_,_=>none
def evalCallF (E:Env)(f:FuncId)(dst:Option Nat)(args:List (AV×Option Blk)):Option Res:=
 match E.con f with
 |none=>none
 |some c=>
  match mkArgs (!(c.rets.all RK.flatOk)) c.params args with
  |none=>none
  |some (xs,cs)=>some ⟨cs++[c.pre xs],oneAV c.rets (mkRets E.fz (dst.getD 999999) 0 c.rets (c.fn xs)).1,(mkRets E.fz (dst.getD 999999) 0 c.rets (c.fn xs)).2,[],[]⟩
def evalMakeFunc (fn:Fn)(first:Nat)(args:List (AV×Option Blk)):Option Res:=
 match fn,first,args with
 | .func f,0,[(a,b)]=>match capAV a b with
   |some tv=>Res.pure (.val (.fn f tv.t) tv.x)
   |none=>none
 |_,_,_=>none
def evalTail (t:Option Ty)(dst:Option Nat)(x:AV×Option Blk)(l:AV):Option Res:=
 match t,x.1,x.2,dst,l.num with
 |some (.slc u),.whole k _ [],some ⟨true,.arr _ w,xs,true,_⟩,some d,some l=>
  match(TV.mk (.slc w) xs).as (.slc u) with
  |some xs=>some ⟨[0≤l∧l<(List.length xs:Int)],.whole d (.arr 0 u) [],[(d,⟨true,.arr 0 u,List.drop l.toNat xs,true,[]⟩)],[],[k]⟩
  |none=>none
 |_,_,_,_,_=>none
def lkUnder :List Stp→List Stp→Option (List Stp)
 |[],q=>some q
 | .fld i::p,.fld j::q=>if i==j then lkUnder p q else none
 |_,_=>none
def evalLoadL (t:Option Ty)(a:AV)(b:Option Blk):Option Res:=
 match t,a,b with
 |some t,.ptr _ _ path,some b=>
  if b.row then none else
  match getP b.t b.x path with
  |some ⟨u,x⟩=>if u=t then Res.pure (.vlk u x (b.lk.filterMap (fun q=>(lkUnder path q.1).map (fun r=>(r,q.2))))) else none
  |none=>none
 |_,_,_=>none
def mhas (K V:Ty)(k:K.den):List (K.den×V.den)→Bool
 |[]=>false
 |p::r=>if K.beq k p.1 then true else mhas K V k r
def mget (K V:Ty)(k:K.den)(d:V.den):List (K.den×V.den)→V.den
 |[]=>d
 |p::r=>if K.beq k p.1 then p.2 else mget K V k d r
def mput (K V:Ty)(k:K.den)(v:V.den):List (K.den×V.den)→List (K.den×V.den)
 |[]=>[(k,v)]
 |p::r=>if K.beq k p.1 then(k,v)::r else p::mput K V k v r
def evalMakeMap (t:Option Ty)(dst:Option Nat)(args:List (AV×Option Blk)):Option Res:=
 match t,dst,args with
 |some (.map K V),some d,[]=>some ⟨[],.mref d,[(d,⟨true,.map K V,[],false,[]⟩)],[],[]⟩
 |some (.map K V),some d,[(a,_)]=>match a.num with
  |some _=>some ⟨[],.mref d,[(d,⟨true,.map K V,[],false,[]⟩)],[],[]⟩
  |none=>none
 |_,_,_=>none
def evalLookup (t:Option Ty)(ok:Bool)(x:AV×Option Blk)(y:AV):Option Res:=
 match t,x.1,x.2 with
 |some (.map (.arr n (.int q)) V),.mref _,some ⟨true,u,xs,false,_⟩=>
  match(TV.mk u xs).as (.map (.arr n (.int q)) V),deepV false (.arr n (.int q)) y none with
  |some xs,some (k,[])=>
   if ok then Res.pure (.tcons (.val V (mget (.arr n (.int q)) V k V.dflt xs)) (.tcons (.val .bool (mhas (.arr n (.int q)) V k xs)) .tnil))
   else Res.pure (.val V (mget (.arr n (.int q)) V k V.dflt xs))
  |_,_=>none
 |_,_,_=>none
def evalMapUpdate (t:Option Ty)(x:AV×Option Blk)(y:AV)(z:AV×Option Blk):Option Res:=
 match t,x.1,x.2 with
 |some (.map (.arr n (.int q)) V),.mref m,some ⟨true,u,xs,false,_⟩=>
  match(TV.mk u xs).as (.map (.arr n (.int q)) V),deepV false (.arr n (.int q)) y none,deepV true V z.1 z.2 with
  |some xs,some (k,[]),some (v,cs)=>some ⟨cs,.tnil,[],[(m,⟨true,.map (.arr n (.int q)) V,mput (.arr n (.int q)) V k v xs,false,[]⟩)],[]⟩
  |_,_,_=>none
 |_,_,_=>none
def evalOp (E:Env)(op:Op)(type:TypeId)(dst:Option Nat)(args:List (AV×Option Blk)):Option Res:=
 match op,args with
 | .move _,[(a,_)]=>Res.pure a
 | .assign _,[(a,_)]=>match a with
   | .raw v=>match E.ty type with
     |some t=>match rawV t v with|some x=>Res.pure (.val t x)|none=>none
     |none=>none
   |a=>Res.pure a
 | .nilCheck _,[(a,b)]=>match a,b with
   | .ptr k root path,some _=>Res.pure (.ptr k root path)
   | .cptr t x,_=>Res.pure (.cptr t x)
   | .val (.fn f c) x,_=>Res.pure (.val (.fn f c) x)
   |_,_=>none
 | .pick _ _ _,[(c,_),(a,_),(b,_)]=>evalPick c a b
 | .alloc e,[]=>match E.ty e,dst with
   |some t,some d=>match look d E.lkd with
    |none=>some ⟨[],.ptr d t [],[(d,⟨false,t,t.dflt,false,[]⟩)],[],[]⟩
    |some nl=>match nilNew t nl with
     |some new=>some ⟨[],.ptr d t [],new++[(d,⟨false,t,t.dflt,false,nl⟩)],[],[]⟩
     |none=>none
   |_,_=>none
 | .box e _,[(a,b)]=>match E.ty e,dst with
   |some t,some d=>match deepV true t a b with
    |some (x,cs)=>some ⟨cs,.ptr d t [],[(d,⟨false,t,x,false,avLinks a⟩)],[],[]⟩
    |none=>none
   |_,_=>none
 | .build t parts,args=>match E.ty t,pairUp (parts.toList.map (·.1)) args with
   |some (.arr n u),some ps=>match fillParts (fun i=>[.idx i]) (.arr n u) (Ty.dflt (.arr n u)) (ps.map fun p=>(p.1,p.2.1,p.2.2)) (fun i=>if i<n then some u else none) with
    |some (x,cs)=>Res.cond cs (.val (.arr n u) x)
    |none=>none
   |some t,some ps=>if !t.isAgg then none else match fillParts (fun i=>[.fld i]) t t.dflt (ps.map fun p=>(p.1,p.2.1,p.2.2)) (fun i=>(t.nav [.fld i]).map (·.1)) with
    |some (x,cs)=>buildRes E dst t x cs ps
    |none=>none
   |_,_=>none
 | .buildSlice t len parts,args=>match E.ty t,pairUp (parts.toList.map (·.1)) args,dst with
   |some (.slc u),some ps,some d=>match fillParts (fun i=>[.idx i]) (.arr len u) (Ty.dflt (.arr len u)) (ps.map fun p=>(p.1,p.2.1,p.2.2)) (fun i=>if i<len then some u else none) with
    |some (x,cs)=>if len*u.size>2^24 then none else some ⟨cs,.whole d (.arr 0 u) [],[(d,⟨true,.arr 0 u,x,E.fz d,[]⟩)],[],[]⟩
    |none=>none
   |_,_,_=>none
 | .load t _,[(a,b)]=>if E.lkl.contains (dst.getD 999999) then evalLoadL (E.ty t) a b else evalLoad (E.ty t) a b
 | .store t x _,[(a,b),v]=>if nilAt E x v.1 then evalStoreN (E.ty t) (nkey x) a b else evalStore (E.ty t) a b v
 | .binOp op xt _ _ _,[(x,_),(y,_)]=>evalBin E op xt x y
 | .unOp op _ _,[(x,_)]=>match op,x with
   | .neg,.val (.int k) n=>Res.pure (.val (.int k) (k.wrap (0-(n:Int))))
   | .xor,.val (.int k) n=>Res.pure (.val (.int k) (inot k n))
   | .not,.val .bool b=>Res.pure (.val .bool (!(b:Bool)))
   |_,_=>none
 | .convert src d _,[(x,b)]=>evalConvert (src==d) (E.ty src) (E.ty d) E.fz dst x b
 | .sliceToArrayPointer arr _,[(x,b)]=>evalToArr (E.ty arr) x b
 | .makeSlice t _ _,[(l,_),(c,_)]=>match E.ty t,l.num,c.num,dst with
   |some (.slc u),some l,some c,some d=>
    some ⟨[0≤l∧l≤c,Room c.toNat (E.bytes t)],.whole d (.arr 0 u) [],[(d,⟨true,.arr 0 u,List.replicate l.toNat u.dflt,E.icy.contains d,[]⟩)],[],[]⟩
   |_,_,_,_=>none
 | .slice t _ lo hi mx,(x,b)::r=>match lo.isSome,hi.isSome,mx.isSome,r with
   |true,true,true,[(l,_),(h,_),(m,_)]=>evalSlice E t (x,b) (some l) (some h) (some m)
   |false,true,true,[(h,_),(m,_)]=>evalSlice E t (x,b) none (some h) (some m)
   |true,true,false,[(l,_),(h,_)]=>evalSlice E t (x,b) (some l) (some h) none
   |true,false,false,[(l,_)]=>if E.tails.contains (dst.getD 999999) then evalTail (E.ty t) dst (x,b) l else evalSlice E t (x,b) (some l) none none
   |false,true,false,[(h,_)]=>evalSlice E t (x,b) none (some h) none
   |false,false,false,[]=>evalSlice E t (x,b) none none none
   |_,_,_,_=>none
 | .fieldAddr s _ f,[(x,b)]=>evalFieldAddr (E.ty s) f x b
 | .field s _ f,[(x,_)]=>evalField (E.ty s) f x
 | .indexAddr t _ _,[x,(i,_)]=>match i.num with
   |some n=>evalIndexAddr E t x n
   |none=>none
 | .index t _ _,[(x,_),(i,_)]=>evalIndex (E.ty t) x i.num
 | .extract _ i,[(x,_)]=>evalExtract i x
 | .makeInterface _ _,[_]=>some ⟨[False],.val .bool false,[],[],[]⟩
 | .panic _,[_]=>some ⟨[False],.val .bool false,[],[],[]⟩
 | .makeFunc fn first _,args=>evalMakeFunc fn first.size args
 | .makeMap t _,args=>evalMakeMap (E.ty t) dst args
 | .lookup t _ _ ok,[x,(y,_)]=>evalLookup (E.ty t) ok x y
 | .mapUpdate t _ _ _,[x,(y,_),z]=>evalMapUpdate (E.ty t) x y z
 | .insert t _ _ _,[x,(y,_),z]=>evalMapUpdate (E.ty t) x y z
 | .call c,args=>match c.callee,args with
   | .value _,(.fn f,_)::r=>evalCall E f dst r
   | .value _,(.val (.fn f c) x,_)::r=>evalCallF E f dst (r++[(.val c x,none)])
   | .builtin .len,[(a,b)]=>evalLen ((c.argTypes[0]?).bind E.ty) a b
   | .builtin .append,[s,x]=>match c.argTypes.toList,dst with
     |[st,xt],some d=>evalAppend E d st xt s x
     |_,_=>none
   | .builtin .copy,[d,x]=>match c.argTypes.toList with
     |[dt,xt]=>evalCopy E dt xt d x
     |_=>none
   | .builtin .min,[(x,_),(y,_)]=>evalMM false x y
   | .builtin .max,[(x,_),(y,_)]=>evalMM true x y
   |_,_=>none
 |_,_=>none
end Lc
namespace Lc
open Go
def constAV :Value→AV
 | .bool b=> .val .bool b
 | .int k n=> .val (.int k) n
 | .string s=> .val .str s
 | .slice none 0 0=> .nil
 |v=> .raw v
def evalO (E:Env)(tm:List (Nat×AV)):Operand→Option AV
 | .tmp t=>look t tm
 | .const v=>some (constAV v)
 | .global g=>match E.glob g with|some tv=>some (.cptr tv.t tv.x)|none=>none
 | .func f=>some (.fn f)
def blkOf (hp:List (Nat×Option Blk))(a:AV):Option Blk:=
 match a.key with
 |none=>none
 |some k=>match look k hp with
  |some (some b)=>some b
  |_=>none
def strip :AV→AV×List Prop
 | .opt p a=>if a.isTup then(.opt p a,[]) else((strip a).1,p::(strip a).2)
 |a=>(a,[])
def isPick :Op→Bool
 | .pick _ _ _=>true
 |_=>false
def touches :Op→Bool
 | .move _| .assign _| .pick _ _ _| .binOp _ _ _ _ _| .unOp _ _ _| .field _ _ _| .index _ _ _| .extract _ _=>false
 |_=>true
def writes :Op→Bool
 | .store _ _ _=>true
 | .mapUpdate _ _ _ _=>true
 | .insert _ _ _ _=>true
 | .slice _ _ _ _ _=>true
 | .call c=>match c.callee with
   | .builtin .append| .builtin .copy| .value _=>true
   |_=>false
 | .convert s d _=>s==d
 |_=>false
def evalArgs (E:Env)(st:St)(pk tc:Bool):List Operand→Option (List (AV×Option Blk)×List Prop)
 |[]=>some ([],[])
 |o::r=>match evalO E st.tm o with
  |none=>none
  |some a=>match evalArgs E st pk tc r with
   |none=>none
   |some (l,cs)=>if pk then some ((a,none)::l,cs) else some (((strip a).1,if tc then blkOf st.hp a else none)::l,(strip a).2++cs)
def guardP (ops:Array Oper)(o:Oper)(tm:List (Nat×AV)):Option (Option Prop):=
 match o.guard with
 |none=>some none
 |some (g,b)=>match(ops[g]?).bind (·.dst) with
  |none=>none
  |some d=>match look d tm with
   |some (.val .bool x)=>some (some ((x:Bool)=b))
   |some (.opt p (.val .bool x))=>some (some (p∧(x:Bool)=b))
   |_=>none
def nodupB :List Nat→Bool
 |[]=>true
 |a::l=> !(l.contains a)&&nodupB l
def Res.hp (r:Res)(hp:List (Nat×Option Blk)):List (Nat×Option Blk):=
 r.new.map (fun p=>(p.1,some p.2))++(r.set.map (fun p=>(p.1,some p.2))++(r.kill.map (fun k=>(k,none))++hp))
def blkKeys :Option Blk→List Nat
 |some b=>b.lk.map (·.2)
 |none=>[]
def argKeys (p:AV×Option Blk):List Nat:=p.1.keys++blkKeys p.2
def keysOf (args:List (AV×Option Blk)):List Nat:=args.flatMap argKeys
def resOk (op:Op)(args:List (AV×Option Blk))(r:Res):Bool:=
 (touches op||r.new.isEmpty)&&(writes op||(r.set.isEmpty&&r.kill.isEmpty))&&
 (r.set.all (fun p=>(keysOf args).contains p.1)&&r.kill.all (fun k=>(keysOf args).contains k))&&
 (r.new.all (fun p=>p.2.lk.all (fun q=>(keysOf args).contains q.2||(r.new.map (·.1)).contains q.2))&&r.set.all (fun p=>p.2.lk.all (fun q=>(keysOf args).contains q.2||(r.new.map (·.1)).contains q.2)))&&
 r.v.keys.all (fun k=>(keysOf args).contains k||(r.new.map (·.1)).contains k)
def readL (st:St)(t:Ty)(lk:List (List Stp×Nat)):List (List Stp×Ty×Nat)→Option (List (Nat×Nat))
 |[]=>some []
 |(p,u,m)::r=>
  if(t.nav p).map (·.1)=some (.slc u) then
   match lkAt p lk,readL st t lk r with
   |some kk,some l=>match look kk st.hp with
    |some (some ⟨true,.arr _ u',_,true,_⟩)=>if u'=u then some ((m,kk)::l) else none
    |_=>none
   |_,_=>none
  else none
def pkey (d:Nat)(q:List Stp×Ty×Nat):Nat:=20000+1000*q.2.2+d
def RK.plain :RK→Bool
 | .deep t=>t.flat
 | .own _=>false
 | .ownw _=>false
 | .vlk _ _=>false
def isArrT :Ty→Bool
 | .arr _ _=>true
 |_=>false
def evalPtr (c:ConP)(hp:List (Nat×Option Blk))(d:Nat)(args:List (AV×Option Blk)):Option Res:=
 match args with
 |(.ptr k _ [],some b)::r=>
  if b.row||b.fz then none else
  match(TV.mk b.t b.x).as c.t with
  |none=>none
  |some x=>
   match readL ⟨[],hp⟩ c.t b.lk c.ps,mkArgs true c.params r with
   |some l,some (ys,cs)=>
    if nodupB (k::l.map (·.2))&&nodupB (0::c.ps.map (·.2.2))&&c.rets.all RK.plain&& !(isArrT c.t) then
     some ⟨cs++[c.pre x ys],oneAV c.rets (mkRets (fun _=>true) d 0 c.rets (c.fn x ys).2).1,
      c.ps.map (fun q=>(pkey d q,(linkB c.t (c.fn x ys).1 q).2)),
      [(k,⟨false,c.t,(c.fn x ys).1,false,c.ps.map (fun q=>(q.1,pkey d q))⟩)],l.map (·.2)⟩
    else none
   |_,_=>none
 |_=>none
def evalVal (c:ConV)(hp:List (Nat×Option Blk))(d:Nat)(args:List (AV×Option Blk)):Option Res:=
 match args with
 |(.vlk u x0 lk,_)::r=>
  match(TV.mk u x0).as c.t with
  |none=>none
  |some x=>
   match readL ⟨[],hp⟩ c.t lk c.ps,mkArgs true c.params r with
   |some l,some (ys,cs)=>
    if nodupB (l.map (·.2))&&nodupB (0::c.ps.map (·.2.2)) then
     some ⟨cs++[c.pre x ys],.vlk c.t (c.fn x ys) (c.ps.map (fun q=>(q.1,pkey d q))),c.ps.map (fun q=>(pkey d q,(linkB c.t (c.fn x ys) q).2)),[],l.map (·.2)⟩
    else none
   |_,_=>none
 |_=>none
def evalOpH0 (E:Env)(hp:List (Nat×Option Blk))(op:Op)(type:TypeId)(dst:Option Nat)(args:List (AV×Option Blk)):Option Res:=
 match op,args,dst with
 | .call c,(.fn f,_)::r,some d=>match c.callee,E.ptr f with
   | .value _,some pc=>evalPtr pc hp d r
   | .value _,none=>match E.byv f with
     |some vc=>evalVal vc hp d r
     |none=>evalOp E op type dst args
   |_,_=>evalOp E op type dst args
 |_,_,_=>evalOp E op type dst args
def openLoad (t:Option Ty)(path:List Stp)(b:Blk):Option Res:=
 match t,b.lk with
 |some t,[(p,kk)]=>
  if samePath p path then match isSlc t with
   |some u=>if(b.t.nav p).map (·.1)=some (.slc u) then Res.pure (.whole kk (.arr 0 u) []) else none
   |none=>none
  else if clash p path then none else match getP b.t b.x path with
   |some ⟨u,x⟩=>if u=t then Res.pure (.val u x) else none
   |none=>none
 |_,_=>none
def mayOpen (path:List Stp)(b:Blk):Bool:=
 if b.isOpen then(match b.lk with|[(p,_)]=>samePath p path|_=>false) else !b.fz&&b.lk.isEmpty
def openStore (t:Option Ty)(k:Nat)(path:List Stp)(b:Blk)(v:AV)(bv:Option Blk):Option Res:=
 match t,v,bv with
 |some (.slc u),.whole kk (.arr 0 w) [],some r=>
  if w=u∧(r.row&& !r.fz&& !b.row&&fldOnly path&& !path.isEmpty&&mayOpen path b)=true then
   match setP b.t b.x path ⟨.slc u,([]:List u.den)⟩ with
   |some z=>some ⟨[],.tnil,[],[(k,⟨false,b.t,z,true,[(path,kk)]⟩)],[]⟩
   |none=>none
  else none
 |some t,v,bv=>
  match b.isOpen,b.lk with
  |true,[(p,kk)]=>if clash p path then none else
   match deepV true t v (mask bv) with
   |some (y,cs)=>match setP b.t b.x path ⟨t,y⟩ with
    |some z=>some ⟨cs,.tnil,[],[(k,⟨false,b.t,z,true,[(p,kk)]⟩)],[]⟩
    |none=>none
   |none=>none
  |_,_=>none
 |_,_,_=>none
def evalOpen (E:Env)(op:Op)(args:List (AV×Option Blk)):Option Res:=
 match op,args with
 | .fieldAddr t _ f,[(a,some b)]=>if b.isOpen then evalFieldAddr (E.ty t) f a (some b) else none
 | .load t _,[(.ptr _ _ path,some b)]=>if b.isOpen then openLoad (E.ty t) path b else none
 | .store t _ _,[(.ptr k _ path,some b),v]=>openStore (E.ty t) k path b v.1 v.2
 |_,_=>none
def maskA (args:List (AV×Option Blk)):List (AV×Option Blk):=args.map (fun p=>(p.1,mask p.2))
def evalOpH (E:Env)(hp:List (Nat×Option Blk))(op:Op)(type:TypeId)(dst:Option Nat)(args:List (AV×Option Blk)):Option Res:=
 match evalOpen E op args with
 |some r=>some r
 |none=>evalOpH0 E hp op type dst (maskA args)
def stepA (E:Env)(ops:Array Oper)(o:Oper)(st:St):Option (List Prop×St):=
 match evalArgs E st (isPick o.op) (touches o.op) o.op.operands.toList with
 |none=>none
 |some (args,cs0)=>
  match guardP ops o st.tm with
  |none=>none
  |some g=>
   match evalOpH E st.hp o.op o.type o.dst args with
   |none=>none
   |some r=>
    if !(r.new.all (fun p=>(look p.1 st.hp).isNone)&&nodupB (r.new.map (·.1))&&resOk o.op args r) then none else
    match g,o.dst with
    |none,some d=>if d<E.ntm&& !(E.lock.contains d) then some (cs0++r.cs,⟨(d,r.v)::st.tm,r.hp st.hp⟩) else none
    |none,none=>some (cs0++r.cs,⟨st.tm,r.hp st.hp⟩)
    |some g,some d=>
     if d<E.ntm&& !(E.lock.contains d)&&r.set.isEmpty&& !r.v.isTup&&r.new.all (fun p=>p.2.lk.isEmpty) then
      some ((cs0++r.cs).map (fun c=>g→c),⟨(d,.opt g r.v)::st.tm,r.hp st.hp⟩) else none
    |some _,none=>none
def runOps (E:Env)(ops:Array Oper):List Oper→St→Option (List Prop×St)
 |[],st=>some ([],st)
 |o::r,st=>match stepA E ops o st with
  |none=>none
  |some (cs,st')=>match runOps E ops r st' with
   |none=>none
   |some (cs',st'')=>some (cs++cs',st'')
def Oper.looks (ops:Array Oper)(o:Oper):List Nat:=
 (o.op.operands.toList.filterMap fun| .tmp t=>some t|_=>none)++
 (match o.guard with
  |some (g,_)=>((ops[g]?).bind (·.dst)).toList
  |none=>[])
def disj (a b:List Nat):Bool:=a.all (fun k=> !(b.contains k))
def indep (ops:Array Oper)(x:Oper)(fx:List Nat×List Nat)(y:Oper)(fy:List Nat×List Nat):Bool:=
 (match x.dst with|some d=> !((Oper.looks ops y).contains d)&&y.dst !=some d|none=>true)&&
 (match y.dst with|some d=> !((Oper.looks ops x).contains d)|none=>true)&&
 (!(writes x.op&&touches y.op)||disj fx.2 fy.1)&&(!(touches x.op&&writes y.op)||disj fx.1 fy.2)
def wrKeys (E:Env)(hp:List (Nat×Option Blk))(o:Oper)(args:List (AV×Option Blk)):List Nat:=
 match evalOpH E hp o.op o.type o.dst args with|some r=>r.set.map (·.1)++r.kill|none=>[]
def foots (E:Env)(ops:Array Oper):List Oper→St→List (List Nat×List Nat)
 |[],_=>[]
 |o::r,st=>(match evalArgs E st (isPick o.op) (touches o.op) o.op.operands.toList with|some (args,_)=>(keysOf args,wrKeys E st.hp o args)|none=>([],[]))::
  (match stepA E ops o st with|some (_,st')=>foots E ops r st'|none=>[])
def union (a b:List Nat):List Nat:=a.foldl (fun acc x=>if acc.contains x then acc else x::acc) b
def aheadRow (ops:Array Oper)(n:Nat)(l:List (Nat×List Nat)):List Nat:=
 match ops[n]? with
 |none=>[]
 |some o=>(o.after.toList.filter (fun e=>Region.binds .any e)).foldl (fun acc e=>union (e.on::(look e.on l).getD []) acc) []
def aheadR (ops:Array Oper):Nat→List (Nat×List Nat)
 |0=>[]
 |n+1=>(n,aheadRow ops n (aheadR ops n))::aheadR ops n
def ahead (tab:List (Nat×List Nat))(j:Nat):List Nat:=(look j tab).getD []
def drawGo (ops:Array Oper)(fs:List (List Nat×List Nat))(tab:List (Nat×List Nat)):Bool:=
 (List.range ops.size).all fun j=>
   (match ops[j]? with
    |none=>false
    |some y=>y.after.toList.all (fun e=> !(Region.binds .any e)||decide (e.on<j))&&
     (let al:=ahead tab j
      (List.range j).all fun i=>al.contains i||(match ops[i]? with|none=>false|some x=>indep ops x (fs.getD i ([],[])) y (fs.getD j ([],[])))))
def drawOk (ops:Array Oper)(fs:List (List Nat×List Nat)):Bool:=drawGo ops fs (aheadR ops ops.size)
def closeA (st:St)(k:Nat)(b:Blk):St:=
 match b.lk with
 |[(s::p,kk)]=>match look kk st.hp with
  |some (some ⟨true,.arr n u,xs,false,_⟩)=>match setP b.t b.x (s::p) ⟨.slc u,xs⟩ with
   |some z=>⟨st.tm,(k,some ⟨false,b.t,z,false,[]⟩)::(kk,some ⟨true,.arr n u,xs,true,[]⟩)::st.hp⟩
   |none=>st
  |_=>st
 |_=>st
def freeze (st:St):List Nat→St
 |[]=>st
 |n::r=>
  let st:=freeze st r
  match look n st.tm with
  |none=>st
  |some a=>match a.key with
   |none=>st
   |some k=>match look k st.hp with
    |some (some b)=>if b.row&&isMapT b.t then st else if b.isOpen then closeA st k b else⟨st.tm,(k,some ⟨b.row,b.t,b.x,true,[]⟩)::st.hp⟩
    |_=>st
inductive Shape where
 |val (t:Ty)|own (t:Ty) (fz:Bool)|ptr (t:Ty)
 |ptrL (t:Ty) (ps:List (List Stp×Ty×Nat))
 |valL (t:Ty) (ps:List (List Stp×Ty×Nat))
 |map (k v:Ty)
@[reducible] def Shape.den : Shape → Type
  | .val t=>t.den
  | .own t _=>List t.den
  | .ptr t=>t.den
  | .ptrL t _=>t.den
  | .valL t _=>t.den
  | .map k v=>List (k.den×v.den)
@[reducible] def VDen : List (Nat × Shape) → Type
  |[]=>Unit
  |p::r=>p.2.den×VDen r
@[reducible] def VFun (β : Type) : List (Nat × Shape) → Type
  |[]=>β
  |p::r=>p.2.den→VFun β r
def vapp {β:Type}:(vs:List (Nat×Shape))→VFun β vs→VDen vs→β
 |[],f,_=>f
 |_::r,f,x=>vapp r (f x.1) x.2
def vall :(vs:List (Nat×Shape))→(VDen vs→Prop)→Prop
 |[],f=>f ()
 |p::r,f=>∀x:p.2.den,vall r (fun y=>f (x,y))
structure Ann where
 frz:List Nat
 keep:List Nat
 vars:List (Nat×Shape)
 inv:VFun Prop vars
 mes:VFun Nat vars
def readS (st:St)(n:Nat):(s:Shape)→Option (s.den×List (Nat×Nat))
 | .val t=>match look n st.tm with
   |none=>none
   |some a=>match deepV true t a (mask (blkOf st.hp a)) with
    |some (x,[])=>some (x,[])
    |_=>none
 | .own t fz=>match look n st.tm with
   |some .nil=>some ([],[])
   |some (.whole k _ [])=>match look k st.hp with
    |some (some ⟨true,.arr _ u,xs,fz',_⟩)=>
     if fz' !=fz then none else
     match(TV.mk (.slc u) xs).as (.slc t) with
     |some y=>some (y,[(n,k)])
     |none=>none
    |_=>none
   |_=>none
 | .ptr t=>match look n st.tm with
   |some (.ptr k _ [])=>match look k st.hp with
    |some (some ⟨false,u,x,false,_⟩)=>match(TV.mk u x).as t with
     |some y=>some (y,[(n,k)])
     |none=>none
    |_=>none
   |_=>none
 | .ptrL t ps=>match look n st.tm with
   |some (.ptr k _ [])=>match look k st.hp with
    |some (some ⟨false,u,x,false,lk⟩)=>match(TV.mk u x).as t with
     |some y=>match readL st t lk ps with
      |some l=>some (y,(n,k)::l)
      |none=>none
     |none=>none
    |_=>none
   |_=>none
 | .valL t ps=>match look n st.tm with
   |some (.vlk u x lk)=>match(TV.mk u x).as t with
    |some y=>match readL st t lk ps with
     |some l=>some (y,l)
     |none=>none
    |none=>none
   |_=>none
 | .map K V=>match look n st.tm with
   |some (.mref k)=>match look k st.hp with
    |some (some ⟨true,u,x,false,_⟩)=>match(TV.mk u x).as (.map K V) with
     |some y=>some (y,[(n,k)])
     |none=>none
    |_=>none
   |_=>none
def readV (st:St):(vs:List (Nat×Shape))→Option (VDen vs×List (Nat×Nat))
 |[]=>some ((),[])
 |p::r=>match readS st p.1 p.2,readV st r with
  |some (x,ks),some (y,ks')=>some ((x,y),ks++ks')
  |_,_=>none
def base :Nat:=5000
def avOf (n:Nat):(s:Shape)→s.den→AV
 | .val t,x=> .val t x
 | .own t _,_=> .whole (base+n) (.arr 0 t) []
 | .ptr t,_=> .ptr (base+n) t []
 | .ptrL t _,_=> .ptr (base+n) t []
 | .valL t ps,x=> .vlk t x (ps.map (fun q=>(q.1,base+q.2.2)))
 | .map _ _,_=> .mref (base+n)
def mkTm :(vs:List (Nat×Shape))→VDen vs→List (Nat×AV)
 |[],_=>[]
 |p::r,x=>(p.1,avOf p.1 p.2 x.1)::mkTm r x.2
def blksOf (n:Nat):(s:Shape)→s.den→List (Nat×Blk)
 | .val _,_=>[]
 | .own t fz,xs=>[(n,⟨true,.arr 0 t,xs,fz,[]⟩)]
 | .ptr t,x=>[(n,⟨false,t,x,false,[]⟩)]
 | .ptrL t ps,x=>(n,⟨false,t,x,false,ps.map (fun q=>(q.1,base+q.2.2))⟩)::ps.map (linkB t x)
 | .valL t ps,x=>ps.map (linkB t x)
 | .map k v,x=>[(n,⟨true,.map k v,x,false,[]⟩)]
def allBlks :(vs:List (Nat×Shape))→VDen vs→List (Nat×Blk)
 |[],_=>[]
 |p::r,x=>blksOf p.1 p.2 x.1++allBlks r x.2
def mkHp (vs:List (Nat×Shape))(x:VDen vs):List (Nat×Option Blk):=(allBlks vs x).map (fun q=>(base+q.1,some q.2))
def names (p:Nat×Shape):List Nat:=p.1::(match p.2 with| .ptrL _ ps=>ps.map (·.2.2)| .valL _ ps=>ps.map (·.2.2)|_=>[])
def fixAV (a:AV)(b:Option Blk):Option AV:=
 match a,b with
 | .val t x,_=>some (.val t x)
 | .cptr t x,_=>some (.cptr t x)
 | .nil,_=>some .nil
 | .raw v,_=>some (.raw v)
 | .cut t x,_=>some (.cut t x)
 | .ptr _ _ path,some b=>if b.fz&& !(b.row&&path.isEmpty) then(match getP b.t b.x path with|some ⟨t,x⟩=>some (.cptr t x)|none=>none) else none
 | .whole _ _ path,some b=>if b.fz then(match getP b.t b.x path with|some ⟨.arr _ t,xs⟩=>some (.val (.slc t) xs)|_=>none) else none
 |_,_=>none
def keepTm (st:St):List Nat→Option (List (Nat×AV))
 |[]=>some []
 |n::r=>match look n st.tm with
  |none=>none
  |some a=>match fixAV a (mask (blkOf st.hp a)),keepTm st r with
   |some a,some l=>some ((n,a)::l)
   |_,_=>none
def firstR :Code→Option Nat
 | .region id _ _=>some id
 | .seq a b=>match firstR a with|some i=>some i|none=>firstR b
 | .cond _ a b=>match firstR a with|some i=>some i|none=>firstR b
 | .block _ b=>firstR b
 | .loop b=>firstR b
 | .scope b=>firstR b
 |_=>none
def Ann.at (A:Ann)(kept:List (Nat×AV))(x:VDen A.vars):St:=⟨mkTm A.vars x++kept,mkHp A.vars x⟩
def conjK :List Prop→Prop→Prop
 |[],k=>k
 |c::cs,k=>c∧conjK cs k
def Exit.thenA (next:St→Prop)(Q:Exit→St→Prop):Exit→St→Prop
 | .normal,s=>next s
 |e,s=>Q e s
def Exit.inBlockA (id:Nat)(Q:Exit→St→Prop):Exit→St→Prop
 | .exit j,s=>if j=id then Q .normal s else Q (.exit j) s
 |e,s=>Q e s
def Exit.noGotoA (Q:Exit→St→Prop):Exit→St→Prop
 | .goto _,_=>False
 |e,s=>Q e s
structure AnnS where
 see:List (Nat×Shape)
 ann:VDen see→Ann
def AnnS.at? (o:Option AnnS)(st:St):Option Ann:=
 match o with
 |some S=>match readV st S.see with
  |some (y,_)=>some (S.ann y)
  |none=>none
 |none=>none
structure Notes where
 loops:Nat→Option AnnS
 cuts:Nat→Option AnnS
 frz:Nat→List Nat
def slotsOk (A:Ann):Bool:=nodupB (A.vars.flatMap names)
def Env.locked (E:Env)(l:List Nat):Env:={E with lock:=l++E.lock}
def atCut (A:Ann)(k:VDen A.vars→Prop)(s:St):Prop:=
 match readV s A.vars with
 |some (x,ks)=>if nodupB (ks.map (·.2)) then k x else False
 |none=>False
def wpA (N:Notes):Env→Code→(Exit→St→Prop)→St→Prop
 |_,.skip,Q,st=>Q .normal st
 |E,.region id ops draw,Q,st=>
  if draw&& !(drawOk ops (foots E ops ops.toList (freeze st (N.frz id)))) then False else
  match runOps E ops ops.toList (freeze st (N.frz id)) with
  |some (cs,st')=>conjK cs (Q .normal st')
  |none=>False
 |E,.seq a b,Q,st=>
  match(match firstR b with|some i=>AnnS.at? (N.cuts i) st|none=>none) with
  |none=>wpA N E a (Exit.thenA (wpA N E b Q) Q) st
  |some A=>
   match keepTm (freeze st A.frz) A.keep with
   |none=>False
   |some kept=>
    if slotsOk A then
     wpA N (E.locked A.keep) a (Exit.thenA (atCut A (vapp A.vars A.inv)) Q) (freeze st A.frz)∧
     vall A.vars (fun x=>vapp A.vars A.inv x→wpA N E b Q (A.at kept x))
    else False
 |E,.cond c t e,Q,st=>
  match evalO E st.tm c with
  |some (.val .bool x)=>((x:Bool)=true→wpA N E t Q st)∧((x:Bool)=false→wpA N E e Q st)
  |_=>False
 |E,.block id c,Q,st=>wpA N E c (Exit.inBlockA id Q) st
 |E,.loop c,Q,st=>
  match(match firstR c with|some i=>AnnS.at? (N.loops i) st|none=>none) with
  |none=>False
  |some A=>
   match keepTm (freeze st A.frz) A.keep with
   |none=>False
   |some kept=>
    if slotsOk A then
     atCut A (vapp A.vars A.inv) (freeze st A.frz)∧
     vall A.vars (fun x=>vapp A.vars A.inv x→wpA N (E.locked A.keep) c (Exit.thenA (atCut A (fun y=>vapp A.vars A.inv y∧vapp A.vars A.mes y<vapp A.vars A.mes x)) Q) (A.at kept x))
    else False
 |E,.scope c,Q,st=>wpA N E c (Exit.noGotoA Q) st
 |_,.label _,Q,st=>Q .normal st
 |_,.exit id,Q,st=>Q (.exit id) st
 |_,.ret,Q,st=>Q .ret st
 |_,_,_,_=>False
def resAV (E:Env)(st:St):ResultVar→Option AV
 | .tmp t=>look t st.tm
 | .cell a tid=>match look a st.tm with
   |some (.ptr k _ [])=>match look k st.hp with
    |some (some b)=>if b.row||b.isOpen then none else if E.ty tid=some b.t then some (if b.lk.isEmpty then .val b.t b.x else .vlk b.t b.x b.lk) else none
    |_=>none
   |_=>none
def readR (E:Env)(st:St)(need:Bool):(rs:List RK)→List ResultVar→Option (RTup rs×List Prop×List Nat)
 |[],[]=>some ((),[],[])
 |r::rs,v::vs=>
  match readR E st need rs vs with
  |none=>none
  |some (y,cs,ks)=>
   match resAV E st v with
   |none=>none
   |some a=>
    match r with
    | .deep t=>match deepV need t a (mask (blkOf st.hp a)) with
      |some (x,cs')=>some ((x,y),cs'++cs,ks)
      |none=>none
    | .own t=>match a with
      | .nil=>some (([],y),cs,ks)
      | .whole k _ []=>match look k st.hp with
        |some (some ⟨true,.arr _ u,xs,_,_⟩)=>
         match(TV.mk (.slc u) xs).as (.slc t) with
         |some x=>some ((x,y),cs,k::ks)
         |none=>none
        |_=>none
      |_=>none
    | .ownw t=>match a with
      | .nil=>some (([],y),cs,ks)
      | .whole k _ []=>match look k st.hp with
        |some (some ⟨true,.arr _ u,xs,false,_⟩)=>
         match(TV.mk (.slc u) xs).as (.slc t) with
         |some x=>some ((x,y),cs,k::ks)
         |none=>none
        |_=>none
      |_=>none
    | .vlk t ps=>match a with
      | .vlk t' x' l=>match(TV.mk t' x').as t with
        |some x=>match readL st t l ps with
         |some l2=>some ((x,y),cs,l2.map (·.2)++ks)
         |none=>none
        |none=>none
      |_=>none
 |_,_=>none
def argAV :(t:Ty)→t.den→AV
 | .ref c,x=> .cptr c x
 |t,x=> .val t x
def initTm :Nat→(ts:List Ty)→Tup ts→List (Nat×AV)
 |_,[],_=>[]
 |i,t::ts,x=>(i,argAV t x.1)::initTm (i+1) ts x.2
def tall :(ts:List Ty)→(Tup ts→Prop)→Prop
 |[],f=>f ()
 |t::ts,f=>∀x:t.den,tall ts (fun y=>f (x,y))
def retQ (E:Env)(c:Con)(res:List ResultVar)(x:Tup c.params)(e:Exit)(s:St):Prop:=
 match e with
 | .normal| .ret=>match readR E s (!(c.rets.all RK.flatOk)) c.rets res with
   |some (r,cs,ks)=>if nodupB ks then conjK cs (r=c.fn x) else False
   |none=>False
 |_=>False
def fnVC (E:Env)(c:Con)(N:Tup c.params→Notes)(body:Code)(res:List ResultVar):Prop:=
 tall c.params (fun x=>c.pre x→wpA (N x) E body (retQ E c res x) ⟨initTm 0 c.params x,[]⟩)
end Lc
