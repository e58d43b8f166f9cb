/- Chapter 07: parts of trees: what the reader and the reference's cursor compute. -/
import Derived.Test.YtkbnmdjmjjfdmaaDoorMerkle
set_option linter.unusedVariables false
set_option linter.unusedSimpArgs false
namespace Lc
open Go
set_option maxRecDepth 10000
abbrev Prt :Type:=Int×(List Bool×(List (List Int)×Unit))
abbrev Leaf :Type:=Int×(List Int×Unit)
abbrev Rdr :Type:=Prt×(List Leaf×Unit)
abbrev PS :Type:=List Bool×List H32×List Leaf
def wid (c:Int):Nat→Int
 |0=>c
 |k+1=>(wid c k+1)/2
theorem wid_rng {c:Int}(h1:1≤c)(h2:c≤1024):∀k,1≤wid c k∧wid c k≤1024
 |0=>⟨h1,h2⟩
 |k+1=>by
  have:=wid_rng h1 h2 k
  simp only[wid];omega
def MWidth.pre (c l:Int):Prop:=(1≤c∧c≤1024)∧0≤l∧l≤1000
def MWidth.fn (c l:Int):Int:=wid c l.toNat
def MWidth.inv2 (c l v0 v6:Int):Prop:=0≤v6∧v6≤l∧v0=wid c v6.toNat
def MWidth.mes2 (c l v0 v6:Int):Nat:=(l-v6).toNat
def lvl (c:Int):Nat:=if h:c≤1 then 0 else lvl ((c+1)/2)+1
termination_by c.toNat
decreasing_by omega
theorem lvl_small {c:Int}(h:c≤1):lvl c=0:=by rw[lvl,dif_pos h]
theorem lvl_big {c:Int}(h:¬c≤1):lvl c=lvl ((c+1)/2)+1:=by rw[lvl,dif_neg h]
theorem lvl_le :∀(m:Nat) (c:Int),c≤2^m→lvl c≤m:=by
 intro m
 induction m with
 |zero=>intro c h;rw[lvl_small (by simpa using h)];omega
 |succ m ih=>
  intro c h
  by_cases hc:c≤1
  ·rw[lvl_small hc];omega
  ·rw[lvl_big hc]
   have:(c+1)/2≤2^m:=by
    rw[Int.pow_succ] at h;omega
   have:=ih _ this
   omega
def MHeight.pre (c:Int):Prop:=1≤c∧c≤1024
def MHeight.fn (c:Int):Int:=lvl c
def MHeight.inv2 (c v0 v3:Int):Prop:=1≤v0∧v0≤1024∧0≤v3∧v3+lvl v0=lvl c∧lvl c≤10
def MHeight.mes2 (c v0 v3:Int):Nat:=v0.toNat
def takeH (f:Bool)(i:Int)(fl:List Bool)(hs:List H32)(lv:List Leaf):PS×H32×Bool×Int:=
 match hs with
 |[]=>((fl,[],lv),zeroH,false,1)
 |d::hs=>((fl,hs,if f then lv++[(i,(d,()))] else lv),d,f,0)
noncomputable def kidsOf (c:Int)(k:Nat)(V:Int→PS→PS×H32×Bool×Int)(i:Int)(s:PS):PS×H32×Int:=
 if(V i s).2.2.2≠0 then((V i s).1,zeroH,(V i s).2.2.2) else
 if i+1<wid c k then
  if(V (i+1) (V i s).1).2.2.2≠0 then((V (i+1) (V i s).1).1,zeroH,(V (i+1) (V i s).1).2.2.2) else
  if((V i s).2.2.1||(V (i+1) (V i s).1).2.2.1)=false then((V (i+1) (V i s).1).1,zeroH,3) else((V (i+1) (V i s).1).1,node (V i s).2.1 (V (i+1) (V i s).1).2.1,0)
 else if(V i s).2.2.1=false then((V i s).1,zeroH,3) else((V i s).1,(V i s).2.1,0)
noncomputable def rdV (c:Int):Nat→Int→PS→PS×H32×Bool×Int
 |0,i,([],hs,lv)=>(([],hs,lv),zeroH,false,1)
 |0,i,(f::fl,hs,lv)=>takeH f i fl hs lv
 |_+1,i,([],hs,lv)=>(([],hs,lv),zeroH,false,1)
 |k+1,i,(true::fl,hs,lv)=>((kidsOf c k (rdV c k) (2*i) (fl,hs,lv)).1,(kidsOf c k (rdV c k) (2*i) (fl,hs,lv)).2.1,true,(kidsOf c k (rdV c k) (2*i) (fl,hs,lv)).2.2)
 |_+1,i,(false::fl,hs,lv)=>takeH false i fl hs lv
def SOk (s:PS):Prop:=HashesOk s.2.1∧s.2.2.length+s.2.1.length≤100000
def packR (c:Int)(s:PS):Rdr:=((c,(s.1,(s.2.1,()))),(s.2.2,()))
def unR (x:Rdr):PS:=(x.1.2.1,x.1.2.2.1,x.2.1)
def RdOk (x:Rdr)(l i:Int):Prop:=(1≤x.1.1∧x.1.1≤1024)∧SOk (unR x)∧0≤l∧l≤10∧0≤i∧(i+2)*2^l.toNat≤1048576
def RdVisit.pre (n:Nat)(x:Rdr)(l i:Int):Prop:=RdOk x l i∧2*l.toNat<n
noncomputable def RdVisit.fn (x:Rdr)(l i:Int):Rdr×H32×Bool×Int:=(packR x.1.1 (rdV x.1.1 l.toNat i (unR x)).1,(rdV x.1.1 l.toNat i (unR x)).2)
def RdVisit.can (x:Rdr)(l i:Int):Prop:=∃n,RdVisit.pre n x l i
theorem RdVisit.none {x:Rdr}{l i:Int}:¬RdVisit.pre 0 x l i:=fun h=>by have:=h.2;omega
def RdKids.pre (n:Nat)(x:Rdr)(l i:Int):Prop:=(RdOk x l i∧(i+3)*2^l.toNat≤1048576)∧2*l.toNat+1<n
noncomputable def RdKids.fn (x:Rdr)(l i:Int):Rdr×H32×Int:=(packR x.1.1 (kidsOf x.1.1 l.toNat (rdV x.1.1 l.toNat) i (unR x)).1,(kidsOf x.1.1 l.toNat (rdV x.1.1 l.toNat) i (unR x)).2)
def RdKids.can (x:Rdr)(l i:Int):Prop:=∃n,RdKids.pre n x l i
theorem RdKids.none {x:Rdr}{l i:Int}:¬RdKids.pre 0 x l i:=fun h=>by have:=h.2;omega
abbrev Cur :Type:=Prt×(List Int×(Int×(Int×(List Leaf×(Int×Unit)))))
abbrev CS :Type:=Int×Int×List Leaf×Int
noncomputable def fixE (s:CS)(f:Bool):CS:=if s.2.2.2=0∧f=false then(s.1,s.2.1,s.2.2.1,3) else s
noncomputable def cuLeaf (fl:List Bool)(hs:List H32)(i:Int)(s:CS):CS×H32×Bool:=
 if s.2.1=hs.length then((s.1+1,s.2.1,s.2.2.1,1),zeroH,false) else
 ((s.1+1,s.2.1+1,(if fl.getD s.1.toNat false then s.2.2.1++[(i,(hs.getD s.2.1.toNat zeroH,()))] else s.2.2.1),s.2.2.2),hs.getD s.2.1.toNat zeroH,fl.getD s.1.toNat false)
noncomputable def cuKids (sz:List Int)(k:Nat)(V:Int→CS→CS×H32×Bool)(i:Int)(s:CS):CS×H32×Bool:=
 if 2*i+1<sz.getD k 0 then(fixE (V (2*i+1) (V (2*i) s).1).1 ((V (2*i) s).2.2||(V (2*i+1) (V (2*i) s).1).2.2),node (V (2*i) s).2.1 (V (2*i+1) (V (2*i) s).1).2.1,true)
 else(fixE (V (2*i) s).1 (V (2*i) s).2.2,(V (2*i) s).2.1,true)
noncomputable def cuTop (fl:List Bool)(s:CS)(r:CS×H32×Bool):CS×H32×Bool:=
 if s.2.2.2≠0 then(s,zeroH,false) else if s.1=fl.length then((s.1,s.2.1,s.2.2.1,1),zeroH,false) else r
noncomputable def cuV (fl:List Bool)(hs:List H32)(sz:List Int):Nat→Int→CS→CS×H32×Bool
 |0,i,s=>cuTop fl s (cuLeaf fl hs i s)
 |k+1,i,s=>cuTop fl s (if fl.getD s.1.toNat false then cuKids sz k (cuV fl hs sz k) i (s.1+1,s.2) else cuLeaf fl hs i s)
def CSOk (fl:List Bool)(hs:List H32)(s:CS):Prop:=(0≤s.1∧s.1≤fl.length)∧(0≤s.2.1∧s.2.1≤hs.length)∧(s.2.2.1.length:Int)+(hs.length-s.2.1)≤100000
def packC (p:Prt)(sz:List Int)(s:CS):Cur:=(p,(sz,(s.1,(s.2.1,(s.2.2.1,(s.2.2.2,()))))))
def unC (x:Cur):CS:=(x.2.2.1,x.2.2.2.1,x.2.2.2.2.1,x.2.2.2.2.2.1)
def CuRead.pre (n:Nat)(x:Cur)(l i:Int):Prop:=((HashesOk x.1.2.2.1∧x.1.2.1.length≤100000∧x.1.2.2.1.length≤100000)∧CSOk x.1.2.1 x.1.2.2.1 (unC x)∧(0≤l∧l≤10∧l≤x.2.1.length)∧0≤i∧(i+2)*2^l.toNat≤1048576)∧l.toNat<n
noncomputable def CuRead.fn (x:Cur)(l i:Int):Cur×H32×Bool:=(packC x.1 x.2.1 (cuV x.1.2.1 x.1.2.2.1 x.2.1 l.toNat i (unC x)).1,(cuV x.1.2.1 x.1.2.2.1 x.2.1 l.toNat i (unC x)).2)
def CuRead.can (x:Cur)(l i:Int):Prop:=∃n,CuRead.pre n x l i
theorem CuRead.none {x:Cur}{l i:Int}:¬CuRead.pre 0 x l i:=fun h=>by have:=h.2;omega
end Lc
