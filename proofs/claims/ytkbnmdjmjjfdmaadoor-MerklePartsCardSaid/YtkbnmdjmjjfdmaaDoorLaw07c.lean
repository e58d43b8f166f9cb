/- Chapter 07: what is read out of parts: the laws. -/
import Derived.Test.YtkbnmdjmjjfdmaaDoorLaw07
import Derived.Test.YtkbnmdjmjjfdmaaDoorParts
set_option linter.unusedVariables false
set_option linter.unusedSimpArgs false
namespace Lc
open Go
set_option maxRecDepth 10000
noncomputable def extGo (r:PS×H32×Bool×Int):H32×List Leaf×Int:=
 if r.2.2.2≠0 then(zeroH,[],r.2.2.2) else if r.1.1.length≠0∨r.1.2.1.length≠0 then(zeroH,[],2) else(r.2.1,r.1.2.2,0)
noncomputable def extOf (x:Prt):H32×List Leaf×Int:=
 if x.1<1∨1024<x.1 then(zeroH,[],5) else if(4096:Int)<x.2.1.length∨(4096:Int)<x.2.2.1.length then(zeroH,[],4) else
 extGo (rdV x.1 (lvl x.1) 0 (x.2.1,x.2.2.1,[]))
def MExtract.pre (x:Prt):Prop:=HashesOk x.2.2.1
noncomputable def MExtract.fn (x:Prt):H32×List Leaf×Int:=extOf x
def szs (c:Int)(m:Nat):List Int:=(List.range (m+1)).map (wid c)
def RExtract.pre (x:Prt):Prop:=HashesOk x.2.2.1
noncomputable def RExtract.fn (x:Prt):H32×List Leaf×Int:=extOf x
def RExtract.inv7 (x:Prt)(v2:List Int)(v5:Cur)(v6:Int):Prop:=∃m:Nat,v5=packC x (szs x.1 m) (0,0,[],0)∧v6=wid x.1 m∧m+lvl v6=lvl x.1
def RExtract.mes7 (x:Prt)(v2:List Int)(v5:Cur)(v6:Int):Nat:=v6.toNat
def MerkleExtracts.pre (x:Prt):Prop:=HashesOk x.2.2.1
def MerkleExtracts.fn (x:Prt):Bool:=true
noncomputable def MerkleExtracts.inv10 (x:Prt)(v:Int):Prop:=0≤v∧v≤(extOf x).2.1.length∧((extOf x).2.1.length:Int)≤100000
noncomputable def MerkleExtracts.mes10 (x:Prt)(v:Int):Nat:=((extOf x).2.1.length-v).toNat
end Lc
