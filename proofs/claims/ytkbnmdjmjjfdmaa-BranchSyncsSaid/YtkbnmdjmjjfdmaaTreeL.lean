/- The tree of headers: inserting the nodes of a made tree again, in their order or in another one, and behind a chain of good headers. -/
import Derived.Test.YtkbnmdjmjjfdmaaTreeI
set_option linter.unusedVariables false
set_option linter.unusedSimpArgs false
set_option maxRecDepth 100000
namespace Lc
open Go
theorem take_at {α:Type}(d:α){l:List α}{i:Nat}(h:i<l.length):l.take (i+1)=l.take i++[l.getD i d]:=by
 rw[List.take_add_one,List.getD_eq_getElem?_getD,List.getElem?_eq_getElem h];rfl
structure OrdI (p:Par)(t u:Tre)(ws:List Nd):Prop where
 valid:validT p u=true
 img:∀i,i<u.1.length→∃j,j<t.1.length∧(u.1.getD i zn).1=(t.1.getD j zn).1∧(u.1.getD i zn).2.1=(t.1.getD j zn).2.1∧(u.1.getD i zn).2.2.2=(t.1.getD j zn).2.2.2∧atFn p u.1 i=atFn p t.1 j
 wait:∀w,w∈ws→∃j,0<j∧j<t.1.length∧w=t.1.getD j zn
 all:∀j,j<t.1.length→(∃i,i<u.1.length∧(u.1.getD i zn).2.1=(t.1.getD j zn).2.1)∨t.1.getD j zn∈ws
 apart:∀w,w∈ws→∀i,i<u.1.length→(u.1.getD i zn).2.1≠w.2.1
 once:ws.Pairwise (fun a b=>a.2.1≠b.2.1)
 len:u.1.length+ws.length=t.1.length
end Lc
