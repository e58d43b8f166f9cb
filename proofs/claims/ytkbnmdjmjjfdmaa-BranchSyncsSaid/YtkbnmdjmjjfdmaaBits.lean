/- Sums and differences of words with carry: the model's own entries as contracts. -/
import Derived.Test.YtkbnmdjmjjfdmaaTargets
import Derived.Laws.Externs
set_option linter.unusedVariables false
set_option linter.unusedSimpArgs false
namespace Lc
open Go
def addEntry :Array Value→Sem Value:=fun args=>do
 let (x,y,c)←Extern.MathBitsCarry.three "Add64" args
 pure (Extern.MathBitsCarry.pair ((x+y+c)%Extern.MathBitsCarry.m64) ((x+y+c)/Extern.MathBitsCarry.m64))
def subEntry :Array Value→Sem Value:=fun args=>do
 let (x,y,b)←Extern.MathBitsCarry.three "Sub64" args
 pure (Extern.MathBitsCarry.pair ((x+Extern.MathBitsCarry.m64-y-b)%Extern.MathBitsCarry.m64) (if x<y+b then 1 else 0))
theorem run_add {P:Program}(x y c:Nat)(hc:c≤1)(w:World):(addEntry #[.int .u64 x,.int .u64 y,.int .u64 c]).run P w=
 .ok (.tuple #[.int .u64 (((x+y+c)%18446744073709551616:Nat):Int),.int .u64 (((x+y+c)/18446744073709551616:Nat):Int)]) w:=by
 have:c=0∨c=1:=by omega
 rcases this with rfl|rfl<;>rfl
theorem run_sub {P:Program}(x y b:Nat)(hb:b≤1)(w:World):(subEntry #[.int .u64 x,.int .u64 y,.int .u64 b]).run P w=
 .ok (.tuple #[.int .u64 (((x+18446744073709551616-y-b)%18446744073709551616:Nat):Int),.int .u64 ((if x<y+b then 1 else 0:Nat):Int)]) w:=by
 have:b=0∨b=1:=by omega
 rcases this with rfl|rfl<;>rfl
theorem args3 {F:FH}{x:Tup [.int .u64,.int .u64,.int .u64]}{vs:List Value}(h:RepArgs F [.int .u64,.int .u64,.int .u64] x vs):vs=[.int .u64 x.1,.int .u64 x.2.1,.int .u64 x.2.2.1]:=by
 obtain⟨v,r,rfl,h1,v2,r2,rfl,h2,v3,r3,rfl,h3,rfl⟩:=h
 have e1:v= .int .u64 x.1:=by simpa[RepV,Rep,Ty.isAgg] using h1
 have e2:v2= .int .u64 x.2.1:=by simpa[RepV,Rep,Ty.isAgg] using h2
 have e3:v3= .int .u64 x.2.2.1:=by simpa[RepV,Rep,Ty.isAgg] using h3
 rw[e1,e2,e3]
theorem rep_u64 {F:FH}(x:Int):RepV F (.int .u64) x (.int .u64 x):=by simp[RepV,Rep,Ty.isAgg]
theorem add64E {P:Program}{f:FuncId}{fn:Func}(hf:P.funcs[f]? =some fn)(hname:(fn.name== "runtime.NumGoroutine")=false)(hb:fn.body.isNone=true)(hn:Extern.findNext fn=none)(he:Extern.find fn=some addEntry):
 SoundE P f {params:=[.int .u64,.int .u64,.int .u64],rets:=[.deep (.int .u64),.deep (.int .u64)],pre:=fun x=>Add64.pre x.1 x.2.1 x.2.2.1,fn:=fun x=>((Add64.fn x.1 x.2.1 x.2.2.1).1,((Add64.fn x.1 x.2.1 x.2.2.1).2,()))}:=by
 refine⟨fun F w xs vs ha hp=> ?_⟩
 obtain⟨h1,h2,h3,h4⟩:=hp
 have hv:=args3 ha
 subst hv
 obtain⟨x,hx,e1⟩:=W64.nat h1
 obtain⟨y,hy,e2⟩:=W64.nat h2
 obtain⟨c,e3⟩:=Int.eq_ofNat_of_zero_le h3
 have hr:=run_callFunc_extern hf hname hb hn he #[.int .u64 x,.int .u64 y,.int .u64 c] w
 rw[run_add x y c (by omega) w] at hr
 simp only[Add64.fn]
 rw[e1,e2,e3]
 refine⟨_,[.int .u64 _,.int .u64 _],hr,⟨_,_,rfl, ?_,_,_,rfl, ?_,rfl,rfl⟩,.inr ⟨by simp,rfl⟩⟩
 ·have:((x:Int)+(y:Int)+(c:Int))%18446744073709551616=(((x+y+c)%18446744073709551616:Nat):Int):=by omega
  rw[this];exact rep_u64 _
 ·have:((x:Int)+(y:Int)+(c:Int))/18446744073709551616=(((x+y+c)/18446744073709551616:Nat):Int):=by omega
  rw[this];exact rep_u64 _
theorem sub64E {P:Program}{f:FuncId}{fn:Func}(hf:P.funcs[f]? =some fn)(hname:(fn.name== "runtime.NumGoroutine")=false)(hb:fn.body.isNone=true)(hn:Extern.findNext fn=none)(he:Extern.find fn=some subEntry):
 SoundE P f {params:=[.int .u64,.int .u64,.int .u64],rets:=[.deep (.int .u64),.deep (.int .u64)],pre:=fun x=>Sub64.pre x.1 x.2.1 x.2.2.1,fn:=fun x=>((Sub64.fn x.1 x.2.1 x.2.2.1).1,((Sub64.fn x.1 x.2.1 x.2.2.1).2,()))}:=by
 refine⟨fun F w xs vs ha hp=> ?_⟩
 obtain⟨h1,h2,h3,h4⟩:=hp
 have hv:=args3 ha
 subst hv
 obtain⟨x,hx,e1⟩:=W64.nat h1
 obtain⟨y,hy,e2⟩:=W64.nat h2
 obtain⟨c,e3⟩:=Int.eq_ofNat_of_zero_le h3
 have hr:=run_callFunc_extern hf hname hb hn he #[.int .u64 x,.int .u64 y,.int .u64 c] w
 rw[run_sub x y c (by omega) w] at hr
 simp only[Sub64.fn]
 rw[e1,e2,e3]
 refine⟨_,[.int .u64 _,.int .u64 _],hr,⟨_,_,rfl, ?_,_,_,rfl, ?_,rfl,rfl⟩,.inr ⟨by simp,rfl⟩⟩
 ·have:((x:Int)-(y:Int)-(c:Int))%18446744073709551616=(((x+18446744073709551616-y-c)%18446744073709551616:Nat):Int):=by omega
  rw[this];exact rep_u64 _
 ·have:(if(x:Int)<(y:Int)+(c:Int) then(1:Int) else 0)=((if x<y+c then 1 else 0:Nat):Int):=by
   by_cases h:x<y+c
   ·rw[if_pos (by omega),if_pos h];rfl
   ·rw[if_neg (by omega),if_neg h];rfl
  rw[this];exact rep_u64 _
end Lc
