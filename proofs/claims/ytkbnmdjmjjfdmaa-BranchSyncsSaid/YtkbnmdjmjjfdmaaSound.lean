/- The ties of the functions of this seat to their conditions, and their contracts. -/
import Derived.Test.YtkbnmdjmjjfdmaaChecked
import Derived.Test.YtkbnmdjmjjfdmaaBrD
import Derived.Test.YtkbnmdjmjjfdmaaBits
import Derived.Test.YtkbnmdjmjjfdmaaRngs
set_option linter.unusedVariables false
set_option linter.unusedSimpArgs false
namespace Go.Proofs.Ytkbnmdjmjjfdmaa
open Go Lc
set_option maxRecDepth 1000000
abbrev Tq1 :Ty:= .pair (.int .u32) (.pair (.int .u32) (.unit))
abbrev Tq3 :Ty:= .pair (.arr 32 (.int .u8)) (.pair (.int .u32) (Tq1))
abbrev Tq5 :Ty:= .pair (.int .u32) (.pair (.arr 32 (.int .u8)) (Tq3))
abbrev Tq7 :Ty:= .pair (.int .i64) (.pair (.arr 32 (.int .u8)) (.unit))
abbrev Tq9 :Ty:= .pair (.int .i64) (.pair (.int .i64) (.unit))
abbrev Tq11 :Ty:= .pair (.slc (Tq7)) (.pair (.int .i64) (Tq9))
abbrev Tq13 :Ty:= .pair (.int .u32) (.pair (.int .u32) (Tq11))
abbrev Tq15 :Ty:= .pair (.int .i64) (.pair (.int .u32) (Tq13))
abbrev Tq17 :Ty:= .pair (Tq5) (.pair (.arr 4 (.int .u64)) (Tq15))
abbrev Tq19 :Ty:= .pair (.int .i64) (.pair (.arr 4 (.int .u64)) (.unit))
abbrev Tq21 :Ty:= .pair (.arr 32 (.int .u8)) (.pair (.int .i64) (Tq19))
abbrev Tq23 :Ty:= .pair (.slc (.pair (Tq5) (Tq21))) (.pair (.int .i64) (.unit))
abbrev Tq25 :Ty:= .pair (.int .u32) (.pair (.slc (.int .u32)) (.unit))
abbrev Tq27 :Ty:= .pair (.arr 32 (.int .u8)) (.pair (.int .u32) (Tq25))
noncomputable def tyT :List (Nat×Ty):=[(2,.int .i64),(3,.int .i64),(4,.bool),(5,.int .u8),(22,.slc (.int .u8)),(24,.int .u32),(26,.arr 32 (.int .u8)),(28,Tq5),(29,.int .u64),(31,.arr 4 (.int .u64)),(32,.slc (Tq7)),(34,Tq17),(36,.slc (.pair (Tq5) (Tq21))),(38,Tq23),(41,.slc (.arr 32 (.int .u8))),(43,.slc (.int .u32)),(45,.pair (.int .i64) (Tq27)),(46,.int .i64),(49,.slc (.int .i64)),(52,.pair (Tq5) (Tq21)),(57,.slc (Tq5)),(93,Tq7),(99,.map (.arr 32 (.int .u8)) (.int .i64)),(101,.slc (.pair (.int .i64) (Tq27))),(106,.int .u64),(119,.arr 8 (.int .u32)),(121,.arr 64 (.int .u8)),(125,.arr 8 (.int .u64)),(127,.slc (.int .u64)),(128,.arr 64 (.int .u32))]
noncomputable def byT :List (Nat×Nat):=[(22,1),(32,40),(36,160),(41,32),(43,4),(49,8),(57,80),(101,72),(127,8)]
theorem tabOk :tabB Try.prog tyT=true:=by kernel_rfl
theorem bytOk :bytB Try.prog byT tyT=true:=by kernel_rfl
noncomputable def glT :List (Nat×TV):=[]
noncomputable def gl :Nat→Option TV:=fun n=>Lc.look n glT
theorem follows :Try.prog.follows .mixedOrders=true:=by kernel_rfl
noncomputable def mutT :List (Nat×Mut):=[]
theorem mutOk :∀f m,Lc.look f mutT=some m→SoundM Try.prog f m:=by
 intro f m h
 have h:=look_mem h
 simp only[mutT,List.mem_cons,List.not_mem_nil,or_false,Prod.mk.injEq] at h
noncomputable def growT :List (Nat×Ty):=[]
theorem growOk :∀f u,Lc.look f growT=some u→SoundG Try.prog f u:=by
 intro f u h
 cases h
structure Tb where
 cs:List (Nat×Con)
 pt:List (Nat×ConP)
def Tb.Ok (t:Tb):Prop:=SoundAll Try.prog gl t.cs∧SoundPAll Try.prog gl t.pt
noncomputable def env0 (t:Tb)(wr:List Nat)(ntm:Nat)(lock:List Nat):Env:={P:=Try.prog,ty:=fun n=>Lc.look n tyT,bytes:=fun n=>(Lc.look n byT).getD 0,glob:=gl,con:=fun f=>Lc.look f t.cs,wr:=wr,ntm:=ntm,lock:=lock,turn:=fun f=>Lc.look f mutT,grow:=fun f=>Lc.look f growT,ptr:=fun f=>Lc.look f t.pt}
theorem fnS {t:Tb}(ht:t.Ok){wr:List Nat}{ntm:Nat}{lock:List Nat}{f:FuncId}{fn:Func}{c:Con}{N:Tup c.params→Notes}(hf:Try.prog.funcs[f]? =some fn)
 (hk:(!(fn.name== "runtime.NumGoroutine")&&(fn.body.isSome&&(Nat.beq ntm fn.ntmps&&Nat.ble c.params.length fn.ntmps)))=true) (h:fnVC (env0 t wr ntm lock) c N (fn.body.getD .skip) fn.results.toList):Sound Try.prog gl f c:=by
 simp only[Bool.and_eq_true,Bool.not_eq_true'] at hk
 obtain⟨h1,h2,h3,h4⟩:=hk
 have hb:fn.body=some (fn.body.getD .skip):=by cases hq:fn.body with|none=>rw[hq] at h2;cases h2|some b=>rfl
 exact fn_sound (E:=env0 t wr ntm lock) (c:=c) (ok_of (envOk_of (E:=env0 t wr ntm lock) rfl rfl tabOk bytOk mutOk growOk) rfl ht.1 (ptr_of ht.2)) follows hf h1 hb (Nat.eq_of_beq_eq_true h3) (Nat.le_of_ble_eq_true h4) h
theorem fnQ {t:Tb}(ht:t.Ok){wr:List Nat}{ntm:Nat}{f:FuncId}{fn:Func}{c:ConP}{N:c.t.den→Tup c.params→Notes}(hf:Try.prog.funcs[f]? =some fn)
 (hk:(!(fn.name== "runtime.NumGoroutine")&&(fn.body.isSome&&(Nat.beq ntm fn.ntmps&&(Nat.ble (c.params.length+1) fn.ntmps&&(nodupB (0::c.ps.map (·.2.2))&&c.rets.all RK.plain)))))=true) (h:fnVCP (env0 t wr ntm [0]) c N (fn.body.getD .skip) fn.results.toList):SoundP Try.prog gl f c:=by
 simp only[Bool.and_eq_true,Bool.not_eq_true'] at hk
 obtain⟨h1,h2,h3,h4,h5,h6⟩:=hk
 have hb:fn.body=some (fn.body.getD .skip):=by cases hq:fn.body with|none=>rw[hq] at h2;cases h2|some b=>rfl
 exact fnP_sound (E:=env0 t wr ntm [0]) (c:=c) (ok_of (envOk_of (E:=env0 t wr ntm [0]) rfl rfl tabOk bytOk mutOk growOk) rfl ht.1 (ptr_of ht.2)) follows hf h1 hb (Nat.eq_of_beq_eq_true h3) (Nat.le_of_ble_eq_true h4) (List.mem_singleton.2 rfl) h5 h6 h
noncomputable def tb0 :Tb:=⟨[],[]⟩
theorem al0 :tb0.Ok:=⟨SoundAll.nil,SoundPAll.nil⟩
noncomputable def conRotL :Con:={params:=[.int .u32,.int .i64],rets:=[.deep (.int .u32)],pre:=fun x=>RotL.pre x.1 x.2.1,fn:=fun x=>(RotL.fn x.1 x.2.1,())}
noncomputable def NRotL :Tup conRotL.params→Notes:=fun _=>{loops:=fun n=>Lc.look n [],cuts:=fun n=>Lc.look n [],frz:=fun _=>[]}
theorem tieRotL :fnVC (env0 tb0 [] 17 []) conRotL NRotL (Try.f73.body.getD .skip) Try.f73.results.toList=RotL.VC:=by kernel_rfl
theorem okRotL :Sound Try.prog gl 73 conRotL:=fnS al0 Try.func73 (by kernel_rfl) (Eq.mpr tieRotL RotL.vc)
noncomputable def tb1 :Tb:=⟨(73,conRotL)::tb0.cs,tb0.pt⟩
theorem al1 :tb1.Ok:=⟨SoundAll.cons al0.1 okRotL,al0.2⟩
noncomputable def conRefRotr :Con:={params:=[.int .u32,.int .i64],rets:=[.deep (.int .u32)],pre:=fun x=>RefRotr.pre x.1 x.2.1,fn:=fun x=>(RefRotr.fn x.1 x.2.1,())}
noncomputable def NRefRotr :Tup conRefRotr.params→Notes:=fun _=>{loops:=fun n=>Lc.look n [],cuts:=fun n=>Lc.look n [],frz:=fun _=>[]}
theorem tieRefRotr :fnVC (env0 tb1 [] 9 []) conRefRotr NRefRotr (Try.f71.body.getD .skip) Try.f71.results.toList=RefRotr.VC:=by kernel_rfl
theorem okRefRotr :Sound Try.prog gl 71 conRefRotr:=fnS al1 Try.func71 (by kernel_rfl) (Eq.mpr tieRefRotr RefRotr.vc)
noncomputable def tb2 :Tb:=⟨(71,conRefRotr)::tb1.cs,tb1.pt⟩
theorem al2 :tb2.Ok:=⟨SoundAll.cons al1.1 okRefRotr,al1.2⟩
noncomputable def conRefConsts :Con:={params:=[],rets:=[.deep (.arr 64 (.int .u32))],pre:=fun _=>RefConsts.pre,fn:=fun _=>(RefConsts.fn,())}
noncomputable def NRefConsts :Tup conRefConsts.params→Notes:=fun _=>{loops:=fun n=>Lc.look n [],cuts:=fun n=>Lc.look n [],frz:=fun _=>[]}
theorem tieRefConsts :fnVC (env0 tb2 [] 2 []) conRefConsts NRefConsts (Try.f70.body.getD .skip) Try.f70.results.toList=RefConsts.VC:=by kernel_rfl
theorem okRefConsts :Sound Try.prog gl 70 conRefConsts:=fnS al2 Try.func70 (by kernel_rfl) (Eq.mpr tieRefConsts RefConsts.vc)
noncomputable def tb3 :Tb:=⟨(70,conRefConsts)::tb2.cs,tb2.pt⟩
theorem al3 :tb3.Ok:=⟨SoundAll.cons al2.1 okRefConsts,al2.2⟩
noncomputable def conRefInitial :Con:={params:=[],rets:=[.deep (.arr 8 (.int .u32))],pre:=fun _=>RefInitial.pre,fn:=fun _=>(RefInitial.fn,())}
noncomputable def NRefInitial :Tup conRefInitial.params→Notes:=fun _=>{loops:=fun n=>Lc.look n [],cuts:=fun n=>Lc.look n [],frz:=fun _=>[]}
theorem tieRefInitial :fnVC (env0 tb3 [] 2 []) conRefInitial NRefInitial (Try.f63.body.getD .skip) Try.f63.results.toList=RefInitial.VC:=by kernel_rfl
theorem okRefInitial :Sound Try.prog gl 63 conRefInitial:=fnS al3 Try.func63 (by kernel_rfl) (Eq.mpr tieRefInitial RefInitial.vc)
noncomputable def tb4 :Tb:=⟨(63,conRefInitial)::tb3.cs,tb3.pt⟩
theorem al4 :tb4.Ok:=⟨SoundAll.cons al3.1 okRefInitial,al3.2⟩
noncomputable def conRefSched :Con:={params:=[.arr 64 (.int .u8)],rets:=[.deep (.arr 64 (.int .u32))],pre:=fun x=>RefSched.pre x.1,fn:=fun x=>(RefSched.fn x.1,())}
noncomputable def NRefSched :Tup conRefSched.params→Notes:=fun x=>{loops:=fun n=>Lc.look n [(3,{see:=[],ann:=fun _=>{frz:=[1],keep:=[1],vars:=[(2,.ptr (.arr 64 (.int .u32))),(3,.ptr (.arr 64 (.int .u32))),(4,.val (.int .i64))],inv:=RefSched.inv3 x.1,mes:=RefSched.mes3 x.1}}),(7,{see:=[],ann:=fun _=>{frz:=[],keep:=[],vars:=[(2,.ptr (.arr 64 (.int .u32))),(3,.ptr (.arr 64 (.int .u32))),(5,.val (.int .i64))],inv:=RefSched.inv7 x.1,mes:=RefSched.mes7 x.1}})],cuts:=fun n=>Lc.look n [],frz:=fun _=>[]}
theorem tieRefSched :fnVC (env0 tb4 [] 97 []) conRefSched NRefSched (Try.f69.body.getD .skip) Try.f69.results.toList=RefSched.VC:=by kernel_rfl
theorem okRefSched :Sound Try.prog gl 69 conRefSched:=fnS al4 Try.func69 (by kernel_rfl) (Eq.mpr tieRefSched RefSched.vc)
noncomputable def tb5 :Tb:=⟨(69,conRefSched)::tb4.cs,tb4.pt⟩
theorem al5 :tb5.Ok:=⟨SoundAll.cons al4.1 okRefSched,al4.2⟩
noncomputable def conRefCompress :Con:={params:=[.arr 8 (.int .u32),.arr 64 (.int .u8)],rets:=[.deep (.arr 8 (.int .u32))],pre:=fun x=>RefCompress.pre x.1 x.2.1,fn:=fun x=>(RefCompress.fn x.1 x.2.1,())}
noncomputable def NRefCompress :Tup conRefCompress.params→Notes:=fun x=>{loops:=fun n=>Lc.look n [(4,{see:=[],ann:=fun _=>{frz:=[2],keep:=[2],vars:=[(4,.ptr (.arr 8 (.int .u32))),(5,.ptr (.arr 64 (.int .u32))),(6,.ptr (.arr 64 (.int .u32))),(7,.val (.int .u32)),(8,.val (.int .u32)),(9,.val (.int .u32)),(10,.val (.int .u32)),(11,.val (.int .u32)),(12,.val (.int .u32)),(13,.val (.int .u32)),(14,.val (.int .u32)),(15,.val (.int .i64))],inv:=RefCompress.inv4 x.1 x.2.1,mes:=RefCompress.mes4 x.1 x.2.1}})],cuts:=fun n=>Lc.look n [],frz:=fun _=>[]}
theorem tieRefCompress :fnVC (env0 tb5 [] 133 []) conRefCompress NRefCompress (Try.f64.body.getD .skip) Try.f64.results.toList=RefCompress.VC:=by kernel_rfl
theorem okRefCompress :Sound Try.prog gl 64 conRefCompress:=fnS al5 Try.func64 (by kernel_rfl) (Eq.mpr tieRefCompress RefCompress.vc)
noncomputable def tb6 :Tb:=⟨(64,conRefCompress)::tb5.cs,tb5.pt⟩
theorem al6 :tb6.Ok:=⟨SoundAll.cons al5.1 okRefCompress,al5.2⟩
noncomputable def conRefPad :Con:={params:=[.int .u64],rets:=[.own (.int .u8)],pre:=fun x=>RefPad.pre x.1,fn:=fun x=>(RefPad.fn x.1,())}
noncomputable def NRefPad :Tup conRefPad.params→Notes:=fun x=>{loops:=fun n=>Lc.look n [(2,{see:=[],ann:=fun _=>{frz:=[],keep:=[0],vars:=[(3,.own (.int .u8) true)],inv:=RefPad.inv2 x.1,mes:=RefPad.mes2 x.1}}),(5,{see:=[],ann:=fun _=>{frz:=[],keep:=[0],vars:=[(3,.own (.int .u8) true),(4,.val (.int .i64))],inv:=RefPad.inv5 x.1,mes:=RefPad.mes5 x.1}})],cuts:=fun n=>Lc.look n [],frz:=fun _=>[]}
theorem tieRefPad :fnVC (env0 tb6 [] 31 []) conRefPad NRefPad (Try.f62.body.getD .skip) Try.f62.results.toList=RefPad.VC:=by kernel_rfl
theorem okRefPad :Sound Try.prog gl 62 conRefPad:=fnS al6 Try.func62 (by kernel_rfl) (Eq.mpr tieRefPad RefPad.vc)
noncomputable def tb7 :Tb:=⟨(62,conRefPad)::tb6.cs,tb6.pt⟩
theorem al7 :tb7.Ok:=⟨SoundAll.cons al6.1 okRefPad,al6.2⟩
noncomputable def conRefSum :Con:={params:=[.slc (.int .u8)],rets:=[.deep (.arr 32 (.int .u8))],pre:=fun x=>RefSum.pre x.1,fn:=fun x=>(RefSum.fn x.1,())}
noncomputable def NRefSum :Tup conRefSum.params→Notes:=fun x=>{loops:=fun n=>Lc.look n [(4,{see:=[],ann:=fun _=>{frz:=[],keep:=[3],vars:=[(2,.ptr (.arr 32 (.int .u8))),(4,.ptr (.arr 8 (.int .u32))),(5,.val (.int .i64))],inv:=RefSum.inv4 x.1,mes:=RefSum.mes4 x.1}}),(11,{see:=[(33,.val (.arr 8 (.int .u32)))],ann:=fun y=>{frz:=[],keep:=[33],vars:=[(2,.ptr (.arr 32 (.int .u8))),(7,.ptr (.arr 32 (.int .u8))),(34,.val (.int .i64))],inv:=RefSum.inv11 x.1 y.1,mes:=RefSum.mes11 x.1 y.1}})],cuts:=fun n=>Lc.look n [],frz:=fun _=>[]}
theorem tieRefSum :fnVC (env0 tb7 [] 66 []) conRefSum NRefSum (Try.f55.body.getD .skip) Try.f55.results.toList=RefSum.VC:=by kernel_rfl
theorem okRefSum :Sound Try.prog gl 55 conRefSum:=fnS al7 Try.func55 (by kernel_rfl) (Eq.mpr tieRefSum RefSum.vc)
noncomputable def tb8 :Tb:=⟨(55,conRefSum)::tb7.cs,tb7.pt⟩
theorem al8 :tb8.Ok:=⟨SoundAll.cons al7.1 okRefSum,al7.2⟩
noncomputable def conRefDouble :Con:={params:=[.slc (.int .u8)],rets:=[.deep (.arr 32 (.int .u8))],pre:=fun x=>RefDouble.pre x.1,fn:=fun x=>(RefDouble.fn x.1,())}
noncomputable def NRefDouble :Tup conRefDouble.params→Notes:=fun _=>{loops:=fun n=>Lc.look n [],cuts:=fun n=>Lc.look n [],frz:=fun _=>[]}
theorem tieRefDouble :fnVC (env0 tb8 [] 8 []) conRefDouble NRefDouble (Try.f46.body.getD .skip) Try.f46.results.toList=RefDouble.VC:=by kernel_rfl
theorem okRefDouble :Sound Try.prog gl 46 conRefDouble:=fnS al8 Try.func46 (by kernel_rfl) (Eq.mpr tieRefDouble RefDouble.vc)
noncomputable def tb9 :Tb:=⟨(46,conRefDouble)::tb8.cs,tb8.pt⟩
theorem al9 :tb9.Ok:=⟨SoundAll.cons al8.1 okRefDouble,al8.2⟩
noncomputable def conAdd64 :Con:={params:=[.int .u64,.int .u64,.int .u64],rets:=[.deep (.int .u64),.deep (.int .u64)],pre:=fun x=>Add64.pre x.1 x.2.1 x.2.2.1,fn:=fun x=>((Add64.fn x.1 x.2.1 x.2.2.1).1,((Add64.fn x.1 x.2.1 x.2.2.1).2,()))}
theorem okAdd64 :SoundE Try.prog 59 conAdd64:=add64E (fn:=Try.f59) (by kernel_rfl) (by kernel_rfl) (by kernel_rfl) (by kernel_rfl) (by kernel_rfl)
noncomputable def tb10 :Tb:=⟨(59,conAdd64)::tb9.cs,tb9.pt⟩
theorem al10 :tb10.Ok:=⟨SoundAll.consE al9.1 okAdd64,al9.2⟩
noncomputable def conSub64 :Con:={params:=[.int .u64,.int .u64,.int .u64],rets:=[.deep (.int .u64),.deep (.int .u64)],pre:=fun x=>Sub64.pre x.1 x.2.1 x.2.2.1,fn:=fun x=>((Sub64.fn x.1 x.2.1 x.2.2.1).1,((Sub64.fn x.1 x.2.1 x.2.2.1).2,()))}
theorem okSub64 :SoundE Try.prog 72 conSub64:=sub64E (fn:=Try.f72) (by kernel_rfl) (by kernel_rfl) (by kernel_rfl) (by kernel_rfl) (by kernel_rfl)
noncomputable def tb11 :Tb:=⟨(72,conSub64)::tb10.cs,tb10.pt⟩
theorem al11 :tb11.Ok:=⟨SoundAll.consE al10.1 okSub64,al10.2⟩
noncomputable def conMul64 :Con:={params:=[.int .u64,.int .u64],rets:=[.deep (.int .u64),.deep (.int .u64)],pre:=fun x=>Mul64.pre x.1 x.2.1,fn:=fun x=>((Mul64.fn x.1 x.2.1).1,((Mul64.fn x.1 x.2.1).2,()))}
noncomputable def NMul64 :Tup conMul64.params→Notes:=fun _=>{loops:=fun n=>Lc.look n [],cuts:=fun n=>Lc.look n [],frz:=fun _=>[]}
theorem tieMul64 :fnVC (env0 tb11 [] 51 []) conMul64 NMul64 (Try.f68.body.getD .skip) Try.f68.results.toList=Mul64.VC:=by kernel_rfl
theorem okMul64 :Sound Try.prog gl 68 conMul64:=fnS al11 Try.func68 (by kernel_rfl) (Eq.mpr tieMul64 Mul64.vc)
noncomputable def tb12 :Tb:=⟨(68,conMul64)::tb11.cs,tb11.pt⟩
theorem al12 :tb12.Ok:=⟨SoundAll.cons al11.1 okMul64,al11.2⟩
noncomputable def conQFromUint :Con:={params:=[.int .u64],rets:=[.deep (.arr 4 (.int .u64))],pre:=fun x=>QFromUint.pre x.1,fn:=fun x=>(QFromUint.fn x.1,())}
noncomputable def NQFromUint :Tup conQFromUint.params→Notes:=fun _=>{loops:=fun n=>Lc.look n [],cuts:=fun n=>Lc.look n [],frz:=fun _=>[]}
theorem tieQFromUint :fnVC (env0 tb12 [] 5 []) conQFromUint NQFromUint (Try.f52.body.getD .skip) Try.f52.results.toList=QFromUint.VC:=by kernel_rfl
theorem okQFromUint :Sound Try.prog gl 52 conQFromUint:=fnS al12 Try.func52 (by kernel_rfl) (Eq.mpr tieQFromUint QFromUint.vc)
noncomputable def tb13 :Tb:=⟨(52,conQFromUint)::tb12.cs,tb12.pt⟩
theorem al13 :tb13.Ok:=⟨SoundAll.cons al12.1 okQFromUint,al12.2⟩
noncomputable def conQCmp :Con:={params:=[.arr 4 (.int .u64),.arr 4 (.int .u64)],rets:=[.deep (.int .i64)],pre:=fun x=>QCmp.pre x.1 x.2.1,fn:=fun x=>(QCmp.fn x.1 x.2.1,())}
noncomputable def NQCmp :Tup conQCmp.params→Notes:=fun x=>{loops:=fun n=>Lc.look n [(2,{see:=[],ann:=fun _=>{frz:=[2,3],keep:=[2,3],vars:=[(5,.val (.int .i64))],inv:=QCmp.inv2 x.1 x.2.1,mes:=QCmp.mes2 x.1 x.2.1}})],cuts:=fun n=>Lc.look n [],frz:=fun _=>[]}
theorem tieQCmp :fnVC (env0 tb13 [] 24 []) conQCmp NQCmp (Try.f45.body.getD .skip) Try.f45.results.toList=QCmp.VC:=by kernel_rfl
theorem okQCmp :Sound Try.prog gl 45 conQCmp:=fnS al13 Try.func45 (by kernel_rfl) (Eq.mpr tieQCmp QCmp.vc)
noncomputable def tb14 :Tb:=⟨(45,conQCmp)::tb13.cs,tb13.pt⟩
theorem al14 :tb14.Ok:=⟨SoundAll.cons al13.1 okQCmp,al13.2⟩
noncomputable def conQBit :Con:={params:=[.arr 4 (.int .u64),.int .i64],rets:=[.deep (.bool)],pre:=fun x=>QBit.pre x.1 x.2.1,fn:=fun x=>(QBit.fn x.1 x.2.1,())}
noncomputable def NQBit :Tup conQBit.params→Notes:=fun _=>{loops:=fun n=>Lc.look n [],cuts:=fun n=>Lc.look n [],frz:=fun _=>[]}
theorem tieQBit :fnVC (env0 tb14 [] 14 []) conQBit NQBit (Try.f33.body.getD .skip) Try.f33.results.toList=QBit.VC:=by kernel_rfl
theorem okQBit :Sound Try.prog gl 33 conQBit:=fnS al14 Try.func33 (by kernel_rfl) (Eq.mpr tieQBit QBit.vc)
noncomputable def tb15 :Tb:=⟨(33,conQBit)::tb14.cs,tb14.pt⟩
theorem al15 :tb15.Ok:=⟨SoundAll.cons al14.1 okQBit,al14.2⟩
noncomputable def conQLen :Con:={params:=[.arr 4 (.int .u64)],rets:=[.deep (.int .i64)],pre:=fun x=>QLen.pre x.1,fn:=fun x=>(QLen.fn x.1,())}
noncomputable def NQLen :Tup conQLen.params→Notes:=fun x=>{loops:=fun n=>Lc.look n [(2,{see:=[],ann:=fun _=>{frz:=[1],keep:=[1],vars:=[(3,.val (.int .i64))],inv:=QLen.inv2 x.1,mes:=QLen.mes2 x.1}})],cuts:=fun n=>Lc.look n [],frz:=fun _=>[]}
theorem tieQLen :fnVC (env0 tb15 [] 13 []) conQLen NQLen (Try.f53.body.getD .skip) Try.f53.results.toList=QLen.VC:=by kernel_rfl
theorem okQLen :Sound Try.prog gl 53 conQLen:=fnS al15 Try.func53 (by kernel_rfl) (Eq.mpr tieQLen QLen.vc)
noncomputable def tb16 :Tb:=⟨(53,conQLen)::tb15.cs,tb15.pt⟩
theorem al16 :tb16.Ok:=⟨SoundAll.cons al15.1 okQLen,al15.2⟩
noncomputable def conQAdd :Con:={params:=[.arr 4 (.int .u64),.arr 4 (.int .u64)],rets:=[.deep (.arr 4 (.int .u64)),.deep (.bool)],pre:=fun x=>QAdd.pre x.1 x.2.1,fn:=fun x=>((QAdd.fn x.1 x.2.1).1,((QAdd.fn x.1 x.2.1).2,()))}
noncomputable def NQAdd :Tup conQAdd.params→Notes:=fun x=>{loops:=fun n=>Lc.look n [(4,{see:=[],ann:=fun _=>{frz:=[2,3],keep:=[2,3],vars:=[(4,.ptr (.arr 4 (.int .u64))),(6,.ptr (.arr 4 (.int .u64))),(7,.val (.int .u64)),(9,.val (.int .i64))],inv:=QAdd.inv4 x.1 x.2.1,mes:=QAdd.mes4 x.1 x.2.1}})],cuts:=fun n=>Lc.look n [],frz:=fun _=>[]}
theorem tieQAdd :fnVC (env0 tb16 [] 29 []) conQAdd NQAdd (Try.f49.body.getD .skip) Try.f49.results.toList=QAdd.VC:=by kernel_rfl
theorem okQAdd :Sound Try.prog gl 49 conQAdd:=fnS al16 Try.func49 (by kernel_rfl) (Eq.mpr tieQAdd QAdd.vc)
noncomputable def tb17 :Tb:=⟨(49,conQAdd)::tb16.cs,tb16.pt⟩
theorem al17 :tb17.Ok:=⟨SoundAll.cons al16.1 okQAdd,al16.2⟩
noncomputable def conQSub :Con:={params:=[.arr 4 (.int .u64),.arr 4 (.int .u64)],rets:=[.deep (.arr 4 (.int .u64)),.deep (.bool)],pre:=fun x=>QSub.pre x.1 x.2.1,fn:=fun x=>((QSub.fn x.1 x.2.1).1,((QSub.fn x.1 x.2.1).2,()))}
noncomputable def NQSub :Tup conQSub.params→Notes:=fun x=>{loops:=fun n=>Lc.look n [(4,{see:=[],ann:=fun _=>{frz:=[2,3],keep:=[2,3],vars:=[(4,.ptr (.arr 4 (.int .u64))),(6,.ptr (.arr 4 (.int .u64))),(7,.val (.int .u64)),(9,.val (.int .i64))],inv:=QSub.inv4 x.1 x.2.1,mes:=QSub.mes4 x.1 x.2.1}})],cuts:=fun n=>Lc.look n [],frz:=fun _=>[]}
theorem tieQSub :fnVC (env0 tb17 [] 29 []) conQSub NQSub (Try.f67.body.getD .skip) Try.f67.results.toList=QSub.VC:=by kernel_rfl
theorem okQSub :Sound Try.prog gl 67 conQSub:=fnS al17 Try.func67 (by kernel_rfl) (Eq.mpr tieQSub QSub.vc)
noncomputable def tb18 :Tb:=⟨(67,conQSub)::tb17.cs,tb17.pt⟩
theorem al18 :tb18.Ok:=⟨SoundAll.cons al17.1 okQSub,al17.2⟩
noncomputable def conQMul :Con:={params:=[.arr 4 (.int .u64),.arr 4 (.int .u64)],rets:=[.deep (.arr 4 (.int .u64)),.deep (.arr 4 (.int .u64))],pre:=fun x=>QMul.pre x.1 x.2.1,fn:=fun x=>((QMul.fn x.1 x.2.1).1,((QMul.fn x.1 x.2.1).2,()))}
noncomputable def NQMul :Tup conQMul.params→Notes:=fun x=>{loops:=fun n=>Lc.look n [(3,{see:=[],ann:=fun _=>{frz:=[2,3],keep:=[2,3],vars:=[(4,.ptr (.arr 4 (.int .u64))),(5,.ptr (.arr 4 (.int .u64))),(6,.ptr (.arr 8 (.int .u64))),(15,.val (.int .i64))],inv:=QMul.inv3 x.1 x.2.1,mes:=QMul.mes3 x.1 x.2.1}}),(7,{see:=[(7,.val (.int .i64))],ann:=fun y=>{frz:=[],keep:=[2,3,7,15],vars:=[(4,.ptr (.arr 4 (.int .u64))),(5,.ptr (.arr 4 (.int .u64))),(6,.ptr (.arr 8 (.int .u64))),(8,.val (.int .u64)),(18,.val (.int .i64))],inv:=QMul.inv7 x.1 x.2.1 y.1,mes:=QMul.mes7 x.1 x.2.1 y.1}})],cuts:=fun n=>Lc.look n [],frz:=fun _=>[]}
theorem tieQMul :fnVC (env0 tb18 [] 71 []) conQMul NQMul (Try.f60.body.getD .skip) Try.f60.results.toList=QMul.VC:=by kernel_rfl
theorem okQMul :Sound Try.prog gl 60 conQMul:=fnS al18 Try.func60 (by kernel_rfl) (Eq.mpr tieQMul QMul.vc)
noncomputable def tb19 :Tb:=⟨(60,conQMul)::tb18.cs,tb18.pt⟩
theorem al19 :tb19.Ok:=⟨SoundAll.cons al18.1 okQMul,al18.2⟩
noncomputable def conQDiv :Con:={params:=[.arr 4 (.int .u64),.arr 4 (.int .u64),.arr 4 (.int .u64)],rets:=[.deep (.arr 4 (.int .u64)),.deep (.arr 4 (.int .u64)),.deep (.bool)],pre:=fun x=>QDiv.pre x.1 x.2.1 x.2.2.1,fn:=fun x=>((QDiv.fn x.1 x.2.1 x.2.2.1).1,((QDiv.fn x.1 x.2.1 x.2.2.1).2.1,((QDiv.fn x.1 x.2.1 x.2.2.1).2.2,())))}
noncomputable def NQDiv :Tup conQDiv.params→Notes:=fun x=>{loops:=fun n=>Lc.look n [(5,{see:=[],ann:=fun _=>{frz:=[4,5],keep:=[4,5],vars:=[(6,.ptr (.arr 4 (.int .u64))),(7,.ptr (.arr 4 (.int .u64))),(9,.val (.int .i64))],inv:=QDiv.inv5 x.1 x.2.1 x.2.2.1,mes:=QDiv.mes5 x.1 x.2.1 x.2.2.1}})],cuts:=fun n=>Lc.look n [],frz:=fun _=>[]}
theorem tieQDiv :fnVC (env0 tb19 [] 61 []) conQDiv NQDiv (Try.f58.body.getD .skip) Try.f58.results.toList=QDiv.VC:=by kernel_rfl
theorem okQDiv :Sound Try.prog gl 58 conQDiv:=fnS al19 Try.func58 (by kernel_rfl) (Eq.mpr tieQDiv QDiv.vc)
noncomputable def tb20 :Tb:=⟨(58,conQDiv)::tb19.cs,tb19.pt⟩
theorem al20 :tb20.Ok:=⟨SoundAll.cons al19.1 okQDiv,al19.2⟩
noncomputable def conQShl :Con:={params:=[.arr 4 (.int .u64),.int .i64],rets:=[.deep (.arr 4 (.int .u64))],pre:=fun x=>QShl.pre x.1 x.2.1,fn:=fun x=>(QShl.fn x.1 x.2.1,())}
noncomputable def NQShl :Tup conQShl.params→Notes:=fun x=>{loops:=fun n=>Lc.look n [(3,{see:=[],ann:=fun _=>{frz:=[],keep:=[],vars:=[(1,.val (.int .i64)),(2,.ptr (.arr 4 (.int .u64))),(4,.ptr (.arr 4 (.int .u64)))],inv:=QShl.inv3 x.1 x.2.1,mes:=QShl.mes3 x.1 x.2.1}})],cuts:=fun n=>Lc.look n [],frz:=fun _=>[]}
theorem tieQShl :fnVC (env0 tb20 [] 19 []) conQShl NQShl (Try.f54.body.getD .skip) Try.f54.results.toList=QShl.VC:=by kernel_rfl
theorem okQShl :Sound Try.prog gl 54 conQShl:=fnS al20 Try.func54 (by kernel_rfl) (Eq.mpr tieQShl QShl.vc)
noncomputable def tb21 :Tb:=⟨(54,conQShl)::tb20.cs,tb20.pt⟩
theorem al21 :tb21.Ok:=⟨SoundAll.cons al20.1 okQShl,al20.2⟩
noncomputable def conQShr :Con:={params:=[.arr 4 (.int .u64),.int .i64],rets:=[.deep (.arr 4 (.int .u64))],pre:=fun x=>QShr.pre x.1 x.2.1,fn:=fun x=>(QShr.fn x.1 x.2.1,())}
noncomputable def NQShr :Tup conQShr.params→Notes:=fun x=>{loops:=fun n=>Lc.look n [(7,{see:=[],ann:=fun _=>{frz:=[2],keep:=[1,2],vars:=[(4,.ptr (.arr 4 (.int .u64))),(5,.ptr (.arr 4 (.int .u64))),(6,.val (.int .i64))],inv:=QShr.inv7 x.1 x.2.1,mes:=QShr.mes7 x.1 x.2.1}})],cuts:=fun n=>Lc.look n [],frz:=fun _=>[]}
theorem tieQShr :fnVC (env0 tb21 [] 34 []) conQShr NQShr (Try.f17.body.getD .skip) Try.f17.results.toList=QShr.VC:=by kernel_rfl
theorem okQShr :Sound Try.prog gl 17 conQShr:=fnS al21 Try.func17 (by kernel_rfl) (Eq.mpr tieQShr QShr.vc)
noncomputable def tb22 :Tb:=⟨(17,conQShr)::tb21.cs,tb21.pt⟩
theorem al22 :tb22.Ok:=⟨SoundAll.cons al21.1 okQShr,al21.2⟩
noncomputable def conQNot :Con:={params:=[.arr 4 (.int .u64)],rets:=[.deep (.arr 4 (.int .u64))],pre:=fun x=>QNot.pre x.1,fn:=fun x=>(QNot.fn x.1,())}
noncomputable def NQNot :Tup conQNot.params→Notes:=fun _=>{loops:=fun n=>Lc.look n [],cuts:=fun n=>Lc.look n [],frz:=fun _=>[]}
theorem tieQNot :fnVC (env0 tb22 [] 16 []) conQNot NQNot (Try.f18.body.getD .skip) Try.f18.results.toList=QNot.VC:=by kernel_rfl
theorem okQNot :Sound Try.prog gl 18 conQNot:=fnS al22 Try.func18 (by kernel_rfl) (Eq.mpr tieQNot QNot.vc)
noncomputable def tb23 :Tb:=⟨(18,conQNot)::tb22.cs,tb22.pt⟩
theorem al23 :tb23.Ok:=⟨SoundAll.cons al22.1 okQNot,al22.2⟩
noncomputable def conQZero :Con:={params:=[.arr 4 (.int .u64)],rets:=[.deep (.bool)],pre:=fun x=>QZero.pre x.1,fn:=fun x=>(QZero.fn x.1,())}
noncomputable def NQZero :Tup conQZero.params→Notes:=fun _=>{loops:=fun n=>Lc.look n [],cuts:=fun n=>Lc.look n [],frz:=fun _=>[]}
theorem tieQZero :fnVC (env0 tb23 [] 6 []) conQZero NQZero (Try.f43.body.getD .skip) Try.f43.results.toList=QZero.VC:=by kernel_rfl
theorem okQZero :Sound Try.prog gl 43 conQZero:=fnS al23 Try.func43 (by kernel_rfl) (Eq.mpr tieQZero QZero.vc)
noncomputable def tb24 :Tb:=⟨(43,conQZero)::tb23.cs,tb23.pt⟩
theorem al24 :tb24.Ok:=⟨SoundAll.cons al23.1 okQZero,al23.2⟩
noncomputable def conQBytes :Con:={params:=[.arr 32 (.int .u8)],rets:=[.deep (.arr 4 (.int .u64))],pre:=fun x=>QBytes.pre x.1,fn:=fun x=>(QBytes.fn x.1,())}
noncomputable def NQBytes :Tup conQBytes.params→Notes:=fun x=>{loops:=fun n=>Lc.look n [(3,{see:=[],ann:=fun _=>{frz:=[1],keep:=[1],vars:=[(2,.ptr (.arr 4 (.int .u64))),(3,.ptr (.arr 4 (.int .u64))),(6,.val (.int .i64))],inv:=QBytes.inv3 x.1,mes:=QBytes.mes3 x.1}})],cuts:=fun n=>Lc.look n [],frz:=fun _=>[]}
theorem tieQBytes :fnVC (env0 tb24 [] 27 []) conQBytes NQBytes (Try.f51.body.getD .skip) Try.f51.results.toList=QBytes.VC:=by kernel_rfl
theorem okQBytes :Sound Try.prog gl 51 conQBytes:=fnS al24 Try.func51 (by kernel_rfl) (Eq.mpr tieQBytes QBytes.vc)
noncomputable def tb25 :Tb:=⟨(51,conQBytes)::tb24.cs,tb24.pt⟩
theorem al25 :tb25.Ok:=⟨SoundAll.cons al24.1 okQBytes,al24.2⟩
noncomputable def conQExpand :Con:={params:=[.int .u32],rets:=[.deep (.arr 4 (.int .u64)),.deep (.int .i64)],pre:=fun x=>QExpand.pre x.1,fn:=fun x=>((QExpand.fn x.1).1,((QExpand.fn x.1).2,()))}
noncomputable def NQExpand :Tup conQExpand.params→Notes:=fun _=>{loops:=fun n=>Lc.look n [],cuts:=fun n=>Lc.look n [],frz:=fun _=>[]}
theorem tieQExpand :fnVC (env0 tb25 [] 48 []) conQExpand NQExpand (Try.f44.body.getD .skip) Try.f44.results.toList=QExpand.VC:=by kernel_rfl
theorem okQExpand :Sound Try.prog gl 44 conQExpand:=fnS al25 Try.func44 (by kernel_rfl) (Eq.mpr tieQExpand QExpand.vc)
noncomputable def tb26 :Tb:=⟨(44,conQExpand)::tb25.cs,tb25.pt⟩
theorem al26 :tb26.Ok:=⟨SoundAll.cons al25.1 okQExpand,al25.2⟩
noncomputable def conQCompact :Con:={params:=[.arr 4 (.int .u64)],rets:=[.deep (.int .u32)],pre:=fun x=>QCompact.pre x.1,fn:=fun x=>(QCompact.fn x.1,())}
noncomputable def NQCompact :Tup conQCompact.params→Notes:=fun x=>{loops:=fun n=>Lc.look n [(5,{see:=[],ann:=fun _=>{frz:=[1],keep:=[1],vars:=[(3,.val (.int .i64))],inv:=QCompact.inv5 x.1,mes:=QCompact.mes5 x.1}})],cuts:=fun n=>Lc.look n [],frz:=fun _=>[]}
theorem tieQCompact :fnVC (env0 tb26 [] 40 []) conQCompact NQCompact (Try.f61.body.getD .skip) Try.f61.results.toList=QCompact.VC:=by kernel_rfl
theorem okQCompact :Sound Try.prog gl 61 conQCompact:=fnS al26 Try.func61 (by kernel_rfl) (Eq.mpr tieQCompact QCompact.vc)
noncomputable def tb27 :Tb:=⟨(61,conQCompact)::tb26.cs,tb26.pt⟩
theorem al27 :tb27.Ok:=⟨SoundAll.cons al26.1 okQCompact,al26.2⟩
noncomputable def conQMeets :Con:={params:=[.arr 32 (.int .u8),.int .u32],rets:=[.deep (.bool)],pre:=fun x=>QMeets.pre x.1 x.2.1,fn:=fun x=>(QMeets.fn x.1 x.2.1,())}
noncomputable def NQMeets :Tup conQMeets.params→Notes:=fun _=>{loops:=fun n=>Lc.look n [],cuts:=fun n=>Lc.look n [],frz:=fun _=>[]}
theorem tieQMeets :fnVC (env0 tb27 [] 21 []) conQMeets NQMeets (Try.f42.body.getD .skip) Try.f42.results.toList=QMeets.VC:=by kernel_rfl
theorem okQMeets :Sound Try.prog gl 42 conQMeets:=fnS al27 Try.func42 (by kernel_rfl) (Eq.mpr tieQMeets QMeets.vc)
noncomputable def tb28 :Tb:=⟨(42,conQMeets)::tb27.cs,tb27.pt⟩
theorem al28 :tb28.Ok:=⟨SoundAll.cons al27.1 okQMeets,al27.2⟩
noncomputable def conQWork :Con:={params:=[.arr 4 (.int .u64)],rets:=[.deep (.arr 4 (.int .u64))],pre:=fun x=>QWork.pre x.1,fn:=fun x=>(QWork.fn x.1,())}
noncomputable def NQWork :Tup conQWork.params→Notes:=fun _=>{loops:=fun n=>Lc.look n [],cuts:=fun n=>Lc.look n [],frz:=fun _=>[]}
theorem tieQWork :fnVC (env0 tb28 [] 29 []) conQWork NQWork (Try.f48.body.getD .skip) Try.f48.results.toList=QWork.VC:=by kernel_rfl
theorem okQWork :Sound Try.prog gl 48 conQWork:=fnS al28 Try.func48 (by kernel_rfl) (Eq.mpr tieQWork QWork.vc)
noncomputable def tb29 :Tb:=⟨(48,conQWork)::tb28.cs,tb28.pt⟩
theorem al29 :tb29.Ok:=⟨SoundAll.cons al28.1 okQWork,al28.2⟩
noncomputable def conQTotal :Con:={params:=[.arr 4 (.int .u64),.arr 4 (.int .u64)],rets:=[.deep (.arr 4 (.int .u64))],pre:=fun x=>QTotal.pre x.1 x.2.1,fn:=fun x=>(QTotal.fn x.1 x.2.1,())}
noncomputable def NQTotal :Tup conQTotal.params→Notes:=fun _=>{loops:=fun n=>Lc.look n [],cuts:=fun n=>Lc.look n [],frz:=fun _=>[]}
theorem tieQTotal :fnVC (env0 tb29 [] 17 []) conQTotal NQTotal (Try.f38.body.getD .skip) Try.f38.results.toList=QTotal.VC:=by kernel_rfl
theorem okQTotal :Sound Try.prog gl 38 conQTotal:=fnS al29 Try.func38 (by kernel_rfl) (Eq.mpr tieQTotal QTotal.vc)
noncomputable def tb30 :Tb:=⟨(38,conQTotal)::tb29.cs,tb29.pt⟩
theorem al30 :tb30.Ok:=⟨SoundAll.cons al29.1 okQTotal,al29.2⟩
noncomputable def conQValid :Con:={params:=[Tq17],rets:=[.deep (.bool)],pre:=fun x=>QValid.pre x.1,fn:=fun x=>(QValid.fn x.1,())}
noncomputable def NQValid :Tup conQValid.params→Notes:=fun x=>{loops:=fun n=>Lc.look n [(6,{see:=[],ann:=fun _=>{frz:=[1],keep:=[1,59,60],vars:=[(61,.val (.int .i64))],inv:=QValid.inv6 x.1,mes:=QValid.mes6 x.1}})],cuts:=fun n=>Lc.look n [],frz:=fun _=>[]}
theorem tieQValid :fnVC (env0 tb30 [] 107 []) conQValid NQValid (Try.f27.body.getD .skip) Try.f27.results.toList=QValid.VC:=by kernel_rfl
theorem okQValid :Sound Try.prog gl 27 conQValid:=fnS al30 Try.func27 (by kernel_rfl) (Eq.mpr tieQValid QValid.vc)
noncomputable def tb31 :Tb:=⟨(27,conQValid)::tb30.cs,tb30.pt⟩
theorem al31 :tb31.Ok:=⟨SoundAll.cons al30.1 okQValid,al30.2⟩
noncomputable def conQMedian :Con:={params:=[.slc (.int .u32)],rets:=[.deep (.int .u32)],pre:=fun x=>QMedian.pre x.1,fn:=fun x=>(QMedian.fn x.1,())}
noncomputable def NQMedian :Tup conQMedian.params→Notes:=fun x=>{loops:=fun n=>Lc.look n [(3,{see:=[],ann:=fun _=>{frz:=[],keep:=[7,8],vars:=[(3,.val (.slc (.int .u32))),(9,.val (.int .i64))],inv:=QMedian.inv3 x.1,mes:=QMedian.mes3 x.1}}),(6,{see:=[(3,.val (.slc (.int .u32))),(5,.val (.int .u32)),(9,.val (.int .i64))],ann:=fun y=>{frz:=[],keep:=[3,5,7,8,9],vars:=[(6,.val (.int .i64))],inv:=QMedian.inv6 x.1 y.1 y.2.1 y.2.2.1,mes:=QMedian.mes6 x.1 y.1 y.2.1 y.2.2.1}})],cuts:=fun n=>Lc.look n [],frz:=fun _=>[]}
theorem tieQMedian :fnVC (env0 tb31 [] 48 []) conQMedian NQMedian (Try.f41.body.getD .skip) Try.f41.results.toList=QMedian.VC:=by kernel_rfl
theorem okQMedian :Sound Try.prog gl 41 conQMedian:=fnS al31 Try.func41 (by kernel_rfl) (Eq.mpr tieQMedian QMedian.vc)
noncomputable def tb32 :Tb:=⟨(41,conQMedian)::tb31.cs,tb31.pt⟩
theorem al32 :tb32.Ok:=⟨SoundAll.cons al31.1 okQMedian,al31.2⟩
noncomputable def conQAdjust :Con:={params:=[Tq17,.int .u32,.int .u32,.int .u32],rets:=[.deep (.int .u32),.deep (.int .i64)],pre:=fun x=>QAdjust.pre x.1 x.2.1 x.2.2.1 x.2.2.2.1,fn:=fun x=>((QAdjust.fn x.1 x.2.1 x.2.2.1 x.2.2.2.1).1,((QAdjust.fn x.1 x.2.1 x.2.2.1 x.2.2.2.1).2,()))}
noncomputable def NQAdjust :Tup conQAdjust.params→Notes:=fun _=>{loops:=fun n=>Lc.look n [],cuts:=fun n=>Lc.look n [],frz:=fun _=>[]}
theorem tieQAdjust :fnVC (env0 tb32 [] 83 []) conQAdjust NQAdjust (Try.f50.body.getD .skip) Try.f50.results.toList=QAdjust.VC:=by kernel_rfl
theorem okQAdjust :Sound Try.prog gl 50 conQAdjust:=fnS al32 Try.func50 (by kernel_rfl) (Eq.mpr tieQAdjust QAdjust.vc)
noncomputable def tb33 :Tb:=⟨(50,conQAdjust)::tb32.cs,tb32.pt⟩
theorem al33 :tb33.Ok:=⟨SoundAll.cons al32.1 okQAdjust,al32.2⟩
noncomputable def conQNext :Con:={params:=[Tq17,.pair (.int .i64) (Tq27)],rets:=[.deep (.int .u32),.deep (.int .i64)],pre:=fun x=>QNext.pre x.1 x.2.1,fn:=fun x=>((QNext.fn x.1 x.2.1).1,((QNext.fn x.1 x.2.1).2,()))}
noncomputable def NQNext :Tup conQNext.params→Notes:=fun _=>{loops:=fun n=>Lc.look n [],cuts:=fun n=>Lc.look n [],frz:=fun _=>[]}
theorem tieQNext :fnVC (env0 tb33 [] 56 []) conQNext NQNext (Try.f40.body.getD .skip) Try.f40.results.toList=QNext.VC:=by kernel_rfl
theorem okQNext :Sound Try.prog gl 40 conQNext:=fnS al33 Try.func40 (by kernel_rfl) (Eq.mpr tieQNext QNext.vc)
noncomputable def tb34 :Tb:=⟨(40,conQNext)::tb33.cs,tb33.pt⟩
theorem al34 :tb34.Ok:=⟨SoundAll.cons al33.1 okQNext,al33.2⟩
noncomputable def conJoined :Con:={params:=[.slc (.int .u8),.slc (.int .u8)],rets:=[.own (.int .u8)],pre:=fun x=>Joined.pre x.1 x.2.1,fn:=fun x=>(Joined.fn x.1 x.2.1,())}
noncomputable def NJoined :Tup conJoined.params→Notes:=fun _=>{loops:=fun n=>Lc.look n [],cuts:=fun n=>Lc.look n [],frz:=fun _=>[]}
theorem tieJoined :fnVC (env0 tb34 [] 17 []) conJoined NJoined (Try.f65.body.getD .skip) Try.f65.results.toList=Joined.VC:=by kernel_rfl
theorem okJoined :Sound Try.prog gl 65 conJoined:=fnS al34 Try.func65 (by kernel_rfl) (Eq.mpr tieJoined Joined.vc)
noncomputable def tb35 :Tb:=⟨(65,conJoined)::tb34.cs,tb34.pt⟩
theorem al35 :tb35.Ok:=⟨SoundAll.cons al34.1 okJoined,al34.2⟩
noncomputable def conRLit :Con:={params:=[.int .u64,.int .i64],rets:=[.own (.int .u8)],pre:=fun x=>RLit.pre x.1 x.2.1,fn:=fun x=>(RLit.fn x.1 x.2.1,())}
noncomputable def NRLit :Tup conRLit.params→Notes:=fun x=>{loops:=fun n=>Lc.look n [(3,{see:=[],ann:=fun _=>{frz:=[],keep:=[0,10],vars:=[(5,.own (.int .u8) false),(11,.val (.int .i64))],inv:=RLit.inv3 x.1 x.2.1,mes:=RLit.mes3 x.1 x.2.1}})],cuts:=fun n=>Lc.look n [],frz:=fun _=>[]}
theorem tieRLit :fnVC (env0 tb35 [] 24 []) conRLit NRLit (Try.f66.body.getD .skip) Try.f66.results.toList=RLit.VC:=by kernel_rfl
theorem okRLit :Sound Try.prog gl 66 conRLit:=fnS al35 Try.func66 (by kernel_rfl) (Eq.mpr tieRLit RLit.vc)
noncomputable def tb36 :Tb:=⟨(66,conRLit)::tb35.cs,tb35.pt⟩
theorem al36 :tb36.Ok:=⟨SoundAll.cons al35.1 okRLit,al35.2⟩
noncomputable def conRU32 :Con:={params:=[.slc (.int .u8),.int .u32],rets:=[.own (.int .u8)],pre:=fun x=>RU32.pre x.1 x.2.1,fn:=fun x=>(RU32.fn x.1 x.2.1,())}
noncomputable def NRU32 :Tup conRU32.params→Notes:=fun _=>{loops:=fun n=>Lc.look n [],cuts:=fun n=>Lc.look n [],frz:=fun _=>[]}
theorem tieRU32 :fnVC (env0 tb36 [] 10 []) conRU32 NRU32 (Try.f56.body.getD .skip) Try.f56.results.toList=RU32.VC:=by kernel_rfl
theorem okRU32 :Sound Try.prog gl 56 conRU32:=fnS al36 Try.func56 (by kernel_rfl) (Eq.mpr tieRU32 RU32.vc)
noncomputable def tb37 :Tb:=⟨(56,conRU32)::tb36.cs,tb36.pt⟩
theorem al37 :tb37.Ok:=⟨SoundAll.cons al36.1 okRU32,al36.2⟩
noncomputable def conRHash :Con:={params:=[.slc (.int .u8),.arr 32 (.int .u8)],rets:=[.own (.int .u8)],pre:=fun x=>RHash.pre x.1 x.2.1,fn:=fun x=>(RHash.fn x.1 x.2.1,())}
noncomputable def NRHash :Tup conRHash.params→Notes:=fun _=>{loops:=fun n=>Lc.look n [],cuts:=fun n=>Lc.look n [],frz:=fun _=>[]}
theorem tieRHash :fnVC (env0 tb37 [] 8 []) conRHash NRHash (Try.f57.body.getD .skip) Try.f57.results.toList=RHash.VC:=by kernel_rfl
theorem okRHash :Sound Try.prog gl 57 conRHash:=fnS al37 Try.func57 (by kernel_rfl) (Eq.mpr tieRHash RHash.vc)
noncomputable def tb38 :Tb:=⟨(57,conRHash)::tb37.cs,tb37.pt⟩
theorem al38 :tb38.Ok:=⟨SoundAll.cons al37.1 okRHash,al37.2⟩
noncomputable def conREnc :Con:={params:=[Tq5],rets:=[.own (.int .u8)],pre:=fun x=>REnc.pre x.1,fn:=fun x=>(REnc.fn x.1,())}
noncomputable def NREnc :Tup conREnc.params→Notes:=fun x=>{loops:=fun n=>Lc.look n [(4,{see:=[],ann:=fun _=>{frz:=[],keep:=[22,23],vars:=[(3,.own (.int .u8) true),(24,.val (.int .i64))],inv:=REnc.inv4 x.1,mes:=REnc.mes4 x.1}})],cuts:=fun n=>Lc.look n [],frz:=fun _=>[]}
theorem tieREnc :fnVC (env0 tb38 [] 33 []) conREnc NREnc (Try.f47.body.getD .skip) Try.f47.results.toList=REnc.VC:=by kernel_rfl
theorem okREnc :Sound Try.prog gl 47 conREnc:=fnS al38 Try.func47 (by kernel_rfl) (Eq.mpr tieREnc REnc.vc)
noncomputable def tb39 :Tb:=⟨(47,conREnc)::tb38.cs,tb38.pt⟩
theorem al39 :tb39.Ok:=⟨SoundAll.cons al38.1 okREnc,al38.2⟩
noncomputable def conRHdr :Con:={params:=[Tq5],rets:=[.deep (.arr 32 (.int .u8))],pre:=fun x=>RHdr.pre x.1,fn:=fun x=>(RHdr.fn x.1,())}
noncomputable def NRHdr :Tup conRHdr.params→Notes:=fun _=>{loops:=fun n=>Lc.look n [],cuts:=fun n=>Lc.look n [],frz:=fun _=>[]}
theorem tieRHdr :fnVC (env0 tb39 [] 6 []) conRHdr NRHdr (Try.f28.body.getD .skip) Try.f28.results.toList=RHdr.VC:=by kernel_rfl
theorem okRHdr :Sound Try.prog gl 28 conRHdr:=fnS al39 Try.func28 (by kernel_rfl) (Eq.mpr tieRHdr RHdr.vc)
noncomputable def tb40 :Tb:=⟨(28,conRHdr)::tb39.cs,tb39.pt⟩
theorem al40 :tb40.Ok:=⟨SoundAll.cons al39.1 okRHdr,al39.2⟩
noncomputable def conVFits :Con:={params:=[Tq17,.pair (.int .i64) (Tq27)],rets:=[.deep (.bool)],pre:=fun x=>VFits.pre x.1 x.2.1,fn:=fun x=>(VFits.fn x.1 x.2.1,())}
noncomputable def NVFits :Tup conVFits.params→Notes:=fun _=>{loops:=fun n=>Lc.look n [],cuts:=fun n=>Lc.look n [],frz:=fun _=>[]}
theorem tieVFits :fnVC (env0 tb40 [] 27 []) conVFits NVFits (Try.f30.body.getD .skip) Try.f30.results.toList=VFits.VC:=by kernel_rfl
theorem okVFits :Sound Try.prog gl 30 conVFits:=fnS al40 Try.func30 (by kernel_rfl) (Eq.mpr tieVFits VFits.vc)
noncomputable def tb41 :Tb:=⟨(30,conVFits)::tb40.cs,tb40.pt⟩
theorem al41 :tb41.Ok:=⟨SoundAll.cons al40.1 okVFits,al40.2⟩
noncomputable def conVStart :Con:={params:=[Tq17],rets:=[.deep (.pair (.int .i64) (Tq27)),.deep (.int .i64)],pre:=fun x=>VStart.pre x.1,fn:=fun x=>((VStart.fn x.1).1,((VStart.fn x.1).2,()))}
noncomputable def NVStart :Tup conVStart.params→Notes:=fun _=>{loops:=fun n=>Lc.look n [],cuts:=fun n=>Lc.look n [],frz:=fun _=>[]}
theorem tieVStart :fnVC (env0 tb41 [] 21 []) conVStart NVStart (Try.f9.body.getD .skip) Try.f9.results.toList=VStart.VC:=by kernel_rfl
theorem okVStart :Sound Try.prog gl 9 conVStart:=fnS al41 Try.func9 (by kernel_rfl) (Eq.mpr tieVStart VStart.vc)
noncomputable def tb42 :Tb:=⟨(9,conVStart)::tb41.cs,tb41.pt⟩
theorem al42 :tb42.Ok:=⟨SoundAll.cons al41.1 okVStart,al41.2⟩
noncomputable def conVAdvance :Con:={params:=[Tq17,.pair (.int .i64) (Tq27),Tq5],rets:=[.deep (.pair (.int .i64) (Tq27)),.deep (.int .i64)],pre:=fun x=>VAdvance.pre x.1 x.2.1 x.2.2.1,fn:=fun x=>((VAdvance.fn x.1 x.2.1 x.2.2.1).1,((VAdvance.fn x.1 x.2.1 x.2.2.1).2,()))}
noncomputable def NVAdvance :Tup conVAdvance.params→Notes:=fun _=>{loops:=fun n=>Lc.look n [],cuts:=fun n=>Lc.look n [],frz:=fun _=>[]}
theorem tieVAdvance :fnVC (env0 tb42 [] 54 []) conVAdvance NVAdvance (Try.f12.body.getD .skip) Try.f12.results.toList=VAdvance.VC:=by kernel_rfl
theorem okVAdvance :Sound Try.prog gl 12 conVAdvance:=fnS al42 Try.func12 (by kernel_rfl) (Eq.mpr tieVAdvance VAdvance.vc)
noncomputable def tb43 :Tb:=⟨(12,conVAdvance)::tb42.cs,tb42.pt⟩
theorem al43 :tb43.Ok:=⟨SoundAll.cons al42.1 okVAdvance,al42.2⟩
noncomputable def conVCheck :Con:={params:=[Tq17,.pair (.int .i64) (Tq27),Tq5,.int .u32],rets:=[.deep (.int .i64)],pre:=fun x=>VCheck.pre x.1 x.2.1 x.2.2.1 x.2.2.2.1,fn:=fun x=>(VCheck.fn x.1 x.2.1 x.2.2.1 x.2.2.2.1,())}
noncomputable def NVCheck :Tup conVCheck.params→Notes:=fun x=>{loops:=fun n=>Lc.look n [(20,{see:=[],ann:=fun _=>{frz:=[],keep:=[74,75],vars:=[(9,.ptr (.pair (.int .i64) (Tq27))),(76,.val (.int .i64))],inv:=VCheck.inv20 x.1 x.2.1 x.2.2.1 x.2.2.2.1,mes:=VCheck.mes20 x.1 x.2.1 x.2.2.1 x.2.2.2.1}})],cuts:=fun n=>Lc.look n [],frz:=fun _=>[]}
theorem tieVCheck :fnVC (env0 tb43 [] 93 []) conVCheck NVCheck (Try.f31.body.getD .skip) Try.f31.results.toList=VCheck.VC:=by kernel_rfl
theorem okVCheck :Sound Try.prog gl 31 conVCheck:=fnS al43 Try.func31 (by kernel_rfl) (Eq.mpr tieVCheck VCheck.vc)
noncomputable def tb44 :Tb:=⟨(31,conVCheck)::tb43.cs,tb43.pt⟩
theorem al44 :tb44.Ok:=⟨SoundAll.cons al43.1 okVCheck,al43.2⟩
noncomputable def conVRun :Con:={params:=[Tq17,.pair (.int .i64) (Tq27),.slc (Tq5),.int .u32],rets:=[.deep (.pair (.int .i64) (Tq27)),.deep (.int .i64),.deep (.int .i64)],pre:=fun x=>VRun.pre x.1 x.2.1 x.2.2.1 x.2.2.2.1,fn:=fun x=>((VRun.fn x.1 x.2.1 x.2.2.1 x.2.2.2.1).1,((VRun.fn x.1 x.2.1 x.2.2.1 x.2.2.2.1).2.1,((VRun.fn x.1 x.2.1 x.2.2.1 x.2.2.2.1).2.2,())))}
noncomputable def NVRun :Tup conVRun.params→Notes:=fun x=>{loops:=fun n=>Lc.look n [(4,{see:=[],ann:=fun _=>{frz:=[4],keep:=[2,3,4,19,20],vars:=[(5,.ptr (.pair (.int .i64) (Tq27))),(8,.ptr (.pair (.int .i64) (Tq27))),(21,.val (.int .i64))],inv:=VRun.inv4 x.1 x.2.1 x.2.2.1 x.2.2.2.1,mes:=VRun.mes4 x.1 x.2.1 x.2.2.1 x.2.2.2.1}})],cuts:=fun n=>Lc.look n [],frz:=fun _=>[]}
theorem tieVRun :fnVC (env0 tb44 [] 47 []) conVRun NVRun (Try.f13.body.getD .skip) Try.f13.results.toList=VRun.VC:=by kernel_rfl
theorem okVRun :Sound Try.prog gl 13 conVRun:=fnS al44 Try.func13 (by kernel_rfl) (Eq.mpr tieVRun VRun.vc)
noncomputable def tb45 :Tb:=⟨(13,conVRun)::tb44.cs,tb44.pt⟩
theorem al45 :tb45.Ok:=⟨SoundAll.cons al44.1 okVRun,al44.2⟩
noncomputable def conYWork :Con:={params:=[Tq5],rets:=[.deep (.arr 4 (.int .u64))],pre:=fun x=>YWork.pre x.1,fn:=fun x=>(YWork.fn x.1,())}
noncomputable def NYWork :Tup conYWork.params→Notes:=fun _=>{loops:=fun n=>Lc.look n [],cuts:=fun n=>Lc.look n [],frz:=fun _=>[]}
theorem tieYWork :fnVC (env0 tb45 [] 13 []) conYWork NYWork (Try.f34.body.getD .skip) Try.f34.results.toList=YWork.VC:=by kernel_rfl
theorem okYWork :Sound Try.prog gl 34 conYWork:=fnS al45 Try.func34 (by kernel_rfl) (Eq.mpr tieYWork YWork.vc)
noncomputable def tb46 :Tb:=⟨(34,conYWork)::tb45.cs,tb45.pt⟩
theorem al46 :tb46.Ok:=⟨SoundAll.cons al45.1 okYWork,al45.2⟩
noncomputable def conYStart :Con:={params:=[Tq17],rets:=[.deep (Tq23),.deep (.int .i64)],pre:=fun x=>YStart.pre x.1,fn:=fun x=>((YStart.fn x.1).1,((YStart.fn x.1).2,()))}
noncomputable def NYStart :Tup conYStart.params→Notes:=fun _=>{loops:=fun n=>Lc.look n [],cuts:=fun n=>Lc.look n [],frz:=fun _=>[]}
theorem tieYStart :fnVC (env0 tb46 [] 19 []) conYStart NYStart (Try.f19.body.getD .skip) Try.f19.results.toList=YStart.VC:=by kernel_rfl
theorem okYStart :Sound Try.prog gl 19 conYStart:=fnS al46 Try.func19 (by kernel_rfl) (Eq.mpr tieYStart YStart.vc)
noncomputable def tb47 :Tb:=⟨(19,conYStart)::tb46.cs,tb46.pt⟩
theorem al47 :tb47.Ok:=⟨SoundAll.cons al46.1 okYStart,al46.2⟩
noncomputable def conYFind :Con:={params:=[Tq23,.arr 32 (.int .u8)],rets:=[.deep (.int .i64)],pre:=fun x=>YFind.pre x.1 x.2.1,fn:=fun x=>(YFind.fn x.1 x.2.1,())}
noncomputable def NYFind :Tup conYFind.params→Notes:=fun x=>{loops:=fun n=>Lc.look n [(2,{see:=[],ann:=fun _=>{frz:=[2,3],keep:=[2,3,8],vars:=[(9,.val (.int .i64))],inv:=YFind.inv2 x.1 x.2.1,mes:=YFind.mes2 x.1 x.2.1}})],cuts:=fun n=>Lc.look n [],frz:=fun _=>[]}
theorem tieYFind :fnVC (env0 tb47 [] 22 []) conYFind NYFind (Try.f37.body.getD .skip) Try.f37.results.toList=YFind.VC:=by kernel_rfl
theorem okYFind :Sound Try.prog gl 37 conYFind:=fnS al47 Try.func37 (by kernel_rfl) (Eq.mpr tieYFind YFind.vc)
noncomputable def tb48 :Tb:=⟨(37,conYFind)::tb47.cs,tb47.pt⟩
theorem al48 :tb48.Ok:=⟨SoundAll.cons al47.1 okYFind,al47.2⟩
noncomputable def conYAtN (n:Nat):Con:={params:=[Tq17,Tq23,.int .i64],rets:=[.deep (.pair (.int .i64) (Tq27))],pre:=fun x=>YAt.pre n x.1 x.2.1 x.2.2.1,fn:=fun x=>(YAt.fn x.1 x.2.1 x.2.2.1,())}
noncomputable def conYAt :Con:={params:=[Tq17,Tq23,.int .i64],rets:=[.deep (.pair (.int .i64) (Tq27))],pre:=fun x=>YAt.can x.1 x.2.1 x.2.2.1,fn:=fun x=>(YAt.fn x.1 x.2.1 x.2.2.1,())}
theorem fnOkYAt :FnOk Try.prog 36:=⟨Try.f36,Try.func36,by kernel_rfl,by kernel_rfl⟩
noncomputable def tbRA (n:Nat):Tb:=⟨(36,conYAtN n)::tb48.cs,tb48.pt⟩
noncomputable def NYAt :Tup conYAt.params→Notes:=fun _=>{loops:=fun n=>Lc.look n [],cuts:=fun n=>Lc.look n [],frz:=fun _=>[]}
theorem tieYAt (n:Nat):fnVC (env0 (tbRA n) [] 40 []) (conYAtN (n+1)) NYAt (Try.f36.body.getD .skip) Try.f36.results.toList=YAt.VC n:=by kernel_rfl
theorem grpA :∀n:Nat,Sound Try.prog gl 36 (conYAtN n)
 |0=>Sound.void fnOkYAt (fun _ h=>YAt.none h)
 |n+1=>by
  have ih:=grpA n
  have ht:(tbRA n).Ok:=⟨(SoundAll.cons al48.1 ih),al48.2⟩
  exact fnS ht Try.func36 (by kernel_rfl) (Eq.mpr (tieYAt n) (YAt.vc n))
theorem okYAt :Sound Try.prog gl 36 conYAt:=Sound.ex (fun n=>(grpA n))
noncomputable def tb49 :Tb:=⟨(36,conYAt)::tb48.cs,tb48.pt⟩
theorem al49 :tb49.Ok:=⟨SoundAll.cons al48.1 okYAt,al48.2⟩
noncomputable def conYFirst :Con:={params:=[.slc (.pair (Tq5) (Tq21))],rets:=[.deep (.int .i64)],pre:=fun x=>YFirst.pre x.1,fn:=fun x=>(YFirst.fn x.1,())}
noncomputable def NYFirst :Tup conYFirst.params→Notes:=fun x=>{loops:=fun n=>Lc.look n [(3,{see:=[],ann:=fun _=>{frz:=[],keep:=[0,6],vars:=[(3,.val (.int .i64)),(7,.val (.int .i64))],inv:=YFirst.inv3 x.1,mes:=YFirst.mes3 x.1}})],cuts:=fun n=>Lc.look n [],frz:=fun _=>[]}
theorem tieYFirst :fnVC (env0 tb49 [] 25 []) conYFirst NYFirst (Try.f39.body.getD .skip) Try.f39.results.toList=YFirst.VC:=by kernel_rfl
theorem okYFirst :Sound Try.prog gl 39 conYFirst:=fnS al49 Try.func39 (by kernel_rfl) (Eq.mpr tieYFirst YFirst.vc)
noncomputable def tb50 :Tb:=⟨(39,conYFirst)::tb49.cs,tb49.pt⟩
theorem al50 :tb50.Ok:=⟨SoundAll.cons al49.1 okYFirst,al49.2⟩
noncomputable def conYValid :Con:={params:=[Tq17,Tq23],rets:=[.deep (.bool)],pre:=fun x=>YValid.pre x.1 x.2.1,fn:=fun x=>(YValid.fn x.1 x.2.1,())}
noncomputable def NYValid :Tup conYValid.params→Notes:=fun x=>{loops:=fun n=>Lc.look n [(9,{see:=[],ann:=fun _=>{frz:=[2,3],keep:=[2,3],vars:=[(7,.own (.pair (.int .i64) (Tq27)) false),(8,.val (.int .i64))],inv:=YValid.inv9 x.1 x.2.1,mes:=YValid.mes9 x.1 x.2.1}})],cuts:=fun n=>Lc.look n [],frz:=fun _=>[]}
theorem tieYValid :fnVC (env0 tb50 [] 147 []) conYValid NYValid (Try.f35.body.getD .skip) Try.f35.results.toList=YValid.VC:=by kernel_rfl
theorem okYValid :Sound Try.prog gl 35 conYValid:=fnS al50 Try.func35 (by kernel_rfl) (Eq.mpr tieYValid YValid.vc)
noncomputable def tb51 :Tb:=⟨(35,conYValid)::tb50.cs,tb50.pt⟩
theorem al51 :tb51.Ok:=⟨SoundAll.cons al50.1 okYValid,al50.2⟩
noncomputable def conYContext :Con:={params:=[Tq17,Tq23,.int .i64],rets:=[.deep (.pair (.int .i64) (Tq27)),.deep (.int .i64)],pre:=fun x=>YContext.pre x.1 x.2.1 x.2.2.1,fn:=fun x=>((YContext.fn x.1 x.2.1 x.2.2.1).1,((YContext.fn x.1 x.2.1 x.2.2.1).2,()))}
noncomputable def NYContext :Tup conYContext.params→Notes:=fun _=>{loops:=fun n=>Lc.look n [],cuts:=fun n=>Lc.look n [],frz:=fun _=>[]}
theorem tieYContext :fnVC (env0 tb51 [] 27 []) conYContext NYContext (Try.f20.body.getD .skip) Try.f20.results.toList=YContext.VC:=by kernel_rfl
theorem okYContext :Sound Try.prog gl 20 conYContext:=fnS al51 Try.func20 (by kernel_rfl) (Eq.mpr tieYContext YContext.vc)
noncomputable def tb52 :Tb:=⟨(20,conYContext)::tb51.cs,tb51.pt⟩
theorem al52 :tb52.Ok:=⟨SoundAll.cons al51.1 okYContext,al51.2⟩
noncomputable def conYInsert :Con:={params:=[Tq17,Tq23,Tq5,.int .u32],rets:=[.deep (Tq23),.deep (.int .i64),.deep (.int .i64)],pre:=fun x=>YInsert.pre x.1 x.2.1 x.2.2.1 x.2.2.2.1,fn:=fun x=>((YInsert.fn x.1 x.2.1 x.2.2.1 x.2.2.2.1).1,((YInsert.fn x.1 x.2.1 x.2.2.1 x.2.2.2.1).2.1,((YInsert.fn x.1 x.2.1 x.2.2.1 x.2.2.2.1).2.2,())))}
noncomputable def NYInsert :Tup conYInsert.params→Notes:=fun _=>{loops:=fun n=>Lc.look n [],cuts:=fun n=>Lc.look n [],frz:=fun _=>[]}
theorem tieYInsert :fnVC (env0 tb52 [] 87 []) conYInsert NYInsert (Try.f21.body.getD .skip) Try.f21.results.toList=YInsert.VC:=by kernel_rfl
theorem okYInsert :Sound Try.prog gl 21 conYInsert:=fnS al52 Try.func21 (by kernel_rfl) (Eq.mpr tieYInsert YInsert.vc)
noncomputable def tb53 :Tb:=⟨(21,conYInsert)::tb52.cs,tb52.pt⟩
theorem al53 :tb53.Ok:=⟨SoundAll.cons al52.1 okYInsert,al52.2⟩
noncomputable def conMParams :Con:={params:=[.int .u8],rets:=[.deep (Tq17)],pre:=fun x=>MParams.pre x.1,fn:=fun x=>(MParams.fn x.1,())}
noncomputable def NMParams :Tup conMParams.params→Notes:=fun _=>{loops:=fun n=>Lc.look n [],cuts:=fun n=>Lc.look n [],frz:=fun _=>[]}
theorem tieMParams :fnVC (env0 tb53 [] 22 []) conMParams NMParams (Try.f5.body.getD .skip) Try.f5.results.toList=MParams.VC:=by kernel_rfl
theorem okMParams :Sound Try.prog gl 5 conMParams:=fnS al53 Try.func5 (by kernel_rfl) (Eq.mpr tieMParams MParams.vc)
noncomputable def tb54 :Tb:=⟨(5,conMParams)::tb53.cs,tb53.pt⟩
theorem al54 :tb54.Ok:=⟨SoundAll.cons al53.1 okMParams,al53.2⟩
noncomputable def conMMine :Con:={params:=[Tq17,.pair (.int .i64) (Tq27),.arr 32 (.int .u8),.int .u32],rets:=[.deep (Tq5)],pre:=fun x=>MMine.pre x.1 x.2.1 x.2.2.1 x.2.2.2.1,fn:=fun x=>(MMine.fn x.1 x.2.1 x.2.2.1 x.2.2.2.1,())}
noncomputable def NMMine :Tup conMMine.params→Notes:=fun x=>{loops:=fun n=>Lc.look n [(4,{see:=[],ann:=fun _=>{frz:=[],keep:=[9],vars:=[(8,.ptr (Tq5)),(11,.ptr (Tq5))],inv:=MMine.inv4 x.1 x.2.1 x.2.2.1 x.2.2.2.1,mes:=MMine.mes4 x.1 x.2.1 x.2.2.1 x.2.2.2.1}})],cuts:=fun n=>Lc.look n [],frz:=fun _=>[]}
theorem tieMMine :fnVC (env0 tb54 [] 45 []) conMMine NMMine (Try.f22.body.getD .skip) Try.f22.results.toList=MMine.VC:=by kernel_rfl
theorem okMMine :Sound Try.prog gl 22 conMMine:=fnS al54 Try.func22 (by kernel_rfl) (Eq.mpr tieMMine MMine.vc)
noncomputable def tb55 :Tb:=⟨(22,conMMine)::tb54.cs,tb54.pt⟩
theorem al55 :tb55.Ok:=⟨SoundAll.cons al54.1 okMMine,al54.2⟩
noncomputable def conMSec :Con:={params:=[.int .u8],rets:=[.deep (.int .u32)],pre:=fun x=>MSec.pre x.1,fn:=fun x=>(MSec.fn x.1,())}
noncomputable def NMSec :Tup conMSec.params→Notes:=fun _=>{loops:=fun n=>Lc.look n [],cuts:=fun n=>Lc.look n [],frz:=fun _=>[]}
theorem tieMSec :fnVC (env0 tb55 [] 8 []) conMSec NMSec (Try.f23.body.getD .skip) Try.f23.results.toList=MSec.VC:=by kernel_rfl
theorem okMSec :Sound Try.prog gl 23 conMSec:=fnS al55 Try.func23 (by kernel_rfl) (Eq.mpr tieMSec MSec.vc)
noncomputable def tb56 :Tb:=⟨(23,conMSec)::tb55.cs,tb55.pt⟩
theorem al56 :tb56.Ok:=⟨SoundAll.cons al55.1 okMSec,al55.2⟩
noncomputable def conMTree :Con:={params:=[Tq17,.slc (.int .u8)],rets:=[.deep (Tq23)],pre:=fun x=>MTree.pre x.1 x.2.1,fn:=fun x=>(MTree.fn x.1 x.2.1,())}
noncomputable def NMTree :Tup conMTree.params→Notes:=fun x=>{loops:=fun n=>Lc.look n [(3,{see:=[],ann:=fun _=>{frz:=[2],keep:=[2,19,20],vars:=[(4,.ptr (Tq23)),(5,.ptr (Tq23)),(21,.val (.int .i64))],inv:=MTree.inv3 x.1 x.2.1,mes:=MTree.mes3 x.1 x.2.1}})],cuts:=fun n=>Lc.look n [],frz:=fun _=>[]}
theorem tieMTree :fnVC (env0 tb56 [] 68 []) conMTree NMTree (Try.f6.body.getD .skip) Try.f6.results.toList=MTree.VC:=by kernel_rfl
theorem okMTree :Sound Try.prog gl 6 conMTree:=fnS al56 Try.func6 (by kernel_rfl) (Eq.mpr tieMTree MTree.vc)
noncomputable def tb57 :Tb:=⟨(6,conMTree)::tb56.cs,tb56.pt⟩
theorem al57 :tb57.Ok:=⟨SoundAll.cons al56.1 okMTree,al56.2⟩
noncomputable def conKSome :Con:={params:=[.slc (.int .u8),.int .i64],rets:=[.deep (.slc (.int .u8))],pre:=fun x=>KSome.pre x.1 x.2.1,fn:=fun x=>(KSome.fn x.1 x.2.1,())}
noncomputable def NKSome :Tup conKSome.params→Notes:=fun _=>{loops:=fun n=>Lc.look n [],cuts:=fun n=>Lc.look n [],frz:=fun _=>[]}
theorem tieKSome :fnVC (env0 tb57 [] 11 []) conKSome NKSome (Try.f7.body.getD .skip) Try.f7.results.toList=KSome.VC:=by kernel_rfl
theorem okKSome :Sound Try.prog gl 7 conKSome:=fnS al57 Try.func7 (by kernel_rfl) (Eq.mpr tieKSome KSome.vc)
noncomputable def tb58 :Tb:=⟨(7,conKSome)::tb57.cs,tb57.pt⟩
theorem al58 :tb58.Ok:=⟨SoundAll.cons al57.1 okKSome,al57.2⟩
noncomputable def conBNode :Con:={params:=[Tq23,.int .i64],rets:=[.deep (.bool)],pre:=fun x=>BNode.pre x.1 x.2.1,fn:=fun x=>(BNode.fn x.1 x.2.1,())}
noncomputable def NBNode :Tup conBNode.params→Notes:=fun _=>{loops:=fun n=>Lc.look n [],cuts:=fun n=>Lc.look n [],frz:=fun _=>[]}
theorem tieBNode :fnVC (env0 tb58 [] 14 []) conBNode NBNode (Try.f25.body.getD .skip) Try.f25.results.toList=BNode.VC:=by kernel_rfl
theorem okBNode :Sound Try.prog gl 25 conBNode:=fnS al58 Try.func25 (by kernel_rfl) (Eq.mpr tieBNode BNode.vc)
noncomputable def tb59 :Tb:=⟨(25,conBNode)::tb58.cs,tb58.pt⟩
theorem al59 :tb59.Ok:=⟨SoundAll.cons al58.1 okBNode,al58.2⟩
noncomputable def conBSound :Con:={params:=[Tq23],rets:=[.deep (.bool)],pre:=fun x=>BSound.pre x.1,fn:=fun x=>(BSound.fn x.1,())}
noncomputable def NBSound :Tup conBSound.params→Notes:=fun x=>{loops:=fun n=>Lc.look n [(6,{see:=[],ann:=fun _=>{frz:=[1],keep:=[1,37,38],vars:=[(39,.val (.int .i64))],inv:=BSound.inv6 x.1,mes:=BSound.mes6 x.1}})],cuts:=fun n=>Lc.look n [],frz:=fun _=>[]}
theorem tieBSound :fnVC (env0 tb59 [] 69 []) conBSound NBSound (Try.f24.body.getD .skip) Try.f24.results.toList=BSound.VC:=by kernel_rfl
theorem okBSound :Sound Try.prog gl 24 conBSound:=fnS al59 Try.func24 (by kernel_rfl) (Eq.mpr tieBSound BSound.vc)
noncomputable def tb60 :Tb:=⟨(24,conBSound)::tb59.cs,tb59.pt⟩
theorem al60 :tb60.Ok:=⟨SoundAll.cons al59.1 okBSound,al59.2⟩
noncomputable def conBLine :Con:={params:=[Tq23,.int .i64],rets:=[.deep (.slc (.int .i64))],pre:=fun x=>BLine.pre x.1 x.2.1,fn:=fun x=>(BLine.fn x.1 x.2.1,())}
noncomputable def NBLine :Tup conBLine.params→Notes:=fun x=>{loops:=fun n=>Lc.look n [(3,{see:=[],ann:=fun _=>{frz:=[2],keep:=[2,16],vars:=[(1,.val (.int .i64)),(5,.own (.int .i64) false),(17,.val (.int .i64))],inv:=BLine.inv3 x.1 x.2.1,mes:=BLine.mes3 x.1 x.2.1}})],cuts:=fun n=>Lc.look n [],frz:=fun n=>(Lc.look n [(8,[5])]).getD []}
theorem tieBLine :fnVC (env0 tb60 [] 36 []) conBLine NBLine (Try.f26.body.getD .skip) Try.f26.results.toList=BLine.VC:=by kernel_rfl
theorem okBLine :Sound Try.prog gl 26 conBLine:=fnS al60 Try.func26 (by kernel_rfl) (Eq.mpr tieBLine BLine.vc)
noncomputable def tb61 :Tb:=⟨(26,conBLine)::tb60.cs,tb60.pt⟩
theorem al61 :tb61.Ok:=⟨SoundAll.cons al60.1 okBLine,al60.2⟩
noncomputable def conBCommon :Con:={params:=[.slc (.int .i64),.slc (.int .i64)],rets:=[.deep (.int .i64)],pre:=fun x=>BCommon.pre x.1 x.2.1,fn:=fun x=>(BCommon.fn x.1 x.2.1,())}
noncomputable def NBCommon :Tup conBCommon.params→Notes:=fun x=>{loops:=fun n=>Lc.look n [(2,{see:=[],ann:=fun _=>{frz:=[],keep:=[0,1],vars:=[(5,.val (.int .i64))],inv:=BCommon.inv2 x.1 x.2.1,mes:=BCommon.mes2 x.1 x.2.1}})],cuts:=fun n=>Lc.look n [],frz:=fun _=>[]}
theorem tieBCommon :fnVC (env0 tb61 [] 30 []) conBCommon NBCommon (Try.f32.body.getD .skip) Try.f32.results.toList=BCommon.VC:=by kernel_rfl
theorem okBCommon :Sound Try.prog gl 32 conBCommon:=fnS al61 Try.func32 (by kernel_rfl) (Eq.mpr tieBCommon BCommon.vc)
noncomputable def tb62 :Tb:=⟨(32,conBCommon)::tb61.cs,tb61.pt⟩
theorem al62 :tb62.Ok:=⟨SoundAll.cons al61.1 okBCommon,al61.2⟩
noncomputable def conBMain :Con:={params:=[Tq23],rets:=[.deep (.slc (.int .i64))],pre:=fun x=>BMain.pre x.1,fn:=fun x=>(BMain.fn x.1,())}
noncomputable def NBMain :Tup conBMain.params→Notes:=fun _=>{loops:=fun n=>Lc.look n [],cuts:=fun n=>Lc.look n [],frz:=fun _=>[]}
theorem tieBMain :fnVC (env0 tb62 [] 10 []) conBMain NBMain (Try.f10.body.getD .skip) Try.f10.results.toList=BMain.VC:=by kernel_rfl
theorem okBMain :Sound Try.prog gl 10 conBMain:=fnS al62 Try.func10 (by kernel_rfl) (Eq.mpr tieBMain BMain.vc)
noncomputable def tb63 :Tb:=⟨(10,conBMain)::tb62.cs,tb62.pt⟩
theorem al63 :tb63.Ok:=⟨SoundAll.cons al62.1 okBMain,al62.2⟩
noncomputable def conBFork :Con:={params:=[Tq23,.int .i64,.int .i64],rets:=[.deep (.int .i64)],pre:=fun x=>BFork.pre x.1 x.2.1 x.2.2.1,fn:=fun x=>(BFork.fn x.1 x.2.1 x.2.2.1,())}
noncomputable def NBFork :Tup conBFork.params→Notes:=fun _=>{loops:=fun n=>Lc.look n [],cuts:=fun n=>Lc.look n [],frz:=fun _=>[]}
theorem tieBFork :fnVC (env0 tb63 [] 35 []) conBFork NBFork (Try.f16.body.getD .skip) Try.f16.results.toList=BFork.VC:=by kernel_rfl
theorem okBFork :Sound Try.prog gl 16 conBFork:=fnS al63 Try.func16 (by kernel_rfl) (Eq.mpr tieBFork BFork.vc)
noncomputable def tb64 :Tb:=⟨(16,conBFork)::tb63.cs,tb63.pt⟩
theorem al64 :tb64.Ok:=⟨SoundAll.cons al63.1 okBFork,al63.2⟩
noncomputable def conBLocator :Con:={params:=[Tq23,.int .i64],rets:=[.deep (.slc (.arr 32 (.int .u8)))],pre:=fun x=>BLocator.pre x.1 x.2.1,fn:=fun x=>(BLocator.fn x.1 x.2.1,())}
noncomputable def NBLocator :Tup conBLocator.params→Notes:=fun x=>{loops:=fun n=>Lc.look n [(7,{see:=[],ann:=fun _=>{frz:=[2],keep:=[2,6],vars:=[(5,.own (.arr 32 (.int .u8)) true),(7,.val (.int .i64)),(8,.val (.int .i64)),(9,.val (.int .i64))],inv:=BLocator.inv7 x.1 x.2.1,mes:=BLocator.mes7 x.1 x.2.1}})],cuts:=fun n=>Lc.look n [],frz:=fun _=>[]}
theorem tieBLocator :fnVC (env0 tb64 [] 60 []) conBLocator NBLocator (Try.f8.body.getD .skip) Try.f8.results.toList=BLocator.VC:=by kernel_rfl
theorem okBLocator :Sound Try.prog gl 8 conBLocator:=fnS al64 Try.func8 (by kernel_rfl) (Eq.mpr tieBLocator BLocator.vc)
noncomputable def tb65 :Tb:=⟨(8,conBLocator)::tb64.cs,tb64.pt⟩
theorem al65 :tb65.Ok:=⟨SoundAll.cons al64.1 okBLocator,al64.2⟩
noncomputable def conBMeetH :Con:={params:=[Tq23,.slc (.int .i64),.slc (.arr 32 (.int .u8))],rets:=[.deep (.int .i64)],pre:=fun x=>BMeetH.pre x.1 x.2.1 x.2.2.1,fn:=fun x=>(BMeetH.fn x.1 x.2.1 x.2.2.1,())}
noncomputable def NBMeetH :Tup conBMeetH.params→Notes:=fun x=>{loops:=fun n=>Lc.look n [(3,{see:=[],ann:=fun _=>{frz:=[3],keep:=[2,3,18,19],vars:=[(7,.map (.arr 32 (.int .u8)) (.int .i64)),(20,.val (.int .i64))],inv:=BMeetH.inv3 x.1 x.2.1 x.2.2.1,mes:=BMeetH.mes3 x.1 x.2.1 x.2.2.1}}),(11,{see:=[],ann:=fun _=>{frz:=[],keep:=[43,44],vars:=[(7,.map (.arr 32 (.int .u8)) (.int .i64)),(45,.val (.int .i64))],inv:=BMeetH.inv11 x.1 x.2.1 x.2.2.1,mes:=BMeetH.mes11 x.1 x.2.1 x.2.2.1}})],cuts:=fun n=>Lc.look n [],frz:=fun _=>[]}
theorem tieBMeetH :fnVC (env0 tb65 [] 58 []) conBMeetH NBMeetH (Try.f29.body.getD .skip) Try.f29.results.toList=BMeetH.VC:=by kernel_rfl
theorem okBMeetH :Sound Try.prog gl 29 conBMeetH:=fnS al65 Try.func29 (by kernel_rfl) (Eq.mpr tieBMeetH BMeetH.vc)
noncomputable def tb66 :Tb:=⟨(29,conBMeetH)::tb65.cs,tb65.pt⟩
theorem al66 :tb66.Ok:=⟨SoundAll.cons al65.1 okBMeetH,al65.2⟩
noncomputable def conBMeet :Con:={params:=[Tq23,.slc (.arr 32 (.int .u8))],rets:=[.deep (.int .i64)],pre:=fun x=>BMeet.pre x.1 x.2.1,fn:=fun x=>(BMeet.fn x.1 x.2.1,())}
noncomputable def NBMeet :Tup conBMeet.params→Notes:=fun _=>{loops:=fun n=>Lc.look n [],cuts:=fun n=>Lc.look n [],frz:=fun _=>[]}
theorem tieBMeet :fnVC (env0 tb66 [] 20 []) conBMeet NBMeet (Try.f11.body.getD .skip) Try.f11.results.toList=BMeet.VC:=by kernel_rfl
theorem okBMeet :Sound Try.prog gl 11 conBMeet:=fnS al66 Try.func11 (by kernel_rfl) (Eq.mpr tieBMeet BMeet.vc)
noncomputable def tb67 :Tb:=⟨(11,conBMeet)::tb66.cs,tb66.pt⟩
theorem al67 :tb67.Ok:=⟨SoundAll.cons al66.1 okBMeet,al66.2⟩
noncomputable def conBAfter :Con:={params:=[Tq23,.slc (.arr 32 (.int .u8)),.int .i64],rets:=[.deep (.slc (Tq5))],pre:=fun x=>BAfter.pre x.1 x.2.1 x.2.2.1,fn:=fun x=>(BAfter.fn x.1 x.2.1 x.2.2.1,())}
noncomputable def NBAfter :Tup conBAfter.params→Notes:=fun x=>{loops:=fun n=>Lc.look n [(6,{see:=[],ann:=fun _=>{frz:=[3],keep:=[2,3,24,25],vars:=[(7,.own (Tq5) true),(26,.val (.int .i64))],inv:=BAfter.inv6 x.1 x.2.1 x.2.2.1,mes:=BAfter.mes6 x.1 x.2.1 x.2.2.1}})],cuts:=fun n=>Lc.look n [],frz:=fun _=>[]}
theorem tieBAfter :fnVC (env0 tb67 [] 45 []) conBAfter NBAfter (Try.f14.body.getD .skip) Try.f14.results.toList=BAfter.VC:=by kernel_rfl
theorem okBAfter :Sound Try.prog gl 14 conBAfter:=fnS al67 Try.func14 (by kernel_rfl) (Eq.mpr tieBAfter BAfter.vc)
noncomputable def tb68 :Tb:=⟨(14,conBAfter)::tb67.cs,tb67.pt⟩
theorem al68 :tb68.Ok:=⟨SoundAll.cons al67.1 okBAfter,al67.2⟩
noncomputable def conLLine :Con:={params:=[.slc (.int .u8)],rets:=[.deep (Tq23)],pre:=fun x=>LLine.pre x.1,fn:=fun x=>(LLine.fn x.1,())}
noncomputable def ELLine :Env:={env0 tb68 [] 75 [] with lkd:=[(11,[])]}
noncomputable def NLLine :Tup conLLine.params→Notes:=fun x=>{loops:=fun n=>Lc.look n [(3,{see:=[],ann:=fun _=>{frz:=[],keep:=[13,14],vars:=[(2,.ptr (Tq23)),(3,.ptrL (Tq23) [([.fld 0],.pair (Tq5) (Tq21),1003)]),(15,.val (.int .i64))],inv:=LLine.inv3 x.1,mes:=LLine.mes3 x.1}}),(9,{see:=[(53,.val (.int .i64))],ann:=fun y=>{frz:=[],keep:=[53],vars:=[(2,.ptr (Tq23)),(3,.ptrL (Tq23) [([.fld 0],.pair (Tq5) (Tq21),1003)]),(54,.val (.int .i64))],inv:=LLine.inv9 x.1 y.1,mes:=LLine.mes9 x.1 y.1}})],cuts:=fun n=>Lc.look n [],frz:=fun _=>[]}
theorem tieLLine :fnVC ELLine conLLine NLLine (Try.f15.body.getD .skip) Try.f15.results.toList=LLine.VC:=by kernel_rfl
theorem okLLine :Sound Try.prog gl 15 conLLine:=fn_sound (E:=ELLine) (c:=conLLine) (ok_of (envOk_of (E:=ELLine) rfl rfl tabOk bytOk mutOk growOk) rfl al68.1 (ptr_of al68.2)) follows (fn:=Try.f15) Try.func15 (by kernel_rfl) (body:=Try.f15.body.getD .skip) (by kernel_rfl) (by kernel_rfl) (of_decide_eq_true (by kernel_rfl)) (Eq.mpr tieLLine LLine.vc)
noncomputable def tb69 :Tb:=⟨(15,conLLine)::tb68.cs,tb68.pt⟩
theorem al69 :tb69.Ok:=⟨SoundAll.cons al68.1 okLLine,al68.2⟩
noncomputable def conLSane :Con:={params:=[],rets:=[.deep (.bool)],pre:=fun _=>LSane.pre,fn:=fun _=>(LSane.fn,())}
noncomputable def ELSane :Env:={env0 tb69 [] 54 [] with icy:=[3]}
noncomputable def NLSane :Tup conLSane.params→Notes:=fun _=>{loops:=fun n=>Lc.look n [],cuts:=fun n=>Lc.look n [],frz:=fun _=>[]}
theorem tieLSane :fnVC ELSane conLSane NLSane (Try.f4.body.getD .skip) Try.f4.results.toList=LSane.VC:=by kernel_rfl
theorem okLSane :Sound Try.prog gl 4 conLSane:=fn_sound (E:=ELSane) (c:=conLSane) (ok_of (envOk_of (E:=ELSane) rfl rfl tabOk bytOk mutOk growOk) rfl al69.1 (ptr_of al69.2)) follows (fn:=Try.f4) Try.func4 (by kernel_rfl) (body:=Try.f4.body.getD .skip) (by kernel_rfl) (by kernel_rfl) (of_decide_eq_true (by kernel_rfl)) (Eq.mpr tieLSane LSane.vc)
noncomputable def tb70 :Tb:=⟨(4,conLSane)::tb69.cs,tb69.pt⟩
theorem al70 :tb70.Ok:=⟨SoundAll.cons al69.1 okLSane,al69.2⟩
end Go.Proofs.Ytkbnmdjmjjfdmaa
