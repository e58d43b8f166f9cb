/- The ties of the functions of this seat to their conditions, and their contracts. -/
import Derived.Test.YtlhdieoemhjjiaaGreatDoorChecked
import Derived.Test.YtlhdieoemhjjiaaGreatDoorMades
import Derived.Test.YtlhdieoemhjjiaaGreatDoorTrees
import Derived.Test.YtlhdieoemhjjiaaGreatDoorClones
import Derived.Test.YtlhdieoemhjjiaaGreatDoorRngs
import Derived.Test.YtlhdieoemhjjiaaGreatDoorSortw
import Derived.Test.YtlhdieoemhjjiaaGreatDoorChain
set_option linter.unusedVariables false
set_option linter.unusedSimpArgs false
namespace Go.Proofs.YtlhdieoemhjjiaaGreatDoor
open Go Lc
set_option maxRecDepth 1000000
abbrev Tq1 :Ty:= .pair (.int .u32) (.pair (.int .u32) (.unit))
abbrev Tq3 :Ty:= .pair (.arr 32 (.int .u8)) (.pair (.int .u32) (Tq1))
abbrev Tq5 :Ty:= .pair (.int .u32) (.pair (.arr 32 (.int .u8)) (Tq3))
abbrev Tq7 :Ty:= .pair (.int .i64) (.pair (.arr 32 (.int .u8)) (.unit))
abbrev Tq9 :Ty:= .pair (.int .i64) (.pair (.int .i64) (.unit))
abbrev Tq11 :Ty:= .pair (.slc (Tq7)) (.pair (.int .i64) (Tq9))
abbrev Tq13 :Ty:= .pair (.int .u32) (.pair (.int .u32) (Tq11))
abbrev Tq15 :Ty:= .pair (.int .i64) (.pair (.int .u32) (Tq13))
abbrev Tq17 :Ty:= .pair (Tq5) (.pair (.arr 4 (.int .u64)) (Tq15))
abbrev Tq19 :Ty:= .pair (.int .i64) (.pair (.arr 4 (.int .u64)) (.unit))
abbrev Tq21 :Ty:= .pair (.arr 32 (.int .u8)) (.pair (.int .i64) (Tq19))
abbrev Tq23 :Ty:= .pair (.slc (.pair (Tq5) (Tq21))) (.pair (.int .i64) (.unit))
abbrev Tq25 :Ty:= .pair (.int .u32) (.pair (.slc (.int .u32)) (.unit))
abbrev Tq27 :Ty:= .pair (.arr 32 (.int .u8)) (.pair (.int .u32) (Tq25))
noncomputable def tyT :List (Nat×Ty):=[(2,.int .i64),(3,.int .i64),(4,.bool),(5,.int .u8),(9,.str),(22,.int .u32),(24,.arr 32 (.int .u8)),(26,Tq5),(27,.int .u64),(29,.arr 4 (.int .u64)),(30,.slc (Tq7)),(32,Tq17),(33,.slc (.pair (Tq5) (Tq21))),(35,Tq23),(36,.slc (.int .u8)),(40,.int .i64),(49,.pair (Tq5) (Tq21)),(61,.slc (.pair (.int .i64) (Tq27))),(64,.slc (.int .u32)),(66,.pair (.int .i64) (Tq27)),(85,.slc (.bool)),(88,.slc (.int .i64)),(94,Tq7),(101,.map (.arr 32 (.int .u8)) (.bool)),(116,.int .u64),(129,.arr 8 (.int .u32)),(131,.arr 64 (.int .u8)),(143,.slc (.slc (.int .u8))),(144,.arr 64 (.int .u32)),(151,.arr 8 (.int .u64)),(153,.slc (.int .u64))]
noncomputable def byT :List (Nat×Nat):=[(30,40),(33,160),(36,1),(61,72),(64,4),(85,1),(88,8),(143,24),(153,8)]
theorem tabOk :tabB Tryz.prog tyT=true:=by kernel_rfl
theorem bytOk :bytB Tryz.prog byT tyT=true:=by kernel_rfl
noncomputable def glT :List (Nat×TV):=[(0,⟨.arr 8 (.int .u32),ShaInitial⟩),(1,⟨.arr 64 (.int .u32),ShaK⟩)]
noncomputable def gl :Nat→Option TV:=fun n=>Lc.look n glT
theorem follows :Tryz.prog.follows .mixedOrders=true:=by kernel_rfl
noncomputable def mutT :List (Nat×Mut):=[(114,⟨.int .u32,[115],SortPre,SortFn,false⟩)]
theorem mutOk :∀f m,Lc.look f mutT=some m→SoundM Tryz.prog f m:=by
 intro f m h
 have h:=look_mem h
 simp only[mutT,List.mem_cons,List.not_mem_nil,or_false,Prod.mk.injEq] at h
 rcases h with⟨rfl,rfl⟩
 ·exact sortSound
noncomputable def growT :List (Nat×Ty):=[]
theorem growOk :∀f u,Lc.look f growT=some u→SoundG Tryz.prog f u:=by
 intro f u h
 cases h
structure Tb where
 cs:List (Nat×Con)
 pt:List (Nat×ConP)
 vt:List (Nat×ConV)
def Tb.Ok (t:Tb):Prop:=SoundAll Tryz.prog gl t.cs∧SoundPAll Tryz.prog gl t.pt∧SoundVAll Tryz.prog gl t.vt
noncomputable def env0 (t:Tb)(wr:List Nat)(ntm:Nat)(lock:List Nat):Env:={P:=Tryz.prog,ty:=fun n=>Lc.look n tyT,bytes:=fun n=>(Lc.look n byT).getD 0,glob:=gl,con:=fun f=>Lc.look f t.cs,wr:=wr,ntm:=ntm,lock:=lock,turn:=fun f=>Lc.look f mutT,grow:=fun f=>Lc.look f growT,ptr:=fun f=>Lc.look f t.pt,byv:=fun f=>Lc.look f t.vt}
theorem fnS {t:Tb}(ht:t.Ok){wr:List Nat}{ntm:Nat}{lock:List Nat}{f:FuncId}{fn:Func}{c:Con}{N:Tup c.params→Notes}(hf:Tryz.prog.funcs[f]? =some fn)
 (hk:(!(fn.name== "runtime.NumGoroutine")&&(fn.body.isSome&&(Nat.beq ntm fn.ntmps&&Nat.ble c.params.length fn.ntmps)))=true) (h:fnVC (env0 t wr ntm lock) c N (fn.body.getD .skip) fn.results.toList):Sound Tryz.prog gl f c:=by
 simp only[Bool.and_eq_true,Bool.not_eq_true'] at hk
 obtain⟨h1,h2,h3,h4⟩:=hk
 have hb:fn.body=some (fn.body.getD .skip):=by cases hq:fn.body with|none=>rw[hq] at h2;cases h2|some b=>rfl
 exact fn_sound (E:=env0 t wr ntm lock) (c:=c) (ok_of (envOk_of (E:=env0 t wr ntm lock) rfl rfl tabOk bytOk mutOk growOk) rfl ht.1 (ptr_of ht.2.1) (byv_of ht.2.2)) follows hf h1 hb (Nat.eq_of_beq_eq_true h3) (Nat.le_of_ble_eq_true h4) h
theorem fnQ {t:Tb}(ht:t.Ok){wr:List Nat}{ntm:Nat}{f:FuncId}{fn:Func}{c:ConP}{N:c.t.den→Tup c.params→Notes}(hf:Tryz.prog.funcs[f]? =some fn)
 (hk:(!(fn.name== "runtime.NumGoroutine")&&(fn.body.isSome&&(Nat.beq ntm fn.ntmps&&(Nat.ble (c.params.length+1) fn.ntmps&&(nodupB (0::c.ps.map (·.2.2))&&c.rets.all RK.plain)))))=true) (h:fnVCP (env0 t wr ntm [0]) c N (fn.body.getD .skip) fn.results.toList):SoundP Tryz.prog gl f c:=by
 simp only[Bool.and_eq_true,Bool.not_eq_true'] at hk
 obtain⟨h1,h2,h3,h4,h5,h6⟩:=hk
 have hb:fn.body=some (fn.body.getD .skip):=by cases hq:fn.body with|none=>rw[hq] at h2;cases h2|some b=>rfl
 exact fnP_sound (E:=env0 t wr ntm [0]) (c:=c) (ok_of (envOk_of (E:=env0 t wr ntm [0]) rfl rfl tabOk bytOk mutOk growOk) rfl ht.1 (ptr_of ht.2.1) (byv_of ht.2.2)) follows hf h1 hb (Nat.eq_of_beq_eq_true h3) (Nat.le_of_ble_eq_true h4) (List.mem_singleton.2 rfl) h5 h6 h
theorem fnW {t:Tb}(ht:t.Ok){wr:List Nat}{ntm:Nat}{lock:List Nat}{f:FuncId}{fn:Func}{c:ConV}{N:c.t.den→Tup c.params→Notes}(hf:Tryz.prog.funcs[f]? =some fn)
 (hk:(!(fn.name== "runtime.NumGoroutine")&&(fn.body.isSome&&(Nat.beq ntm fn.ntmps&&(Nat.ble (c.params.length+1) fn.ntmps&&nodupB (0::c.ps.map (·.2.2))))))=true) (h:fnVCV (env0 t wr ntm lock) c N (fn.body.getD .skip) fn.results.toList):SoundV Tryz.prog gl f c:=by
 simp only[Bool.and_eq_true,Bool.not_eq_true'] at hk
 obtain⟨h1,h2,h3,h4,h5⟩:=hk
 have hb:fn.body=some (fn.body.getD .skip):=by cases hq:fn.body with|none=>rw[hq] at h2;cases h2|some b=>rfl
 exact fnV_sound (E:=env0 t wr ntm lock) (c:=c) (ok_of (envOk_of (E:=env0 t wr ntm lock) rfl rfl tabOk bytOk mutOk growOk) rfl ht.1 (ptr_of ht.2.1) (byv_of ht.2.2)) follows hf h1 hb (Nat.eq_of_beq_eq_true h3) (Nat.le_of_ble_eq_true h4) h5 h
noncomputable def tb0 :Tb:=⟨[],[],[]⟩
theorem al0 :tb0.Ok:=⟨SoundAll.nil,SoundPAll.nil,SoundVAll.nil⟩
noncomputable def conRotL :Con:={params:=[.int .u32,.int .i64],rets:=[.deep (.int .u32)],pre:=fun x=>RotL.pre x.1 x.2.1,fn:=fun x=>(RotL.fn x.1 x.2.1,())}
noncomputable def NRotL :Tup conRotL.params→Notes:=fun _=>{loops:=fun n=>Lc.look n [],cuts:=fun n=>Lc.look n [],frz:=fun _=>[]}
theorem tieRotL :fnVC (env0 tb0 [] 17 []) conRotL NRotL (Tryz.f131.body.getD .skip) Tryz.f131.results.toList=RotL.VC:=by kernel_rfl
theorem okRotL :Sound Tryz.prog gl 131 conRotL:=fnS al0 Tryz.func131 (by kernel_rfl) (Eq.mpr tieRotL RotL.vc)
noncomputable def tb1 :Tb:=⟨(131,conRotL)::tb0.cs,tb0.pt,tb0.vt⟩
theorem al1 :tb1.Ok:=⟨SoundAll.cons al0.1 okRotL,al0.2⟩
noncomputable def conShaRotr :Con:={params:=[.int .u32,.int .i64],rets:=[.deep (.int .u32)],pre:=fun x=>ShaRotr.pre x.1 x.2.1,fn:=fun x=>(ShaRotr.fn x.1 x.2.1,())}
noncomputable def NShaRotr :Tup conShaRotr.params→Notes:=fun _=>{loops:=fun n=>Lc.look n [],cuts:=fun n=>Lc.look n [],frz:=fun _=>[]}
theorem tieShaRotr :fnVC (env0 tb1 [] 9 []) conShaRotr NShaRotr (Tryz.f120.body.getD .skip) Tryz.f120.results.toList=ShaRotr.VC:=by kernel_rfl
theorem okShaRotr :Sound Tryz.prog gl 120 conShaRotr:=fnS al1 Tryz.func120 (by kernel_rfl) (Eq.mpr tieShaRotr ShaRotr.vc)
noncomputable def tb2 :Tb:=⟨(120,conShaRotr)::tb1.cs,tb1.pt,tb1.vt⟩
theorem al2 :tb2.Ok:=⟨SoundAll.cons al1.1 okShaRotr,al1.2⟩
noncomputable def conShaSched :Con:={params:=[.arr 64 (.int .u8)],rets:=[.deep (.arr 64 (.int .u32))],pre:=fun x=>ShaSched.pre x.1,fn:=fun x=>(ShaSched.fn x.1,())}
noncomputable def NShaSched :Tup conShaSched.params→Notes:=fun x=>{loops:=fun n=>Lc.look n [(3,{see:=[],ann:=fun _=>{frz:=[1],keep:=[1],vars:=[(2,.ptr (.arr 64 (.int .u32))),(3,.ptr (.arr 64 (.int .u32))),(9,.val (.int .i64))],inv:=ShaSched.inv3 x.1,mes:=ShaSched.mes3 x.1}}),(6,{see:=[(4,.val (.int .i64))],ann:=fun y=>{frz:=[],keep:=[1,4,9],vars:=[(2,.ptr (.arr 64 (.int .u32))),(3,.ptr (.arr 64 (.int .u32))),(12,.val (.int .i64))],inv:=ShaSched.inv6 x.1 y.1,mes:=ShaSched.mes6 x.1 y.1}}),(12,{see:=[],ann:=fun _=>{frz:=[],keep:=[],vars:=[(2,.ptr (.arr 64 (.int .u32))),(3,.ptr (.arr 64 (.int .u32))),(6,.val (.int .i64))],inv:=ShaSched.inv12 x.1,mes:=ShaSched.mes12 x.1}})],cuts:=fun n=>Lc.look n [],frz:=fun _=>[]}
theorem tieShaSched :fnVC (env0 tb2 [] 85 []) conShaSched NShaSched (Tryz.f119.body.getD .skip) Tryz.f119.results.toList=ShaSched.VC:=by kernel_rfl
theorem okShaSched :Sound Tryz.prog gl 119 conShaSched:=fnS al2 Tryz.func119 (by kernel_rfl) (Eq.mpr tieShaSched ShaSched.vc)
noncomputable def tb3 :Tb:=⟨(119,conShaSched)::tb2.cs,tb2.pt,tb2.vt⟩
theorem al3 :tb3.Ok:=⟨SoundAll.cons al2.1 okShaSched,al2.2⟩
noncomputable def conShaCompress :Con:={params:=[.arr 8 (.int .u32),.arr 64 (.int .u8)],rets:=[.deep (.arr 8 (.int .u32))],pre:=fun x=>ShaCompress.pre x.1 x.2.1,fn:=fun x=>(ShaCompress.fn x.1 x.2.1,())}
noncomputable def NShaCompress :Tup conShaCompress.params→Notes:=fun x=>{loops:=fun n=>Lc.look n [(5,{see:=[],ann:=fun _=>{frz:=[2],keep:=[2],vars:=[(4,.ptr (.arr 8 (.int .u32))),(5,.ptr (.arr 64 (.int .u32))),(6,.val (.int .u32)),(7,.val (.int .u32)),(8,.val (.int .u32)),(9,.val (.int .u32)),(10,.val (.int .u32)),(11,.val (.int .u32)),(12,.val (.int .u32)),(13,.val (.int .u32)),(35,.val (.int .i64))],inv:=ShaCompress.inv5 x.1 x.2.1,mes:=ShaCompress.mes5 x.1 x.2.1}})],cuts:=fun n=>Lc.look n [],frz:=fun _=>[]}
theorem tieShaCompress :fnVC (env0 tb3 [] 131 []) conShaCompress NShaCompress (Tryz.f100.body.getD .skip) Tryz.f100.results.toList=ShaCompress.VC:=by kernel_rfl
theorem okShaCompress :Sound Tryz.prog gl 100 conShaCompress:=fnS al3 Tryz.func100 (by kernel_rfl) (Eq.mpr tieShaCompress ShaCompress.vc)
noncomputable def tb4 :Tb:=⟨(100,conShaCompress)::tb3.cs,tb3.pt,tb3.vt⟩
theorem al4 :tb4.Ok:=⟨SoundAll.cons al3.1 okShaCompress,al3.2⟩
noncomputable def conShaPad :Con:={params:=[.int .u64],rets:=[.own (.int .u8)],pre:=fun x=>ShaPad.pre x.1,fn:=fun x=>(ShaPad.fn x.1,())}
noncomputable def NShaPad :Tup conShaPad.params→Notes:=fun x=>{loops:=fun n=>Lc.look n [(5,{see:=[],ann:=fun _=>{frz:=[],keep:=[0],vars:=[(4,.own (.int .u8) false),(18,.val (.int .i64))],inv:=ShaPad.inv5 x.1,mes:=ShaPad.mes5 x.1}})],cuts:=fun n=>Lc.look n [],frz:=fun _=>[]}
theorem tieShaPad :fnVC (env0 tb4 [30] 33 []) conShaPad NShaPad (Tryz.f99.body.getD .skip) Tryz.f99.results.toList=ShaPad.VC:=by kernel_rfl
theorem okShaPad :Sound Tryz.prog gl 99 conShaPad:=fnS al4 Tryz.func99 (by kernel_rfl) (Eq.mpr tieShaPad ShaPad.vc)
noncomputable def tb5 :Tb:=⟨(99,conShaPad)::tb4.cs,tb4.pt,tb4.vt⟩
theorem al5 :tb5.Ok:=⟨SoundAll.cons al4.1 okShaPad,al4.2⟩
noncomputable def conShaRow :Con:={params:=[.slc (.slc (.int .u8))],rets:=[.own (.int .u8)],pre:=fun x=>ShaRow.pre x.1,fn:=fun x=>(ShaRow.fn x.1,())}
noncomputable def NShaRow :Tup conShaRow.params→Notes:=fun x=>{loops:=fun n=>Lc.look n [(3,{see:=[],ann:=fun _=>{frz:=[],keep:=[6,7],vars:=[(3,.own (.int .u8) true),(8,.val (.int .i64))],inv:=ShaRow.inv3 x.1,mes:=ShaRow.mes3 x.1}})],cuts:=fun n=>Lc.look n [],frz:=fun _=>[]}
theorem tieShaRow :fnVC (env0 tb5 [] 17 []) conShaRow NShaRow (Tryz.f98.body.getD .skip) Tryz.f98.results.toList=ShaRow.VC:=by kernel_rfl
theorem okShaRow :Sound Tryz.prog gl 98 conShaRow:=fnS al5 Tryz.func98 (by kernel_rfl) (Eq.mpr tieShaRow ShaRow.vc)
noncomputable def tb6 :Tb:=⟨(98,conShaRow)::tb5.cs,tb5.pt,tb5.vt⟩
theorem al6 :tb6.Ok:=⟨SoundAll.cons al5.1 okShaRow,al5.2⟩
noncomputable def conShaSum :Con:={params:=[.slc (.int .u8)],rets:=[.deep (.arr 32 (.int .u8))],pre:=fun x=>ShaSum.pre x.1,fn:=fun x=>(ShaSum.fn x.1,())}
noncomputable def NShaSum :Tup conShaSum.params→Notes:=fun x=>{loops:=fun n=>Lc.look n [(4,{see:=[],ann:=fun _=>{frz:=[],keep:=[3,18],vars:=[(2,.ptr (.arr 32 (.int .u8))),(4,.ptr (.arr 8 (.int .u32))),(19,.val (.int .i64))],inv:=ShaSum.inv4 x.1,mes:=ShaSum.mes4 x.1}}),(10,{see:=[],ann:=fun _=>{frz:=[],keep:=[],vars:=[(2,.ptr (.arr 32 (.int .u8))),(4,.ptr (.arr 8 (.int .u32))),(6,.ptr (.arr 32 (.int .u8))),(31,.val (.int .i64))],inv:=ShaSum.inv10 x.1,mes:=ShaSum.mes10 x.1}})],cuts:=fun n=>Lc.look n [],frz:=fun _=>[]}
theorem tieShaSum :fnVC (env0 tb6 [] 48 []) conShaSum NShaSum (Tryz.f74.body.getD .skip) Tryz.f74.results.toList=ShaSum.VC:=by kernel_rfl
theorem okShaSum :Sound Tryz.prog gl 74 conShaSum:=fnS al6 Tryz.func74 (by kernel_rfl) (Eq.mpr tieShaSum ShaSum.vc)
noncomputable def tb7 :Tb:=⟨(74,conShaSum)::tb6.cs,tb6.pt,tb6.vt⟩
theorem al7 :tb7.Ok:=⟨SoundAll.cons al6.1 okShaSum,al6.2⟩
noncomputable def conShaDouble :Con:={params:=[.slc (.int .u8)],rets:=[.deep (.arr 32 (.int .u8))],pre:=fun x=>ShaDouble.pre x.1,fn:=fun x=>(ShaDouble.fn x.1,())}
noncomputable def NShaDouble :Tup conShaDouble.params→Notes:=fun _=>{loops:=fun n=>Lc.look n [],cuts:=fun n=>Lc.look n [],frz:=fun _=>[]}
theorem tieShaDouble :fnVC (env0 tb7 [] 8 []) conShaDouble NShaDouble (Tryz.f49.body.getD .skip) Tryz.f49.results.toList=ShaDouble.VC:=by kernel_rfl
theorem okShaDouble :Sound Tryz.prog gl 49 conShaDouble:=fnS al7 Tryz.func49 (by kernel_rfl) (Eq.mpr tieShaDouble ShaDouble.vc)
noncomputable def tb8 :Tb:=⟨(49,conShaDouble)::tb7.cs,tb7.pt,tb7.vt⟩
theorem al8 :tb8.Ok:=⟨SoundAll.cons al7.1 okShaDouble,al7.2⟩
noncomputable def conRefRotr :Con:={params:=[.int .u32,.int .i64],rets:=[.deep (.int .u32)],pre:=fun x=>RefRotr.pre x.1 x.2.1,fn:=fun x=>(RefRotr.fn x.1 x.2.1,())}
noncomputable def NRefRotr :Tup conRefRotr.params→Notes:=fun _=>{loops:=fun n=>Lc.look n [],cuts:=fun n=>Lc.look n [],frz:=fun _=>[]}
theorem tieRefRotr :fnVC (env0 tb8 [] 9 []) conRefRotr NRefRotr (Tryz.f124.body.getD .skip) Tryz.f124.results.toList=RefRotr.VC:=by kernel_rfl
theorem okRefRotr :Sound Tryz.prog gl 124 conRefRotr:=fnS al8 Tryz.func124 (by kernel_rfl) (Eq.mpr tieRefRotr RefRotr.vc)
noncomputable def tb9 :Tb:=⟨(124,conRefRotr)::tb8.cs,tb8.pt,tb8.vt⟩
theorem al9 :tb9.Ok:=⟨SoundAll.cons al8.1 okRefRotr,al8.2⟩
noncomputable def conRefConsts :Con:={params:=[],rets:=[.deep (.arr 64 (.int .u32))],pre:=fun _=>RefConsts.pre,fn:=fun _=>(RefConsts.fn,())}
noncomputable def NRefConsts :Tup conRefConsts.params→Notes:=fun _=>{loops:=fun n=>Lc.look n [],cuts:=fun n=>Lc.look n [],frz:=fun _=>[]}
theorem tieRefConsts :fnVC (env0 tb9 [] 2 []) conRefConsts NRefConsts (Tryz.f123.body.getD .skip) Tryz.f123.results.toList=RefConsts.VC:=by kernel_rfl
theorem okRefConsts :Sound Tryz.prog gl 123 conRefConsts:=fnS al9 Tryz.func123 (by kernel_rfl) (Eq.mpr tieRefConsts RefConsts.vc)
noncomputable def tb10 :Tb:=⟨(123,conRefConsts)::tb9.cs,tb9.pt,tb9.vt⟩
theorem al10 :tb10.Ok:=⟨SoundAll.cons al9.1 okRefConsts,al9.2⟩
noncomputable def conRefInitial :Con:={params:=[],rets:=[.deep (.arr 8 (.int .u32))],pre:=fun _=>RefInitial.pre,fn:=fun _=>(RefInitial.fn,())}
noncomputable def NRefInitial :Tup conRefInitial.params→Notes:=fun _=>{loops:=fun n=>Lc.look n [],cuts:=fun n=>Lc.look n [],frz:=fun _=>[]}
theorem tieRefInitial :fnVC (env0 tb10 [] 2 []) conRefInitial NRefInitial (Tryz.f106.body.getD .skip) Tryz.f106.results.toList=RefInitial.VC:=by kernel_rfl
theorem okRefInitial :Sound Tryz.prog gl 106 conRefInitial:=fnS al10 Tryz.func106 (by kernel_rfl) (Eq.mpr tieRefInitial RefInitial.vc)
noncomputable def tb11 :Tb:=⟨(106,conRefInitial)::tb10.cs,tb10.pt,tb10.vt⟩
theorem al11 :tb11.Ok:=⟨SoundAll.cons al10.1 okRefInitial,al10.2⟩
noncomputable def conRefSched :Con:={params:=[.arr 64 (.int .u8)],rets:=[.deep (.arr 64 (.int .u32))],pre:=fun x=>RefSched.pre x.1,fn:=fun x=>(RefSched.fn x.1,())}
noncomputable def NRefSched :Tup conRefSched.params→Notes:=fun x=>{loops:=fun n=>Lc.look n [(3,{see:=[],ann:=fun _=>{frz:=[1],keep:=[1],vars:=[(2,.ptr (.arr 64 (.int .u32))),(3,.ptr (.arr 64 (.int .u32))),(4,.val (.int .i64))],inv:=RefSched.inv3 x.1,mes:=RefSched.mes3 x.1}}),(7,{see:=[],ann:=fun _=>{frz:=[],keep:=[],vars:=[(2,.ptr (.arr 64 (.int .u32))),(3,.ptr (.arr 64 (.int .u32))),(5,.val (.int .i64))],inv:=RefSched.inv7 x.1,mes:=RefSched.mes7 x.1}})],cuts:=fun n=>Lc.look n [],frz:=fun _=>[]}
theorem tieRefSched :fnVC (env0 tb11 [] 97 []) conRefSched NRefSched (Tryz.f122.body.getD .skip) Tryz.f122.results.toList=RefSched.VC:=by kernel_rfl
theorem okRefSched :Sound Tryz.prog gl 122 conRefSched:=fnS al11 Tryz.func122 (by kernel_rfl) (Eq.mpr tieRefSched RefSched.vc)
noncomputable def tb12 :Tb:=⟨(122,conRefSched)::tb11.cs,tb11.pt,tb11.vt⟩
theorem al12 :tb12.Ok:=⟨SoundAll.cons al11.1 okRefSched,al11.2⟩
noncomputable def conRefCompress :Con:={params:=[.arr 8 (.int .u32),.arr 64 (.int .u8)],rets:=[.deep (.arr 8 (.int .u32))],pre:=fun x=>RefCompress.pre x.1 x.2.1,fn:=fun x=>(RefCompress.fn x.1 x.2.1,())}
noncomputable def NRefCompress :Tup conRefCompress.params→Notes:=fun x=>{loops:=fun n=>Lc.look n [(4,{see:=[],ann:=fun _=>{frz:=[2],keep:=[2],vars:=[(4,.ptr (.arr 8 (.int .u32))),(5,.ptr (.arr 64 (.int .u32))),(6,.ptr (.arr 64 (.int .u32))),(7,.val (.int .u32)),(8,.val (.int .u32)),(9,.val (.int .u32)),(10,.val (.int .u32)),(11,.val (.int .u32)),(12,.val (.int .u32)),(13,.val (.int .u32)),(14,.val (.int .u32)),(15,.val (.int .i64))],inv:=RefCompress.inv4 x.1 x.2.1,mes:=RefCompress.mes4 x.1 x.2.1}})],cuts:=fun n=>Lc.look n [],frz:=fun _=>[]}
theorem tieRefCompress :fnVC (env0 tb12 [] 133 []) conRefCompress NRefCompress (Tryz.f107.body.getD .skip) Tryz.f107.results.toList=RefCompress.VC:=by kernel_rfl
theorem okRefCompress :Sound Tryz.prog gl 107 conRefCompress:=fnS al12 Tryz.func107 (by kernel_rfl) (Eq.mpr tieRefCompress RefCompress.vc)
noncomputable def tb13 :Tb:=⟨(107,conRefCompress)::tb12.cs,tb12.pt,tb12.vt⟩
theorem al13 :tb13.Ok:=⟨SoundAll.cons al12.1 okRefCompress,al12.2⟩
noncomputable def conRefPad :Con:={params:=[.int .u64],rets:=[.own (.int .u8)],pre:=fun x=>RefPad.pre x.1,fn:=fun x=>(RefPad.fn x.1,())}
noncomputable def NRefPad :Tup conRefPad.params→Notes:=fun x=>{loops:=fun n=>Lc.look n [(2,{see:=[],ann:=fun _=>{frz:=[],keep:=[0],vars:=[(3,.own (.int .u8) true)],inv:=RefPad.inv2 x.1,mes:=RefPad.mes2 x.1}}),(5,{see:=[],ann:=fun _=>{frz:=[],keep:=[0],vars:=[(3,.own (.int .u8) true),(4,.val (.int .i64))],inv:=RefPad.inv5 x.1,mes:=RefPad.mes5 x.1}})],cuts:=fun n=>Lc.look n [],frz:=fun _=>[]}
theorem tieRefPad :fnVC (env0 tb13 [] 31 []) conRefPad NRefPad (Tryz.f105.body.getD .skip) Tryz.f105.results.toList=RefPad.VC:=by kernel_rfl
theorem okRefPad :Sound Tryz.prog gl 105 conRefPad:=fnS al13 Tryz.func105 (by kernel_rfl) (Eq.mpr tieRefPad RefPad.vc)
noncomputable def tb14 :Tb:=⟨(105,conRefPad)::tb13.cs,tb13.pt,tb13.vt⟩
theorem al14 :tb14.Ok:=⟨SoundAll.cons al13.1 okRefPad,al13.2⟩
noncomputable def conRefSum :Con:={params:=[.slc (.int .u8)],rets:=[.deep (.arr 32 (.int .u8))],pre:=fun x=>RefSum.pre x.1,fn:=fun x=>(RefSum.fn x.1,())}
noncomputable def NRefSum :Tup conRefSum.params→Notes:=fun x=>{loops:=fun n=>Lc.look n [(4,{see:=[],ann:=fun _=>{frz:=[],keep:=[3],vars:=[(2,.ptr (.arr 32 (.int .u8))),(4,.ptr (.arr 8 (.int .u32))),(5,.val (.int .i64))],inv:=RefSum.inv4 x.1,mes:=RefSum.mes4 x.1}}),(11,{see:=[(33,.val (.arr 8 (.int .u32)))],ann:=fun y=>{frz:=[],keep:=[33],vars:=[(2,.ptr (.arr 32 (.int .u8))),(7,.ptr (.arr 32 (.int .u8))),(34,.val (.int .i64))],inv:=RefSum.inv11 x.1 y.1,mes:=RefSum.mes11 x.1 y.1}})],cuts:=fun n=>Lc.look n [],frz:=fun _=>[]}
theorem tieRefSum :fnVC (env0 tb14 [] 66 []) conRefSum NRefSum (Tryz.f83.body.getD .skip) Tryz.f83.results.toList=RefSum.VC:=by kernel_rfl
theorem okRefSum :Sound Tryz.prog gl 83 conRefSum:=fnS al14 Tryz.func83 (by kernel_rfl) (Eq.mpr tieRefSum RefSum.vc)
noncomputable def tb15 :Tb:=⟨(83,conRefSum)::tb14.cs,tb14.pt,tb14.vt⟩
theorem al15 :tb15.Ok:=⟨SoundAll.cons al14.1 okRefSum,al14.2⟩
noncomputable def conRefDouble :Con:={params:=[.slc (.int .u8)],rets:=[.deep (.arr 32 (.int .u8))],pre:=fun x=>RefDouble.pre x.1,fn:=fun x=>(RefDouble.fn x.1,())}
noncomputable def NRefDouble :Tup conRefDouble.params→Notes:=fun _=>{loops:=fun n=>Lc.look n [],cuts:=fun n=>Lc.look n [],frz:=fun _=>[]}
theorem tieRefDouble :fnVC (env0 tb15 [] 8 []) conRefDouble NRefDouble (Tryz.f55.body.getD .skip) Tryz.f55.results.toList=RefDouble.VC:=by kernel_rfl
theorem okRefDouble :Sound Tryz.prog gl 55 conRefDouble:=fnS al15 Tryz.func55 (by kernel_rfl) (Eq.mpr tieRefDouble RefDouble.vc)
noncomputable def tb16 :Tb:=⟨(55,conRefDouble)::tb15.cs,tb15.pt,tb15.vt⟩
theorem al16 :tb16.Ok:=⟨SoundAll.cons al15.1 okRefDouble,al15.2⟩
noncomputable def conLen64 :Con:={params:=[.int .u64],rets:=[.deep (.int .i64)],pre:=fun x=>Len64.pre x.1,fn:=fun x=>(Len64.fn x.1,())}
noncomputable def NLen64 :Tup conLen64.params→Notes:=fun _=>{loops:=fun n=>Lc.look n [],cuts:=fun n=>Lc.look n [],frz:=fun _=>[]}
theorem tieLen64 :fnVC (env0 tb16 [] 25 []) conLen64 NLen64 (Tryz.f95.body.getD .skip) Tryz.f95.results.toList=Len64.VC:=by kernel_rfl
theorem okLen64 :Sound Tryz.prog gl 95 conLen64:=fnS al16 Tryz.func95 (by kernel_rfl) (Eq.mpr tieLen64 Len64.vc)
noncomputable def tb17 :Tb:=⟨(95,conLen64)::tb16.cs,tb16.pt,tb16.vt⟩
theorem al17 :tb17.Ok:=⟨SoundAll.cons al16.1 okLen64,al16.2⟩
noncomputable def conAdd64 :Con:={params:=[.int .u64,.int .u64,.int .u64],rets:=[.deep (.int .u64),.deep (.int .u64)],pre:=fun x=>Add64.pre x.1 x.2.1 x.2.2.1,fn:=fun x=>((Add64.fn x.1 x.2.1 x.2.2.1).1,((Add64.fn x.1 x.2.1 x.2.2.1).2,()))}
theorem okAdd64 :SoundE Tryz.prog 33 conAdd64:=add64E (fn:=Tryz.f33) (by kernel_rfl) (by kernel_rfl) (by kernel_rfl) (by kernel_rfl) (by kernel_rfl)
noncomputable def tb18 :Tb:=⟨(33,conAdd64)::tb17.cs,tb17.pt,tb17.vt⟩
theorem al18 :tb18.Ok:=⟨SoundAll.consE al17.1 okAdd64,al17.2⟩
noncomputable def conSub64 :Con:={params:=[.int .u64,.int .u64,.int .u64],rets:=[.deep (.int .u64),.deep (.int .u64)],pre:=fun x=>Sub64.pre x.1 x.2.1 x.2.2.1,fn:=fun x=>((Sub64.fn x.1 x.2.1 x.2.2.1).1,((Sub64.fn x.1 x.2.1 x.2.2.1).2,()))}
theorem okSub64 :SoundE Tryz.prog 121 conSub64:=sub64E (fn:=Tryz.f121) (by kernel_rfl) (by kernel_rfl) (by kernel_rfl) (by kernel_rfl) (by kernel_rfl)
noncomputable def tb19 :Tb:=⟨(121,conSub64)::tb18.cs,tb18.pt,tb18.vt⟩
theorem al19 :tb19.Ok:=⟨SoundAll.consE al18.1 okSub64,al18.2⟩
noncomputable def conMul64 :Con:={params:=[.int .u64,.int .u64],rets:=[.deep (.int .u64),.deep (.int .u64)],pre:=fun x=>Mul64.pre x.1 x.2.1,fn:=fun x=>((Mul64.fn x.1 x.2.1).1,((Mul64.fn x.1 x.2.1).2,()))}
noncomputable def NMul64 :Tup conMul64.params→Notes:=fun _=>{loops:=fun n=>Lc.look n [],cuts:=fun n=>Lc.look n [],frz:=fun _=>[]}
theorem tieMul64 :fnVC (env0 tb19 [] 51 []) conMul64 NMul64 (Tryz.f130.body.getD .skip) Tryz.f130.results.toList=Mul64.VC:=by kernel_rfl
theorem okMul64 :Sound Tryz.prog gl 130 conMul64:=fnS al19 Tryz.func130 (by kernel_rfl) (Eq.mpr tieMul64 Mul64.vc)
noncomputable def tb20 :Tb:=⟨(130,conMul64)::tb19.cs,tb19.pt,tb19.vt⟩
theorem al20 :tb20.Ok:=⟨SoundAll.cons al19.1 okMul64,al19.2⟩
noncomputable def conWFrom :Con:={params:=[.int .u64],rets:=[.deep (.arr 4 (.int .u64))],pre:=fun x=>WFrom.pre x.1,fn:=fun x=>(WFrom.fn x.1,())}
noncomputable def NWFrom :Tup conWFrom.params→Notes:=fun _=>{loops:=fun n=>Lc.look n [],cuts:=fun n=>Lc.look n [],frz:=fun _=>[]}
theorem tieWFrom :fnVC (env0 tb20 [] 5 []) conWFrom NWFrom (Tryz.f71.body.getD .skip) Tryz.f71.results.toList=WFrom.VC:=by kernel_rfl
theorem okWFrom :Sound Tryz.prog gl 71 conWFrom:=fnS al20 Tryz.func71 (by kernel_rfl) (Eq.mpr tieWFrom WFrom.vc)
noncomputable def tb21 :Tb:=⟨(71,conWFrom)::tb20.cs,tb20.pt,tb20.vt⟩
theorem al21 :tb21.Ok:=⟨SoundAll.cons al20.1 okWFrom,al20.2⟩
noncomputable def conWCmp :Con:={params:=[.arr 4 (.int .u64),.arr 4 (.int .u64)],rets:=[.deep (.int .i64)],pre:=fun x=>WCmp.pre x.1 x.2.1,fn:=fun x=>(WCmp.fn x.1 x.2.1,())}
noncomputable def NWCmp :Tup conWCmp.params→Notes:=fun x=>{loops:=fun n=>Lc.look n [(2,{see:=[],ann:=fun _=>{frz:=[2,3],keep:=[2,3],vars:=[(5,.val (.int .i64))],inv:=WCmp.inv2 x.1 x.2.1,mes:=WCmp.mes2 x.1 x.2.1}})],cuts:=fun n=>Lc.look n [],frz:=fun _=>[]}
theorem tieWCmp :fnVC (env0 tb21 [] 24 []) conWCmp NWCmp (Tryz.f48.body.getD .skip) Tryz.f48.results.toList=WCmp.VC:=by kernel_rfl
theorem okWCmp :Sound Tryz.prog gl 48 conWCmp:=fnS al21 Tryz.func48 (by kernel_rfl) (Eq.mpr tieWCmp WCmp.vc)
noncomputable def tb22 :Tb:=⟨(48,conWCmp)::tb21.cs,tb21.pt,tb21.vt⟩
theorem al22 :tb22.Ok:=⟨SoundAll.cons al21.1 okWCmp,al21.2⟩
noncomputable def conWLen :Con:={params:=[.arr 4 (.int .u64)],rets:=[.deep (.int .i64)],pre:=fun x=>WLen.pre x.1,fn:=fun x=>(WLen.fn x.1,())}
noncomputable def NWLen :Tup conWLen.params→Notes:=fun x=>{loops:=fun n=>Lc.look n [(2,{see:=[],ann:=fun _=>{frz:=[1],keep:=[1],vars:=[(3,.val (.int .i64))],inv:=WLen.inv2 x.1,mes:=WLen.mes2 x.1}})],cuts:=fun n=>Lc.look n [],frz:=fun _=>[]}
theorem tieWLen :fnVC (env0 tb22 [] 19 []) conWLen NWLen (Tryz.f72.body.getD .skip) Tryz.f72.results.toList=WLen.VC:=by kernel_rfl
theorem okWLen :Sound Tryz.prog gl 72 conWLen:=fnS al22 Tryz.func72 (by kernel_rfl) (Eq.mpr tieWLen WLen.vc)
noncomputable def tb23 :Tb:=⟨(72,conWLen)::tb22.cs,tb22.pt,tb22.vt⟩
theorem al23 :tb23.Ok:=⟨SoundAll.cons al22.1 okWLen,al22.2⟩
noncomputable def conWSub :Con:={params:=[.arr 4 (.int .u64),.arr 4 (.int .u64)],rets:=[.deep (.arr 4 (.int .u64)),.deep (.bool)],pre:=fun x=>WSub.pre x.1 x.2.1,fn:=fun x=>((WSub.fn x.1 x.2.1).1,((WSub.fn x.1 x.2.1).2,()))}
noncomputable def NWSub :Tup conWSub.params→Notes:=fun x=>{loops:=fun n=>Lc.look n [(4,{see:=[],ann:=fun _=>{frz:=[2,3],keep:=[2,3],vars:=[(4,.ptr (.arr 4 (.int .u64))),(6,.ptr (.arr 4 (.int .u64))),(7,.val (.int .u64)),(9,.val (.int .i64))],inv:=WSub.inv4 x.1 x.2.1,mes:=WSub.mes4 x.1 x.2.1}})],cuts:=fun n=>Lc.look n [],frz:=fun _=>[]}
theorem tieWSub :fnVC (env0 tb23 [] 29 []) conWSub NWSub (Tryz.f104.body.getD .skip) Tryz.f104.results.toList=WSub.VC:=by kernel_rfl
theorem okWSub :Sound Tryz.prog gl 104 conWSub:=fnS al23 Tryz.func104 (by kernel_rfl) (Eq.mpr tieWSub WSub.vc)
noncomputable def tb24 :Tb:=⟨(104,conWSub)::tb23.cs,tb23.pt,tb23.vt⟩
theorem al24 :tb24.Ok:=⟨SoundAll.cons al23.1 okWSub,al23.2⟩
noncomputable def conWMul :Con:={params:=[.arr 4 (.int .u64),.arr 4 (.int .u64)],rets:=[.deep (.arr 4 (.int .u64)),.deep (.arr 4 (.int .u64))],pre:=fun x=>WMul.pre x.1 x.2.1,fn:=fun x=>((WMul.fn x.1 x.2.1).1,((WMul.fn x.1 x.2.1).2,()))}
noncomputable def NWMul :Tup conWMul.params→Notes:=fun x=>{loops:=fun n=>Lc.look n [(3,{see:=[],ann:=fun _=>{frz:=[2,3],keep:=[2,3],vars:=[(4,.ptr (.arr 4 (.int .u64))),(5,.ptr (.arr 4 (.int .u64))),(6,.ptr (.arr 8 (.int .u64))),(14,.val (.int .i64))],inv:=WMul.inv3 x.1 x.2.1,mes:=WMul.mes3 x.1 x.2.1}}),(7,{see:=[(7,.val (.int .i64))],ann:=fun y=>{frz:=[],keep:=[2,3,7,14],vars:=[(4,.ptr (.arr 4 (.int .u64))),(5,.ptr (.arr 4 (.int .u64))),(6,.ptr (.arr 8 (.int .u64))),(8,.val (.int .u64)),(17,.val (.int .i64))],inv:=WMul.inv7 x.1 x.2.1 y.1,mes:=WMul.mes7 x.1 x.2.1 y.1}})],cuts:=fun n=>Lc.look n [],frz:=fun n=>(Lc.look n [(17,[6])]).getD []}
theorem tieWMul :fnVC (env0 tb24 [] 69 []) conWMul NWMul (Tryz.f125.body.getD .skip) Tryz.f125.results.toList=WMul.VC:=by kernel_rfl
theorem okWMul :Sound Tryz.prog gl 125 conWMul:=fnS al24 Tryz.func125 (by kernel_rfl) (Eq.mpr tieWMul WMul.vc)
noncomputable def tb25 :Tb:=⟨(125,conWMul)::tb24.cs,tb24.pt,tb24.vt⟩
theorem al25 :tb25.Ok:=⟨SoundAll.cons al24.1 okWMul,al24.2⟩
noncomputable def conWDbl :Con:={params:=[.arr 4 (.int .u64),.int .u64],rets:=[.deep (.arr 4 (.int .u64)),.deep (.int .u64)],pre:=fun x=>WDbl.pre x.1 x.2.1,fn:=fun x=>((WDbl.fn x.1 x.2.1).1,((WDbl.fn x.1 x.2.1).2,()))}
noncomputable def NWDbl :Tup conWDbl.params→Notes:=fun x=>{loops:=fun n=>Lc.look n [(2,{see:=[],ann:=fun _=>{frz:=[],keep:=[],vars:=[(1,.val (.int .u64)),(2,.ptr (.arr 4 (.int .u64))),(4,.ptr (.arr 4 (.int .u64))),(7,.val (.int .i64))],inv:=WDbl.inv2 x.1 x.2.1,mes:=WDbl.mes2 x.1 x.2.1}})],cuts:=fun n=>Lc.look n [],frz:=fun _=>[]}
theorem tieWDbl :fnVC (env0 tb25 [] 25 []) conWDbl NWDbl (Tryz.f103.body.getD .skip) Tryz.f103.results.toList=WDbl.VC:=by kernel_rfl
theorem okWDbl :Sound Tryz.prog gl 103 conWDbl:=fnS al25 Tryz.func103 (by kernel_rfl) (Eq.mpr tieWDbl WDbl.vc)
noncomputable def tb26 :Tb:=⟨(103,conWDbl)::tb25.cs,tb25.pt,tb25.vt⟩
theorem al26 :tb26.Ok:=⟨SoundAll.cons al25.1 okWDbl,al25.2⟩
noncomputable def conWDiv :Con:={params:=[.arr 4 (.int .u64),.arr 4 (.int .u64),.arr 4 (.int .u64)],rets:=[.deep (.arr 4 (.int .u64)),.deep (.arr 4 (.int .u64)),.deep (.bool)],pre:=fun x=>WDiv.pre x.1 x.2.1 x.2.2.1,fn:=fun x=>((WDiv.fn x.1 x.2.1 x.2.2.1).1,((WDiv.fn x.1 x.2.1 x.2.2.1).2.1,((WDiv.fn x.1 x.2.1 x.2.2.1).2.2,())))}
noncomputable def NWDiv :Tup conWDiv.params→Notes:=fun x=>{loops:=fun n=>Lc.look n [(6,{see:=[],ann:=fun _=>{frz:=[5],keep:=[5],vars:=[(4,.ptr (.arr 4 (.int .u64))),(6,.ptr (.arr 4 (.int .u64))),(7,.ptr (.arr 4 (.int .u64))),(9,.ptr (.arr 4 (.int .u64))),(10,.val (.int .i64))],inv:=WDiv.inv6 x.1 x.2.1 x.2.2.1,mes:=WDiv.mes6 x.1 x.2.1 x.2.2.1}}),(9,{see:=[(10,.val (.int .i64))],ann:=fun y=>{frz:=[],keep:=[5,10],vars:=[(4,.ptr (.arr 4 (.int .u64))),(6,.ptr (.arr 4 (.int .u64))),(7,.ptr (.arr 4 (.int .u64))),(9,.ptr (.arr 4 (.int .u64))),(11,.val (.int .i64))],inv:=WDiv.inv9 x.1 x.2.1 x.2.2.1 y.1,mes:=WDiv.mes9 x.1 x.2.1 x.2.2.1 y.1}})],cuts:=fun n=>Lc.look n [],frz:=fun _=>[]}
theorem tieWDiv :fnVC (env0 tb26 [] 72 []) conWDiv NWDiv (Tryz.f79.body.getD .skip) Tryz.f79.results.toList=WDiv.VC:=by kernel_rfl
theorem okWDiv :Sound Tryz.prog gl 79 conWDiv:=fnS al26 Tryz.func79 (by kernel_rfl) (Eq.mpr tieWDiv WDiv.vc)
noncomputable def tb27 :Tb:=⟨(79,conWDiv)::tb26.cs,tb26.pt,tb26.vt⟩
theorem al27 :tb27.Ok:=⟨SoundAll.cons al26.1 okWDiv,al26.2⟩
noncomputable def conWShl :Con:={params:=[.arr 4 (.int .u64),.int .i64],rets:=[.deep (.arr 4 (.int .u64))],pre:=fun x=>WShl.pre x.1 x.2.1,fn:=fun x=>(WShl.fn x.1 x.2.1,())}
noncomputable def NWShl :Tup conWShl.params→Notes:=fun x=>{loops:=fun n=>Lc.look n [(8,{see:=[],ann:=fun _=>{frz:=[2],keep:=[2,6,7],vars:=[(4,.ptr (.arr 4 (.int .u64))),(5,.ptr (.arr 4 (.int .u64))),(8,.val (.int .i64))],inv:=WShl.inv8 x.1 x.2.1,mes:=WShl.mes8 x.1 x.2.1}})],cuts:=fun n=>Lc.look n [],frz:=fun _=>[]}
theorem tieWShl :fnVC (env0 tb27 [] 51 []) conWShl NWShl (Tryz.f97.body.getD .skip) Tryz.f97.results.toList=WShl.VC:=by kernel_rfl
theorem okWShl :Sound Tryz.prog gl 97 conWShl:=fnS al27 Tryz.func97 (by kernel_rfl) (Eq.mpr tieWShl WShl.vc)
noncomputable def tb28 :Tb:=⟨(97,conWShl)::tb27.cs,tb27.pt,tb27.vt⟩
theorem al28 :tb28.Ok:=⟨SoundAll.cons al27.1 okWShl,al27.2⟩
noncomputable def conWShr :Con:={params:=[.arr 4 (.int .u64),.int .i64],rets:=[.deep (.arr 4 (.int .u64))],pre:=fun x=>WShr.pre x.1 x.2.1,fn:=fun x=>(WShr.fn x.1 x.2.1,())}
noncomputable def NWShr :Tup conWShr.params→Notes:=fun x=>{loops:=fun n=>Lc.look n [(8,{see:=[],ann:=fun _=>{frz:=[2],keep:=[2,6,7,20],vars:=[(4,.ptr (.arr 4 (.int .u64))),(5,.ptr (.arr 4 (.int .u64))),(21,.val (.int .i64))],inv:=WShr.inv8 x.1 x.2.1,mes:=WShr.mes8 x.1 x.2.1}})],cuts:=fun n=>Lc.look n [],frz:=fun _=>[]}
theorem tieWShr :fnVC (env0 tb28 [] 53 []) conWShr NWShr (Tryz.f96.body.getD .skip) Tryz.f96.results.toList=WShr.VC:=by kernel_rfl
theorem okWShr :Sound Tryz.prog gl 96 conWShr:=fnS al28 Tryz.func96 (by kernel_rfl) (Eq.mpr tieWShr WShr.vc)
noncomputable def tb29 :Tb:=⟨(96,conWShr)::tb28.cs,tb28.pt,tb28.vt⟩
theorem al29 :tb29.Ok:=⟨SoundAll.cons al28.1 okWShr,al28.2⟩
noncomputable def conWBytes :Con:={params:=[.arr 32 (.int .u8)],rets:=[.deep (.arr 4 (.int .u64))],pre:=fun x=>WBytes.pre x.1,fn:=fun x=>(WBytes.fn x.1,())}
noncomputable def NWBytes :Tup conWBytes.params→Notes:=fun x=>{loops:=fun n=>Lc.look n [(3,{see:=[],ann:=fun _=>{frz:=[],keep:=[7],vars:=[(2,.ptr (.arr 4 (.int .u64))),(3,.ptr (.arr 4 (.int .u64))),(8,.val (.int .i64))],inv:=WBytes.inv3 x.1,mes:=WBytes.mes3 x.1}})],cuts:=fun n=>Lc.look n [],frz:=fun _=>[]}
theorem tieWBytes :fnVC (env0 tb29 [] 26 []) conWBytes NWBytes (Tryz.f113.body.getD .skip) Tryz.f113.results.toList=WBytes.VC:=by kernel_rfl
theorem okWBytes :Sound Tryz.prog gl 113 conWBytes:=fnS al29 Tryz.func113 (by kernel_rfl) (Eq.mpr tieWBytes WBytes.vc)
noncomputable def tb30 :Tb:=⟨(113,conWBytes)::tb29.cs,tb29.pt,tb29.vt⟩
theorem al30 :tb30.Ok:=⟨SoundAll.cons al29.1 okWBytes,al29.2⟩
noncomputable def conWAdd :Con:={params:=[.arr 4 (.int .u64),.arr 4 (.int .u64)],rets:=[.deep (.arr 4 (.int .u64)),.deep (.bool)],pre:=fun x=>WAdd.pre x.1 x.2.1,fn:=fun x=>((WAdd.fn x.1 x.2.1).1,((WAdd.fn x.1 x.2.1).2,()))}
noncomputable def NWAdd :Tup conWAdd.params→Notes:=fun x=>{loops:=fun n=>Lc.look n [(4,{see:=[],ann:=fun _=>{frz:=[2,3],keep:=[2,3],vars:=[(4,.ptr (.arr 4 (.int .u64))),(6,.ptr (.arr 4 (.int .u64))),(7,.val (.int .u64)),(9,.val (.int .i64))],inv:=WAdd.inv4 x.1 x.2.1,mes:=WAdd.mes4 x.1 x.2.1}})],cuts:=fun n=>Lc.look n [],frz:=fun _=>[]}
theorem tieWAdd :fnVC (env0 tb30 [] 29 []) conWAdd NWAdd (Tryz.f78.body.getD .skip) Tryz.f78.results.toList=WAdd.VC:=by kernel_rfl
theorem okWAdd :Sound Tryz.prog gl 78 conWAdd:=fnS al30 Tryz.func78 (by kernel_rfl) (Eq.mpr tieWAdd WAdd.vc)
noncomputable def tb31 :Tb:=⟨(78,conWAdd)::tb30.cs,tb30.pt,tb30.vt⟩
theorem al31 :tb31.Ok:=⟨SoundAll.cons al30.1 okWAdd,al30.2⟩
noncomputable def conWNot :Con:={params:=[.arr 4 (.int .u64)],rets:=[.deep (.arr 4 (.int .u64))],pre:=fun x=>WNot.pre x.1,fn:=fun x=>(WNot.fn x.1,())}
noncomputable def NWNot :Tup conWNot.params→Notes:=fun _=>{loops:=fun n=>Lc.look n [],cuts:=fun n=>Lc.look n [],frz:=fun _=>[]}
theorem tieWNot :fnVC (env0 tb31 [] 16 []) conWNot NWNot (Tryz.f77.body.getD .skip) Tryz.f77.results.toList=WNot.VC:=by kernel_rfl
theorem okWNot :Sound Tryz.prog gl 77 conWNot:=fnS al31 Tryz.func77 (by kernel_rfl) (Eq.mpr tieWNot WNot.vc)
noncomputable def tb32 :Tb:=⟨(77,conWNot)::tb31.cs,tb31.pt,tb31.vt⟩
theorem al32 :tb32.Ok:=⟨SoundAll.cons al31.1 okWNot,al31.2⟩
noncomputable def conTShifted :Con:={params:=[.arr 4 (.int .u64),.int .i64],rets:=[.deep (.arr 4 (.int .u64))],pre:=fun x=>TShifted.pre x.1 x.2.1,fn:=fun x=>(TShifted.fn x.1 x.2.1,())}
noncomputable def NTShifted :Tup conTShifted.params→Notes:=fun _=>{loops:=fun n=>Lc.look n [],cuts:=fun n=>Lc.look n [],frz:=fun _=>[]}
theorem tieTShifted :fnVC (env0 tb32 [] 14 []) conTShifted NTShifted (Tryz.f73.body.getD .skip) Tryz.f73.results.toList=TShifted.VC:=by kernel_rfl
theorem okTShifted :Sound Tryz.prog gl 73 conTShifted:=fnS al32 Tryz.func73 (by kernel_rfl) (Eq.mpr tieTShifted TShifted.vc)
noncomputable def tb33 :Tb:=⟨(73,conTShifted)::tb32.cs,tb32.pt,tb32.vt⟩
theorem al33 :tb33.Ok:=⟨SoundAll.cons al32.1 okTShifted,al32.2⟩
noncomputable def conTExpand :Con:={params:=[.int .u32],rets:=[.deep (.arr 4 (.int .u64)),.deep (.int .i64)],pre:=fun x=>TExpand.pre x.1,fn:=fun x=>((TExpand.fn x.1).1,((TExpand.fn x.1).2,()))}
noncomputable def NTExpand :Tup conTExpand.params→Notes:=fun _=>{loops:=fun n=>Lc.look n [],cuts:=fun n=>Lc.look n [],frz:=fun _=>[]}
theorem tieTExpand :fnVC (env0 tb33 [] 35 []) conTExpand NTExpand (Tryz.f47.body.getD .skip) Tryz.f47.results.toList=TExpand.VC:=by kernel_rfl
theorem okTExpand :Sound Tryz.prog gl 47 conTExpand:=fnS al33 Tryz.func47 (by kernel_rfl) (Eq.mpr tieTExpand TExpand.vc)
noncomputable def tb34 :Tb:=⟨(47,conTExpand)::tb33.cs,tb33.pt,tb33.vt⟩
theorem al34 :tb34.Ok:=⟨SoundAll.cons al33.1 okTExpand,al33.2⟩
noncomputable def conTCompact :Con:={params:=[.arr 4 (.int .u64)],rets:=[.deep (.int .u32)],pre:=fun x=>TCompact.pre x.1,fn:=fun x=>(TCompact.fn x.1,())}
noncomputable def NTCompact :Tup conTCompact.params→Notes:=fun _=>{loops:=fun n=>Lc.look n [],cuts:=fun n=>Lc.look n [],frz:=fun _=>[]}
theorem tieTCompact :fnVC (env0 tb34 [] 24 []) conTCompact NTCompact (Tryz.f126.body.getD .skip) Tryz.f126.results.toList=TCompact.VC:=by kernel_rfl
theorem okTCompact :Sound Tryz.prog gl 126 conTCompact:=fnS al34 Tryz.func126 (by kernel_rfl) (Eq.mpr tieTCompact TCompact.vc)
noncomputable def tb35 :Tb:=⟨(126,conTCompact)::tb34.cs,tb34.pt,tb34.vt⟩
theorem al35 :tb35.Ok:=⟨SoundAll.cons al34.1 okTCompact,al34.2⟩
noncomputable def conTMeets :Con:={params:=[.arr 32 (.int .u8),.int .u32],rets:=[.deep (.bool)],pre:=fun x=>TMeets.pre x.1 x.2.1,fn:=fun x=>(TMeets.fn x.1 x.2.1,())}
noncomputable def NTMeets :Tup conTMeets.params→Notes:=fun _=>{loops:=fun n=>Lc.look n [],cuts:=fun n=>Lc.look n [],frz:=fun _=>[]}
theorem tieTMeets :fnVC (env0 tb35 [] 21 []) conTMeets NTMeets (Tryz.f89.body.getD .skip) Tryz.f89.results.toList=TMeets.VC:=by kernel_rfl
theorem okTMeets :Sound Tryz.prog gl 89 conTMeets:=fnS al35 Tryz.func89 (by kernel_rfl) (Eq.mpr tieTMeets TMeets.vc)
noncomputable def tb36 :Tb:=⟨(89,conTMeets)::tb35.cs,tb35.pt,tb35.vt⟩
theorem al36 :tb36.Ok:=⟨SoundAll.cons al35.1 okTMeets,al35.2⟩
noncomputable def conTWork :Con:={params:=[.arr 4 (.int .u64)],rets:=[.deep (.arr 4 (.int .u64))],pre:=fun x=>TWork.pre x.1,fn:=fun x=>(TWork.fn x.1,())}
noncomputable def NTWork :Tup conTWork.params→Notes:=fun _=>{loops:=fun n=>Lc.look n [],cuts:=fun n=>Lc.look n [],frz:=fun _=>[]}
theorem tieTWork :fnVC (env0 tb36 [] 30 []) conTWork NTWork (Tryz.f51.body.getD .skip) Tryz.f51.results.toList=TWork.VC:=by kernel_rfl
theorem okTWork :Sound Tryz.prog gl 51 conTWork:=fnS al36 Tryz.func51 (by kernel_rfl) (Eq.mpr tieTWork TWork.vc)
noncomputable def tb37 :Tb:=⟨(51,conTWork)::tb36.cs,tb36.pt,tb36.vt⟩
theorem al37 :tb37.Ok:=⟨SoundAll.cons al36.1 okTWork,al36.2⟩
noncomputable def conTTotal :Con:={params:=[.arr 4 (.int .u64),.arr 4 (.int .u64)],rets:=[.deep (.arr 4 (.int .u64))],pre:=fun x=>TTotal.pre x.1 x.2.1,fn:=fun x=>(TTotal.fn x.1 x.2.1,())}
noncomputable def NTTotal :Tup conTTotal.params→Notes:=fun _=>{loops:=fun n=>Lc.look n [],cuts:=fun n=>Lc.look n [],frz:=fun _=>[]}
theorem tieTTotal :fnVC (env0 tb37 [] 17 []) conTTotal NTTotal (Tryz.f91.body.getD .skip) Tryz.f91.results.toList=TTotal.VC:=by kernel_rfl
theorem okTTotal :Sound Tryz.prog gl 91 conTTotal:=fnS al37 Tryz.func91 (by kernel_rfl) (Eq.mpr tieTTotal TTotal.vc)
noncomputable def tb38 :Tb:=⟨(91,conTTotal)::tb37.cs,tb37.pt,tb37.vt⟩
theorem al38 :tb38.Ok:=⟨SoundAll.cons al37.1 okTTotal,al37.2⟩
noncomputable def conRValid :Con:={params:=[Tq17],rets:=[.deep (.bool)],pre:=fun x=>RValid.pre x.1,fn:=fun x=>(RValid.fn x.1,())}
noncomputable def NRValid :Tup conRValid.params→Notes:=fun x=>{loops:=fun n=>Lc.look n [(9,{see:=[],ann:=fun _=>{frz:=[1],keep:=[1,59,60],vars:=[(3,.val (.int .i64)),(61,.val (.int .i64))],inv:=RValid.inv9 x.1,mes:=RValid.mes9 x.1}})],cuts:=fun n=>Lc.look n [],frz:=fun _=>[]}
theorem tieRValid :fnVC (env0 tb38 [] 93 []) conRValid NRValid (Tryz.f19.body.getD .skip) Tryz.f19.results.toList=RValid.VC:=by kernel_rfl
theorem okRValid :Sound Tryz.prog gl 19 conRValid:=fnS al38 Tryz.func19 (by kernel_rfl) (Eq.mpr tieRValid RValid.vc)
noncomputable def tb39 :Tb:=⟨(19,conRValid)::tb38.cs,tb38.pt,tb38.vt⟩
theorem al39 :tb39.Ok:=⟨SoundAll.cons al38.1 okRValid,al38.2⟩
noncomputable def conRMedian :Con:={params:=[.slc (.int .u32)],rets:=[.deep (.int .u32)],pre:=fun x=>RMedian.pre x.1,fn:=fun x=>(RMedian.fn x.1,())}
noncomputable def NRMedian :Tup conRMedian.params→Notes:=fun _=>{loops:=fun n=>Lc.look n [],cuts:=fun n=>Lc.look n [],frz:=fun _=>[]}
theorem tieRMedian :fnVC (env0 tb39 [] 21 []) conRMedian NRMedian (Tryz.f90.body.getD .skip) Tryz.f90.results.toList=RMedian.VC:=by kernel_rfl
theorem okRMedian :Sound Tryz.prog gl 90 conRMedian:=fnS al39 Tryz.func90 (by kernel_rfl) (Eq.mpr tieRMedian RMedian.vc)
noncomputable def tb40 :Tb:=⟨(90,conRMedian)::tb39.cs,tb39.pt,tb39.vt⟩
theorem al40 :tb40.Ok:=⟨SoundAll.cons al39.1 okRMedian,al39.2⟩
noncomputable def conRAdjust :Con:={params:=[Tq17,.int .u32,.int .u32,.int .u32],rets:=[.deep (.int .u32),.deep (.int .i64)],pre:=fun x=>RAdjust.pre x.1 x.2.1 x.2.2.1 x.2.2.2.1,fn:=fun x=>((RAdjust.fn x.1 x.2.1 x.2.2.1 x.2.2.2.1).1,((RAdjust.fn x.1 x.2.1 x.2.2.1 x.2.2.2.1).2,()))}
noncomputable def NRAdjust :Tup conRAdjust.params→Notes:=fun _=>{loops:=fun n=>Lc.look n [],cuts:=fun n=>Lc.look n [],frz:=fun _=>[]}
theorem tieRAdjust :fnVC (env0 tb40 [] 84 []) conRAdjust NRAdjust (Tryz.f112.body.getD .skip) Tryz.f112.results.toList=RAdjust.VC:=by kernel_rfl
theorem okRAdjust :Sound Tryz.prog gl 112 conRAdjust:=fnS al40 Tryz.func112 (by kernel_rfl) (Eq.mpr tieRAdjust RAdjust.vc)
noncomputable def tb41 :Tb:=⟨(112,conRAdjust)::tb40.cs,tb40.pt,tb40.vt⟩
theorem al41 :tb41.Ok:=⟨SoundAll.cons al40.1 okRAdjust,al40.2⟩
noncomputable def conRNext :Con:={params:=[Tq17,.pair (.int .i64) (Tq27)],rets:=[.deep (.int .u32),.deep (.int .i64)],pre:=fun x=>RNext.pre x.1 x.2.1,fn:=fun x=>((RNext.fn x.1 x.2.1).1,((RNext.fn x.1 x.2.1).2,()))}
noncomputable def NRNext :Tup conRNext.params→Notes:=fun _=>{loops:=fun n=>Lc.look n [],cuts:=fun n=>Lc.look n [],frz:=fun _=>[]}
theorem tieRNext :fnVC (env0 tb41 [] 54 []) conRNext NRNext (Tryz.f88.body.getD .skip) Tryz.f88.results.toList=RNext.VC:=by kernel_rfl
theorem okRNext :Sound Tryz.prog gl 88 conRNext:=fnS al41 Tryz.func88 (by kernel_rfl) (Eq.mpr tieRNext RNext.vc)
noncomputable def tb42 :Tb:=⟨(88,conRNext)::tb41.cs,tb41.pt,tb41.vt⟩
theorem al42 :tb42.Ok:=⟨SoundAll.cons al41.1 okRNext,al41.2⟩
noncomputable def conQFromUint :Con:={params:=[.int .u64],rets:=[.deep (.arr 4 (.int .u64))],pre:=fun x=>QFromUint.pre x.1,fn:=fun x=>(QFromUint.fn x.1,())}
noncomputable def NQFromUint :Tup conQFromUint.params→Notes:=fun _=>{loops:=fun n=>Lc.look n [],cuts:=fun n=>Lc.look n [],frz:=fun _=>[]}
theorem tieQFromUint :fnVC (env0 tb42 [] 5 []) conQFromUint NQFromUint (Tryz.f80.body.getD .skip) Tryz.f80.results.toList=QFromUint.VC:=by kernel_rfl
theorem okQFromUint :Sound Tryz.prog gl 80 conQFromUint:=fnS al42 Tryz.func80 (by kernel_rfl) (Eq.mpr tieQFromUint QFromUint.vc)
noncomputable def tb43 :Tb:=⟨(80,conQFromUint)::tb42.cs,tb42.pt,tb42.vt⟩
theorem al43 :tb43.Ok:=⟨SoundAll.cons al42.1 okQFromUint,al42.2⟩
noncomputable def conQCmp :Con:={params:=[.arr 4 (.int .u64),.arr 4 (.int .u64)],rets:=[.deep (.int .i64)],pre:=fun x=>QCmp.pre x.1 x.2.1,fn:=fun x=>(QCmp.fn x.1 x.2.1,())}
noncomputable def NQCmp :Tup conQCmp.params→Notes:=fun x=>{loops:=fun n=>Lc.look n [(2,{see:=[],ann:=fun _=>{frz:=[2,3],keep:=[2,3],vars:=[(5,.val (.int .i64))],inv:=QCmp.inv2 x.1 x.2.1,mes:=QCmp.mes2 x.1 x.2.1}})],cuts:=fun n=>Lc.look n [],frz:=fun _=>[]}
theorem tieQCmp :fnVC (env0 tb43 [] 24 []) conQCmp NQCmp (Tryz.f54.body.getD .skip) Tryz.f54.results.toList=QCmp.VC:=by kernel_rfl
theorem okQCmp :Sound Tryz.prog gl 54 conQCmp:=fnS al43 Tryz.func54 (by kernel_rfl) (Eq.mpr tieQCmp QCmp.vc)
noncomputable def tb44 :Tb:=⟨(54,conQCmp)::tb43.cs,tb43.pt,tb43.vt⟩
theorem al44 :tb44.Ok:=⟨SoundAll.cons al43.1 okQCmp,al43.2⟩
noncomputable def conQBit :Con:={params:=[.arr 4 (.int .u64),.int .i64],rets:=[.deep (.bool)],pre:=fun x=>QBit.pre x.1 x.2.1,fn:=fun x=>(QBit.fn x.1 x.2.1,())}
noncomputable def NQBit :Tup conQBit.params→Notes:=fun _=>{loops:=fun n=>Lc.look n [],cuts:=fun n=>Lc.look n [],frz:=fun _=>[]}
theorem tieQBit :fnVC (env0 tb44 [] 14 []) conQBit NQBit (Tryz.f66.body.getD .skip) Tryz.f66.results.toList=QBit.VC:=by kernel_rfl
theorem okQBit :Sound Tryz.prog gl 66 conQBit:=fnS al44 Tryz.func66 (by kernel_rfl) (Eq.mpr tieQBit QBit.vc)
noncomputable def tb45 :Tb:=⟨(66,conQBit)::tb44.cs,tb44.pt,tb44.vt⟩
theorem al45 :tb45.Ok:=⟨SoundAll.cons al44.1 okQBit,al44.2⟩
noncomputable def conQLen :Con:={params:=[.arr 4 (.int .u64)],rets:=[.deep (.int .i64)],pre:=fun x=>QLen.pre x.1,fn:=fun x=>(QLen.fn x.1,())}
noncomputable def NQLen :Tup conQLen.params→Notes:=fun x=>{loops:=fun n=>Lc.look n [(2,{see:=[],ann:=fun _=>{frz:=[1],keep:=[1],vars:=[(3,.val (.int .i64))],inv:=QLen.inv2 x.1,mes:=QLen.mes2 x.1}})],cuts:=fun n=>Lc.look n [],frz:=fun _=>[]}
theorem tieQLen :fnVC (env0 tb45 [] 13 []) conQLen NQLen (Tryz.f81.body.getD .skip) Tryz.f81.results.toList=QLen.VC:=by kernel_rfl
theorem okQLen :Sound Tryz.prog gl 81 conQLen:=fnS al45 Tryz.func81 (by kernel_rfl) (Eq.mpr tieQLen QLen.vc)
noncomputable def tb46 :Tb:=⟨(81,conQLen)::tb45.cs,tb45.pt,tb45.vt⟩
theorem al46 :tb46.Ok:=⟨SoundAll.cons al45.1 okQLen,al45.2⟩
noncomputable def conQAdd :Con:={params:=[.arr 4 (.int .u64),.arr 4 (.int .u64)],rets:=[.deep (.arr 4 (.int .u64)),.deep (.bool)],pre:=fun x=>QAdd.pre x.1 x.2.1,fn:=fun x=>((QAdd.fn x.1 x.2.1).1,((QAdd.fn x.1 x.2.1).2,()))}
noncomputable def NQAdd :Tup conQAdd.params→Notes:=fun x=>{loops:=fun n=>Lc.look n [(4,{see:=[],ann:=fun _=>{frz:=[2,3],keep:=[2,3],vars:=[(4,.ptr (.arr 4 (.int .u64))),(6,.ptr (.arr 4 (.int .u64))),(7,.val (.int .u64)),(9,.val (.int .i64))],inv:=QAdd.inv4 x.1 x.2.1,mes:=QAdd.mes4 x.1 x.2.1}})],cuts:=fun n=>Lc.look n [],frz:=fun _=>[]}
theorem tieQAdd :fnVC (env0 tb46 [] 29 []) conQAdd NQAdd (Tryz.f13.body.getD .skip) Tryz.f13.results.toList=QAdd.VC:=by kernel_rfl
theorem okQAdd :Sound Tryz.prog gl 13 conQAdd:=fnS al46 Tryz.func13 (by kernel_rfl) (Eq.mpr tieQAdd QAdd.vc)
noncomputable def tb47 :Tb:=⟨(13,conQAdd)::tb46.cs,tb46.pt,tb46.vt⟩
theorem al47 :tb47.Ok:=⟨SoundAll.cons al46.1 okQAdd,al46.2⟩
noncomputable def conQSub :Con:={params:=[.arr 4 (.int .u64),.arr 4 (.int .u64)],rets:=[.deep (.arr 4 (.int .u64)),.deep (.bool)],pre:=fun x=>QSub.pre x.1 x.2.1,fn:=fun x=>((QSub.fn x.1 x.2.1).1,((QSub.fn x.1 x.2.1).2,()))}
noncomputable def NQSub :Tup conQSub.params→Notes:=fun x=>{loops:=fun n=>Lc.look n [(4,{see:=[],ann:=fun _=>{frz:=[2,3],keep:=[2,3],vars:=[(4,.ptr (.arr 4 (.int .u64))),(6,.ptr (.arr 4 (.int .u64))),(7,.val (.int .u64)),(9,.val (.int .i64))],inv:=QSub.inv4 x.1 x.2.1,mes:=QSub.mes4 x.1 x.2.1}})],cuts:=fun n=>Lc.look n [],frz:=fun _=>[]}
theorem tieQSub :fnVC (env0 tb47 [] 29 []) conQSub NQSub (Tryz.f110.body.getD .skip) Tryz.f110.results.toList=QSub.VC:=by kernel_rfl
theorem okQSub :Sound Tryz.prog gl 110 conQSub:=fnS al47 Tryz.func110 (by kernel_rfl) (Eq.mpr tieQSub QSub.vc)
noncomputable def tb48 :Tb:=⟨(110,conQSub)::tb47.cs,tb47.pt,tb47.vt⟩
theorem al48 :tb48.Ok:=⟨SoundAll.cons al47.1 okQSub,al47.2⟩
noncomputable def conQMul :Con:={params:=[.arr 4 (.int .u64),.arr 4 (.int .u64)],rets:=[.deep (.arr 4 (.int .u64)),.deep (.arr 4 (.int .u64))],pre:=fun x=>QMul.pre x.1 x.2.1,fn:=fun x=>((QMul.fn x.1 x.2.1).1,((QMul.fn x.1 x.2.1).2,()))}
noncomputable def NQMul :Tup conQMul.params→Notes:=fun x=>{loops:=fun n=>Lc.look n [(3,{see:=[],ann:=fun _=>{frz:=[2,3],keep:=[2,3],vars:=[(4,.ptr (.arr 4 (.int .u64))),(5,.ptr (.arr 4 (.int .u64))),(6,.ptr (.arr 8 (.int .u64))),(15,.val (.int .i64))],inv:=QMul.inv3 x.1 x.2.1,mes:=QMul.mes3 x.1 x.2.1}}),(7,{see:=[(7,.val (.int .i64))],ann:=fun y=>{frz:=[],keep:=[2,3,7,15],vars:=[(4,.ptr (.arr 4 (.int .u64))),(5,.ptr (.arr 4 (.int .u64))),(6,.ptr (.arr 8 (.int .u64))),(8,.val (.int .u64)),(18,.val (.int .i64))],inv:=QMul.inv7 x.1 x.2.1 y.1,mes:=QMul.mes7 x.1 x.2.1 y.1}})],cuts:=fun n=>Lc.look n [],frz:=fun _=>[]}
theorem tieQMul :fnVC (env0 tb48 [] 71 []) conQMul NQMul (Tryz.f117.body.getD .skip) Tryz.f117.results.toList=QMul.VC:=by kernel_rfl
theorem okQMul :Sound Tryz.prog gl 117 conQMul:=fnS al48 Tryz.func117 (by kernel_rfl) (Eq.mpr tieQMul QMul.vc)
noncomputable def tb49 :Tb:=⟨(117,conQMul)::tb48.cs,tb48.pt,tb48.vt⟩
theorem al49 :tb49.Ok:=⟨SoundAll.cons al48.1 okQMul,al48.2⟩
noncomputable def conQDiv :Con:={params:=[.arr 4 (.int .u64),.arr 4 (.int .u64),.arr 4 (.int .u64)],rets:=[.deep (.arr 4 (.int .u64)),.deep (.arr 4 (.int .u64)),.deep (.bool)],pre:=fun x=>QDiv.pre x.1 x.2.1 x.2.2.1,fn:=fun x=>((QDiv.fn x.1 x.2.1 x.2.2.1).1,((QDiv.fn x.1 x.2.1 x.2.2.1).2.1,((QDiv.fn x.1 x.2.1 x.2.2.1).2.2,())))}
noncomputable def NQDiv :Tup conQDiv.params→Notes:=fun x=>{loops:=fun n=>Lc.look n [(5,{see:=[],ann:=fun _=>{frz:=[4,5],keep:=[4,5],vars:=[(6,.ptr (.arr 4 (.int .u64))),(7,.ptr (.arr 4 (.int .u64))),(9,.val (.int .i64))],inv:=QDiv.inv5 x.1 x.2.1 x.2.2.1,mes:=QDiv.mes5 x.1 x.2.1 x.2.2.1}})],cuts:=fun n=>Lc.look n [],frz:=fun _=>[]}
theorem tieQDiv :fnVC (env0 tb49 [] 61 []) conQDiv NQDiv (Tryz.f86.body.getD .skip) Tryz.f86.results.toList=QDiv.VC:=by kernel_rfl
theorem okQDiv :Sound Tryz.prog gl 86 conQDiv:=fnS al49 Tryz.func86 (by kernel_rfl) (Eq.mpr tieQDiv QDiv.vc)
noncomputable def tb50 :Tb:=⟨(86,conQDiv)::tb49.cs,tb49.pt,tb49.vt⟩
theorem al50 :tb50.Ok:=⟨SoundAll.cons al49.1 okQDiv,al49.2⟩
noncomputable def conQShl :Con:={params:=[.arr 4 (.int .u64),.int .i64],rets:=[.deep (.arr 4 (.int .u64))],pre:=fun x=>QShl.pre x.1 x.2.1,fn:=fun x=>(QShl.fn x.1 x.2.1,())}
noncomputable def NQShl :Tup conQShl.params→Notes:=fun x=>{loops:=fun n=>Lc.look n [(3,{see:=[],ann:=fun _=>{frz:=[],keep:=[],vars:=[(1,.val (.int .i64)),(2,.ptr (.arr 4 (.int .u64))),(4,.ptr (.arr 4 (.int .u64)))],inv:=QShl.inv3 x.1 x.2.1,mes:=QShl.mes3 x.1 x.2.1}})],cuts:=fun n=>Lc.look n [],frz:=fun _=>[]}
theorem tieQShl :fnVC (env0 tb50 [] 19 []) conQShl NQShl (Tryz.f82.body.getD .skip) Tryz.f82.results.toList=QShl.VC:=by kernel_rfl
theorem okQShl :Sound Tryz.prog gl 82 conQShl:=fnS al50 Tryz.func82 (by kernel_rfl) (Eq.mpr tieQShl QShl.vc)
noncomputable def tb51 :Tb:=⟨(82,conQShl)::tb50.cs,tb50.pt,tb50.vt⟩
theorem al51 :tb51.Ok:=⟨SoundAll.cons al50.1 okQShl,al50.2⟩
noncomputable def conQShr :Con:={params:=[.arr 4 (.int .u64),.int .i64],rets:=[.deep (.arr 4 (.int .u64))],pre:=fun x=>QShr.pre x.1 x.2.1,fn:=fun x=>(QShr.fn x.1 x.2.1,())}
noncomputable def NQShr :Tup conQShr.params→Notes:=fun x=>{loops:=fun n=>Lc.look n [(7,{see:=[],ann:=fun _=>{frz:=[2],keep:=[1,2],vars:=[(4,.ptr (.arr 4 (.int .u64))),(5,.ptr (.arr 4 (.int .u64))),(6,.val (.int .i64))],inv:=QShr.inv7 x.1 x.2.1,mes:=QShr.mes7 x.1 x.2.1}})],cuts:=fun n=>Lc.look n [],frz:=fun _=>[]}
theorem tieQShr :fnVC (env0 tb51 [] 34 []) conQShr NQShr (Tryz.f34.body.getD .skip) Tryz.f34.results.toList=QShr.VC:=by kernel_rfl
theorem okQShr :Sound Tryz.prog gl 34 conQShr:=fnS al51 Tryz.func34 (by kernel_rfl) (Eq.mpr tieQShr QShr.vc)
noncomputable def tb52 :Tb:=⟨(34,conQShr)::tb51.cs,tb51.pt,tb51.vt⟩
theorem al52 :tb52.Ok:=⟨SoundAll.cons al51.1 okQShr,al51.2⟩
noncomputable def conQNot :Con:={params:=[.arr 4 (.int .u64)],rets:=[.deep (.arr 4 (.int .u64))],pre:=fun x=>QNot.pre x.1,fn:=fun x=>(QNot.fn x.1,())}
noncomputable def NQNot :Tup conQNot.params→Notes:=fun _=>{loops:=fun n=>Lc.look n [],cuts:=fun n=>Lc.look n [],frz:=fun _=>[]}
theorem tieQNot :fnVC (env0 tb52 [] 16 []) conQNot NQNot (Tryz.f35.body.getD .skip) Tryz.f35.results.toList=QNot.VC:=by kernel_rfl
theorem okQNot :Sound Tryz.prog gl 35 conQNot:=fnS al52 Tryz.func35 (by kernel_rfl) (Eq.mpr tieQNot QNot.vc)
noncomputable def tb53 :Tb:=⟨(35,conQNot)::tb52.cs,tb52.pt,tb52.vt⟩
theorem al53 :tb53.Ok:=⟨SoundAll.cons al52.1 okQNot,al52.2⟩
noncomputable def conQZero :Con:={params:=[.arr 4 (.int .u64)],rets:=[.deep (.bool)],pre:=fun x=>QZero.pre x.1,fn:=fun x=>(QZero.fn x.1,())}
noncomputable def NQZero :Tup conQZero.params→Notes:=fun _=>{loops:=fun n=>Lc.look n [],cuts:=fun n=>Lc.look n [],frz:=fun _=>[]}
theorem tieQZero :fnVC (env0 tb53 [] 6 []) conQZero NQZero (Tryz.f52.body.getD .skip) Tryz.f52.results.toList=QZero.VC:=by kernel_rfl
theorem okQZero :Sound Tryz.prog gl 52 conQZero:=fnS al53 Tryz.func52 (by kernel_rfl) (Eq.mpr tieQZero QZero.vc)
noncomputable def tb54 :Tb:=⟨(52,conQZero)::tb53.cs,tb53.pt,tb53.vt⟩
theorem al54 :tb54.Ok:=⟨SoundAll.cons al53.1 okQZero,al53.2⟩
noncomputable def conQBytes :Con:={params:=[.arr 32 (.int .u8)],rets:=[.deep (.arr 4 (.int .u64))],pre:=fun x=>QBytes.pre x.1,fn:=fun x=>(QBytes.fn x.1,())}
noncomputable def NQBytes :Tup conQBytes.params→Notes:=fun x=>{loops:=fun n=>Lc.look n [(3,{see:=[],ann:=fun _=>{frz:=[1],keep:=[1],vars:=[(2,.ptr (.arr 4 (.int .u64))),(3,.ptr (.arr 4 (.int .u64))),(6,.val (.int .i64))],inv:=QBytes.inv3 x.1,mes:=QBytes.mes3 x.1}})],cuts:=fun n=>Lc.look n [],frz:=fun _=>[]}
theorem tieQBytes :fnVC (env0 tb54 [] 27 []) conQBytes NQBytes (Tryz.f93.body.getD .skip) Tryz.f93.results.toList=QBytes.VC:=by kernel_rfl
theorem okQBytes :Sound Tryz.prog gl 93 conQBytes:=fnS al54 Tryz.func93 (by kernel_rfl) (Eq.mpr tieQBytes QBytes.vc)
noncomputable def tb55 :Tb:=⟨(93,conQBytes)::tb54.cs,tb54.pt,tb54.vt⟩
theorem al55 :tb55.Ok:=⟨SoundAll.cons al54.1 okQBytes,al54.2⟩
noncomputable def conQExpand :Con:={params:=[.int .u32],rets:=[.deep (.arr 4 (.int .u64)),.deep (.int .i64)],pre:=fun x=>QExpand.pre x.1,fn:=fun x=>((QExpand.fn x.1).1,((QExpand.fn x.1).2,()))}
noncomputable def NQExpand :Tup conQExpand.params→Notes:=fun _=>{loops:=fun n=>Lc.look n [],cuts:=fun n=>Lc.look n [],frz:=fun _=>[]}
theorem tieQExpand :fnVC (env0 tb55 [] 48 []) conQExpand NQExpand (Tryz.f53.body.getD .skip) Tryz.f53.results.toList=QExpand.VC:=by kernel_rfl
theorem okQExpand :Sound Tryz.prog gl 53 conQExpand:=fnS al55 Tryz.func53 (by kernel_rfl) (Eq.mpr tieQExpand QExpand.vc)
noncomputable def tb56 :Tb:=⟨(53,conQExpand)::tb55.cs,tb55.pt,tb55.vt⟩
theorem al56 :tb56.Ok:=⟨SoundAll.cons al55.1 okQExpand,al55.2⟩
noncomputable def conQCompact :Con:={params:=[.arr 4 (.int .u64)],rets:=[.deep (.int .u32)],pre:=fun x=>QCompact.pre x.1,fn:=fun x=>(QCompact.fn x.1,())}
noncomputable def NQCompact :Tup conQCompact.params→Notes:=fun x=>{loops:=fun n=>Lc.look n [(5,{see:=[],ann:=fun _=>{frz:=[1],keep:=[1],vars:=[(3,.val (.int .i64))],inv:=QCompact.inv5 x.1,mes:=QCompact.mes5 x.1}})],cuts:=fun n=>Lc.look n [],frz:=fun _=>[]}
theorem tieQCompact :fnVC (env0 tb56 [] 40 []) conQCompact NQCompact (Tryz.f118.body.getD .skip) Tryz.f118.results.toList=QCompact.VC:=by kernel_rfl
theorem okQCompact :Sound Tryz.prog gl 118 conQCompact:=fnS al56 Tryz.func118 (by kernel_rfl) (Eq.mpr tieQCompact QCompact.vc)
noncomputable def tb57 :Tb:=⟨(118,conQCompact)::tb56.cs,tb56.pt,tb56.vt⟩
theorem al57 :tb57.Ok:=⟨SoundAll.cons al56.1 okQCompact,al56.2⟩
noncomputable def conQMeets :Con:={params:=[.arr 32 (.int .u8),.int .u32],rets:=[.deep (.bool)],pre:=fun x=>QMeets.pre x.1 x.2.1,fn:=fun x=>(QMeets.fn x.1 x.2.1,())}
noncomputable def NQMeets :Tup conQMeets.params→Notes:=fun _=>{loops:=fun n=>Lc.look n [],cuts:=fun n=>Lc.look n [],frz:=fun _=>[]}
theorem tieQMeets :fnVC (env0 tb57 [] 21 []) conQMeets NQMeets (Tryz.f63.body.getD .skip) Tryz.f63.results.toList=QMeets.VC:=by kernel_rfl
theorem okQMeets :Sound Tryz.prog gl 63 conQMeets:=fnS al57 Tryz.func63 (by kernel_rfl) (Eq.mpr tieQMeets QMeets.vc)
noncomputable def tb58 :Tb:=⟨(63,conQMeets)::tb57.cs,tb57.pt,tb57.vt⟩
theorem al58 :tb58.Ok:=⟨SoundAll.cons al57.1 okQMeets,al57.2⟩
noncomputable def conQWork :Con:={params:=[.arr 4 (.int .u64)],rets:=[.deep (.arr 4 (.int .u64))],pre:=fun x=>QWork.pre x.1,fn:=fun x=>(QWork.fn x.1,())}
noncomputable def NQWork :Tup conQWork.params→Notes:=fun _=>{loops:=fun n=>Lc.look n [],cuts:=fun n=>Lc.look n [],frz:=fun _=>[]}
theorem tieQWork :fnVC (env0 tb58 [] 29 []) conQWork NQWork (Tryz.f57.body.getD .skip) Tryz.f57.results.toList=QWork.VC:=by kernel_rfl
theorem okQWork :Sound Tryz.prog gl 57 conQWork:=fnS al58 Tryz.func57 (by kernel_rfl) (Eq.mpr tieQWork QWork.vc)
noncomputable def tb59 :Tb:=⟨(57,conQWork)::tb58.cs,tb58.pt,tb58.vt⟩
theorem al59 :tb59.Ok:=⟨SoundAll.cons al58.1 okQWork,al58.2⟩
noncomputable def conQTotal :Con:={params:=[.arr 4 (.int .u64),.arr 4 (.int .u64)],rets:=[.deep (.arr 4 (.int .u64))],pre:=fun x=>QTotal.pre x.1 x.2.1,fn:=fun x=>(QTotal.fn x.1 x.2.1,())}
noncomputable def NQTotal :Tup conQTotal.params→Notes:=fun _=>{loops:=fun n=>Lc.look n [],cuts:=fun n=>Lc.look n [],frz:=fun _=>[]}
theorem tieQTotal :fnVC (env0 tb59 [] 17 []) conQTotal NQTotal (Tryz.f30.body.getD .skip) Tryz.f30.results.toList=QTotal.VC:=by kernel_rfl
theorem okQTotal :Sound Tryz.prog gl 30 conQTotal:=fnS al59 Tryz.func30 (by kernel_rfl) (Eq.mpr tieQTotal QTotal.vc)
noncomputable def tb60 :Tb:=⟨(30,conQTotal)::tb59.cs,tb59.pt,tb59.vt⟩
theorem al60 :tb60.Ok:=⟨SoundAll.cons al59.1 okQTotal,al59.2⟩
noncomputable def conQValid :Con:={params:=[Tq17],rets:=[.deep (.bool)],pre:=fun x=>QValid.pre x.1,fn:=fun x=>(QValid.fn x.1,())}
noncomputable def NQValid :Tup conQValid.params→Notes:=fun x=>{loops:=fun n=>Lc.look n [(6,{see:=[],ann:=fun _=>{frz:=[1],keep:=[1,59,60],vars:=[(61,.val (.int .i64))],inv:=QValid.inv6 x.1,mes:=QValid.mes6 x.1}})],cuts:=fun n=>Lc.look n [],frz:=fun _=>[]}
theorem tieQValid :fnVC (env0 tb60 [] 107 []) conQValid NQValid (Tryz.f22.body.getD .skip) Tryz.f22.results.toList=QValid.VC:=by kernel_rfl
theorem okQValid :Sound Tryz.prog gl 22 conQValid:=fnS al60 Tryz.func22 (by kernel_rfl) (Eq.mpr tieQValid QValid.vc)
noncomputable def tb61 :Tb:=⟨(22,conQValid)::tb60.cs,tb60.pt,tb60.vt⟩
theorem al61 :tb61.Ok:=⟨SoundAll.cons al60.1 okQValid,al60.2⟩
noncomputable def conQMedian :Con:={params:=[.slc (.int .u32)],rets:=[.deep (.int .u32)],pre:=fun x=>QMedian.pre x.1,fn:=fun x=>(QMedian.fn x.1,())}
noncomputable def NQMedian :Tup conQMedian.params→Notes:=fun x=>{loops:=fun n=>Lc.look n [(3,{see:=[],ann:=fun _=>{frz:=[],keep:=[7,8],vars:=[(3,.val (.slc (.int .u32))),(9,.val (.int .i64))],inv:=QMedian.inv3 x.1,mes:=QMedian.mes3 x.1}}),(6,{see:=[(3,.val (.slc (.int .u32))),(5,.val (.int .u32)),(9,.val (.int .i64))],ann:=fun y=>{frz:=[],keep:=[3,5,7,8,9],vars:=[(6,.val (.int .i64))],inv:=QMedian.inv6 x.1 y.1 y.2.1 y.2.2.1,mes:=QMedian.mes6 x.1 y.1 y.2.1 y.2.2.1}})],cuts:=fun n=>Lc.look n [],frz:=fun _=>[]}
theorem tieQMedian :fnVC (env0 tb61 [] 48 []) conQMedian NQMedian (Tryz.f64.body.getD .skip) Tryz.f64.results.toList=QMedian.VC:=by kernel_rfl
theorem okQMedian :Sound Tryz.prog gl 64 conQMedian:=fnS al61 Tryz.func64 (by kernel_rfl) (Eq.mpr tieQMedian QMedian.vc)
noncomputable def tb62 :Tb:=⟨(64,conQMedian)::tb61.cs,tb61.pt,tb61.vt⟩
theorem al62 :tb62.Ok:=⟨SoundAll.cons al61.1 okQMedian,al61.2⟩
noncomputable def conQAdjust :Con:={params:=[Tq17,.int .u32,.int .u32,.int .u32],rets:=[.deep (.int .u32),.deep (.int .i64)],pre:=fun x=>QAdjust.pre x.1 x.2.1 x.2.2.1 x.2.2.2.1,fn:=fun x=>((QAdjust.fn x.1 x.2.1 x.2.2.1 x.2.2.2.1).1,((QAdjust.fn x.1 x.2.1 x.2.2.1 x.2.2.2.1).2,()))}
noncomputable def NQAdjust :Tup conQAdjust.params→Notes:=fun _=>{loops:=fun n=>Lc.look n [],cuts:=fun n=>Lc.look n [],frz:=fun _=>[]}
theorem tieQAdjust :fnVC (env0 tb62 [] 83 []) conQAdjust NQAdjust (Tryz.f92.body.getD .skip) Tryz.f92.results.toList=QAdjust.VC:=by kernel_rfl
theorem okQAdjust :Sound Tryz.prog gl 92 conQAdjust:=fnS al62 Tryz.func92 (by kernel_rfl) (Eq.mpr tieQAdjust QAdjust.vc)
noncomputable def tb63 :Tb:=⟨(92,conQAdjust)::tb62.cs,tb62.pt,tb62.vt⟩
theorem al63 :tb63.Ok:=⟨SoundAll.cons al62.1 okQAdjust,al62.2⟩
noncomputable def conQNext :Con:={params:=[Tq17,.pair (.int .i64) (Tq27)],rets:=[.deep (.int .u32),.deep (.int .i64)],pre:=fun x=>QNext.pre x.1 x.2.1,fn:=fun x=>((QNext.fn x.1 x.2.1).1,((QNext.fn x.1 x.2.1).2,()))}
noncomputable def NQNext :Tup conQNext.params→Notes:=fun _=>{loops:=fun n=>Lc.look n [],cuts:=fun n=>Lc.look n [],frz:=fun _=>[]}
theorem tieQNext :fnVC (env0 tb63 [] 56 []) conQNext NQNext (Tryz.f62.body.getD .skip) Tryz.f62.results.toList=QNext.VC:=by kernel_rfl
theorem okQNext :Sound Tryz.prog gl 62 conQNext:=fnS al63 Tryz.func62 (by kernel_rfl) (Eq.mpr tieQNext QNext.vc)
noncomputable def tb64 :Tb:=⟨(62,conQNext)::tb63.cs,tb63.pt,tb63.vt⟩
theorem al64 :tb64.Ok:=⟨SoundAll.cons al63.1 okQNext,al63.2⟩
noncomputable def conCExt :Con:={params:=[.slc (.int .u8),.slc (.int .u8)],rets:=[.own (.int .u8)],pre:=fun x=>CExt.pre x.1 x.2.1,fn:=fun x=>(CExt.fn x.1 x.2.1,())}
noncomputable def NCExt :Tup conCExt.params→Notes:=fun _=>{loops:=fun n=>Lc.look n [],cuts:=fun n=>Lc.look n [],frz:=fun _=>[]}
theorem tieCExt :fnVC (env0 tb64 [] 18 []) conCExt NCExt (Tryz.f101.body.getD .skip) Tryz.f101.results.toList=CExt.VC:=by kernel_rfl
theorem okCExt :Sound Tryz.prog gl 101 conCExt:=fnS al64 Tryz.func101 (by kernel_rfl) (Eq.mpr tieCExt CExt.vc)
noncomputable def tb65 :Tb:=⟨(101,conCExt)::tb64.cs,tb64.pt,tb64.vt⟩
theorem al65 :tb65.Ok:=⟨SoundAll.cons al64.1 okCExt,al64.2⟩
noncomputable def conCLow :Con:={params:=[.int .u64,.int .i64],rets:=[.own (.int .u8)],pre:=fun x=>CLow.pre x.1 x.2.1,fn:=fun x=>(CLow.fn x.1 x.2.1,())}
noncomputable def NCLow :Tup conCLow.params→Notes:=fun x=>{loops:=fun n=>Lc.look n [(3,{see:=[],ann:=fun _=>{frz:=[],keep:=[0,9],vars:=[(5,.own (.int .u8) false),(10,.val (.int .i64))],inv:=CLow.inv3 x.1 x.2.1,mes:=CLow.mes3 x.1 x.2.1}})],cuts:=fun n=>Lc.look n [],frz:=fun _=>[]}
theorem tieCLow :fnVC (env0 tb65 [] 23 []) conCLow NCLow (Tryz.f102.body.getD .skip) Tryz.f102.results.toList=CLow.VC:=by kernel_rfl
theorem okCLow :Sound Tryz.prog gl 102 conCLow:=fnS al65 Tryz.func102 (by kernel_rfl) (Eq.mpr tieCLow CLow.vc)
noncomputable def tb66 :Tb:=⟨(102,conCLow)::tb65.cs,tb65.pt,tb65.vt⟩
theorem al66 :tb66.Ok:=⟨SoundAll.cons al65.1 okCLow,al65.2⟩
noncomputable def conCU32 :Con:={params:=[.slc (.int .u8),.int .u32],rets:=[.own (.int .u8)],pre:=fun x=>CU32.pre x.1 x.2.1,fn:=fun x=>(CU32.fn x.1 x.2.1,())}
noncomputable def NCU32 :Tup conCU32.params→Notes:=fun _=>{loops:=fun n=>Lc.look n [],cuts:=fun n=>Lc.look n [],frz:=fun _=>[]}
theorem tieCU32 :fnVC (env0 tb66 [] 10 []) conCU32 NCU32 (Tryz.f75.body.getD .skip) Tryz.f75.results.toList=CU32.VC:=by kernel_rfl
theorem okCU32 :Sound Tryz.prog gl 75 conCU32:=fnS al66 Tryz.func75 (by kernel_rfl) (Eq.mpr tieCU32 CU32.vc)
noncomputable def tb67 :Tb:=⟨(75,conCU32)::tb66.cs,tb66.pt,tb66.vt⟩
theorem al67 :tb67.Ok:=⟨SoundAll.cons al66.1 okCU32,al66.2⟩
noncomputable def conCHash :Con:={params:=[.slc (.int .u8),.arr 32 (.int .u8)],rets:=[.own (.int .u8)],pre:=fun x=>CHash.pre x.1 x.2.1,fn:=fun x=>(CHash.fn x.1 x.2.1,())}
noncomputable def NCHash :Tup conCHash.params→Notes:=fun _=>{loops:=fun n=>Lc.look n [],cuts:=fun n=>Lc.look n [],frz:=fun _=>[]}
theorem tieCHash :fnVC (env0 tb67 [] 8 []) conCHash NCHash (Tryz.f76.body.getD .skip) Tryz.f76.results.toList=CHash.VC:=by kernel_rfl
theorem okCHash :Sound Tryz.prog gl 76 conCHash:=fnS al67 Tryz.func76 (by kernel_rfl) (Eq.mpr tieCHash CHash.vc)
noncomputable def tb68 :Tb:=⟨(76,conCHash)::tb67.cs,tb67.pt,tb67.vt⟩
theorem al68 :tb68.Ok:=⟨SoundAll.cons al67.1 okCHash,al67.2⟩
noncomputable def conBEnc :Con:={params:=[Tq5],rets:=[.own (.int .u8)],pre:=fun x=>BEnc.pre x.1,fn:=fun x=>(BEnc.fn x.1,())}
noncomputable def NBEnc :Tup conBEnc.params→Notes:=fun _=>{loops:=fun n=>Lc.look n [],cuts:=fun n=>Lc.look n [],frz:=fun _=>[]}
theorem tieBEnc :fnVC (env0 tb68 [] 27 []) conBEnc NBEnc (Tryz.f50.body.getD .skip) Tryz.f50.results.toList=BEnc.VC:=by kernel_rfl
theorem okBEnc :Sound Tryz.prog gl 50 conBEnc:=fnS al68 Tryz.func50 (by kernel_rfl) (Eq.mpr tieBEnc BEnc.vc)
noncomputable def tb69 :Tb:=⟨(50,conBEnc)::tb68.cs,tb68.pt,tb68.vt⟩
theorem al69 :tb69.Ok:=⟨SoundAll.cons al68.1 okBEnc,al68.2⟩
noncomputable def conBHash :Con:={params:=[Tq5],rets:=[.deep (.arr 32 (.int .u8))],pre:=fun x=>BHash.pre x.1,fn:=fun x=>(BHash.fn x.1,())}
noncomputable def NBHash :Tup conBHash.params→Notes:=fun _=>{loops:=fun n=>Lc.look n [],cuts:=fun n=>Lc.look n [],frz:=fun _=>[]}
theorem tieBHash :fnVC (env0 tb69 [] 6 []) conBHash NBHash (Tryz.f20.body.getD .skip) Tryz.f20.results.toList=BHash.VC:=by kernel_rfl
theorem okBHash :Sound Tryz.prog gl 20 conBHash:=fnS al69 Tryz.func20 (by kernel_rfl) (Eq.mpr tieBHash BHash.vc)
noncomputable def tb70 :Tb:=⟨(20,conBHash)::tb69.cs,tb69.pt,tb69.vt⟩
theorem al70 :tb70.Ok:=⟨SoundAll.cons al69.1 okBHash,al69.2⟩
noncomputable def conJoined :Con:={params:=[.slc (.int .u8),.slc (.int .u8)],rets:=[.own (.int .u8)],pre:=fun x=>Joined.pre x.1 x.2.1,fn:=fun x=>(Joined.fn x.1 x.2.1,())}
noncomputable def NJoined :Tup conJoined.params→Notes:=fun _=>{loops:=fun n=>Lc.look n [],cuts:=fun n=>Lc.look n [],frz:=fun _=>[]}
theorem tieJoined :fnVC (env0 tb70 [] 17 []) conJoined NJoined (Tryz.f108.body.getD .skip) Tryz.f108.results.toList=Joined.VC:=by kernel_rfl
theorem okJoined :Sound Tryz.prog gl 108 conJoined:=fnS al70 Tryz.func108 (by kernel_rfl) (Eq.mpr tieJoined Joined.vc)
noncomputable def tb71 :Tb:=⟨(108,conJoined)::tb70.cs,tb70.pt,tb70.vt⟩
theorem al71 :tb71.Ok:=⟨SoundAll.cons al70.1 okJoined,al70.2⟩
noncomputable def conRLit :Con:={params:=[.int .u64,.int .i64],rets:=[.own (.int .u8)],pre:=fun x=>RLit.pre x.1 x.2.1,fn:=fun x=>(RLit.fn x.1 x.2.1,())}
noncomputable def NRLit :Tup conRLit.params→Notes:=fun x=>{loops:=fun n=>Lc.look n [(3,{see:=[],ann:=fun _=>{frz:=[],keep:=[0,10],vars:=[(5,.own (.int .u8) false),(11,.val (.int .i64))],inv:=RLit.inv3 x.1 x.2.1,mes:=RLit.mes3 x.1 x.2.1}})],cuts:=fun n=>Lc.look n [],frz:=fun _=>[]}
theorem tieRLit :fnVC (env0 tb71 [] 24 []) conRLit NRLit (Tryz.f109.body.getD .skip) Tryz.f109.results.toList=RLit.VC:=by kernel_rfl
theorem okRLit :Sound Tryz.prog gl 109 conRLit:=fnS al71 Tryz.func109 (by kernel_rfl) (Eq.mpr tieRLit RLit.vc)
noncomputable def tb72 :Tb:=⟨(109,conRLit)::tb71.cs,tb71.pt,tb71.vt⟩
theorem al72 :tb72.Ok:=⟨SoundAll.cons al71.1 okRLit,al71.2⟩
noncomputable def conRU32 :Con:={params:=[.slc (.int .u8),.int .u32],rets:=[.own (.int .u8)],pre:=fun x=>RU32.pre x.1 x.2.1,fn:=fun x=>(RU32.fn x.1 x.2.1,())}
noncomputable def NRU32 :Tup conRU32.params→Notes:=fun _=>{loops:=fun n=>Lc.look n [],cuts:=fun n=>Lc.look n [],frz:=fun _=>[]}
theorem tieRU32 :fnVC (env0 tb72 [] 10 []) conRU32 NRU32 (Tryz.f84.body.getD .skip) Tryz.f84.results.toList=RU32.VC:=by kernel_rfl
theorem okRU32 :Sound Tryz.prog gl 84 conRU32:=fnS al72 Tryz.func84 (by kernel_rfl) (Eq.mpr tieRU32 RU32.vc)
noncomputable def tb73 :Tb:=⟨(84,conRU32)::tb72.cs,tb72.pt,tb72.vt⟩
theorem al73 :tb73.Ok:=⟨SoundAll.cons al72.1 okRU32,al72.2⟩
noncomputable def conRHash :Con:={params:=[.slc (.int .u8),.arr 32 (.int .u8)],rets:=[.own (.int .u8)],pre:=fun x=>RHash.pre x.1 x.2.1,fn:=fun x=>(RHash.fn x.1 x.2.1,())}
noncomputable def NRHash :Tup conRHash.params→Notes:=fun _=>{loops:=fun n=>Lc.look n [],cuts:=fun n=>Lc.look n [],frz:=fun _=>[]}
theorem tieRHash :fnVC (env0 tb73 [] 8 []) conRHash NRHash (Tryz.f85.body.getD .skip) Tryz.f85.results.toList=RHash.VC:=by kernel_rfl
theorem okRHash :Sound Tryz.prog gl 85 conRHash:=fnS al73 Tryz.func85 (by kernel_rfl) (Eq.mpr tieRHash RHash.vc)
noncomputable def tb74 :Tb:=⟨(85,conRHash)::tb73.cs,tb73.pt,tb73.vt⟩
theorem al74 :tb74.Ok:=⟨SoundAll.cons al73.1 okRHash,al73.2⟩
noncomputable def conREnc :Con:={params:=[Tq5],rets:=[.own (.int .u8)],pre:=fun x=>REnc.pre x.1,fn:=fun x=>(REnc.fn x.1,())}
noncomputable def NREnc :Tup conREnc.params→Notes:=fun x=>{loops:=fun n=>Lc.look n [(4,{see:=[],ann:=fun _=>{frz:=[],keep:=[22,23],vars:=[(3,.own (.int .u8) true),(24,.val (.int .i64))],inv:=REnc.inv4 x.1,mes:=REnc.mes4 x.1}})],cuts:=fun n=>Lc.look n [],frz:=fun _=>[]}
theorem tieREnc :fnVC (env0 tb74 [] 33 []) conREnc NREnc (Tryz.f56.body.getD .skip) Tryz.f56.results.toList=REnc.VC:=by kernel_rfl
theorem okREnc :Sound Tryz.prog gl 56 conREnc:=fnS al74 Tryz.func56 (by kernel_rfl) (Eq.mpr tieREnc REnc.vc)
noncomputable def tb75 :Tb:=⟨(56,conREnc)::tb74.cs,tb74.pt,tb74.vt⟩
theorem al75 :tb75.Ok:=⟨SoundAll.cons al74.1 okREnc,al74.2⟩
noncomputable def conRHdr :Con:={params:=[Tq5],rets:=[.deep (.arr 32 (.int .u8))],pre:=fun x=>RHdr.pre x.1,fn:=fun x=>(RHdr.fn x.1,())}
noncomputable def NRHdr :Tup conRHdr.params→Notes:=fun _=>{loops:=fun n=>Lc.look n [],cuts:=fun n=>Lc.look n [],frz:=fun _=>[]}
theorem tieRHdr :fnVC (env0 tb75 [] 6 []) conRHdr NRHdr (Tryz.f23.body.getD .skip) Tryz.f23.results.toList=RHdr.VC:=by kernel_rfl
theorem okRHdr :Sound Tryz.prog gl 23 conRHdr:=fnS al75 Tryz.func23 (by kernel_rfl) (Eq.mpr tieRHdr RHdr.vc)
noncomputable def tb76 :Tb:=⟨(23,conRHdr)::tb75.cs,tb75.pt,tb75.vt⟩
theorem al76 :tb76.Ok:=⟨SoundAll.cons al75.1 okRHdr,al75.2⟩
noncomputable def conUFits :Con:={params:=[Tq17,.pair (.int .i64) (Tq27)],rets:=[.deep (.bool)],pre:=fun x=>UFits.pre x.1 x.2.1,fn:=fun x=>(UFits.fn x.1 x.2.1,())}
noncomputable def NUFits :Tup conUFits.params→Notes:=fun _=>{loops:=fun n=>Lc.look n [],cuts:=fun n=>Lc.look n [],frz:=fun _=>[]}
theorem tieUFits :fnVC (env0 tb76 [] 27 []) conUFits NUFits (Tryz.f111.body.getD .skip) Tryz.f111.results.toList=UFits.VC:=by kernel_rfl
theorem okUFits :Sound Tryz.prog gl 111 conUFits:=fnS al76 Tryz.func111 (by kernel_rfl) (Eq.mpr tieUFits UFits.vc)
noncomputable def tb77 :Tb:=⟨(111,conUFits)::tb76.cs,tb76.pt,tb76.vt⟩
theorem al77 :tb77.Ok:=⟨SoundAll.cons al76.1 okUFits,al76.2⟩
noncomputable def conURoom :Con:={params:=[Tq17,.pair (.int .i64) (Tq27)],rets:=[.deep (.int .i64)],pre:=fun x=>URoom.pre x.1 x.2.1,fn:=fun x=>(URoom.fn x.1 x.2.1,())}
noncomputable def NURoom :Tup conURoom.params→Notes:=fun _=>{loops:=fun n=>Lc.look n [],cuts:=fun n=>Lc.look n [],frz:=fun _=>[]}
theorem tieURoom :fnVC (env0 tb77 [] 12 []) conURoom NURoom (Tryz.f87.body.getD .skip) Tryz.f87.results.toList=URoom.VC:=by kernel_rfl
theorem okURoom :Sound Tryz.prog gl 87 conURoom:=fnS al77 Tryz.func87 (by kernel_rfl) (Eq.mpr tieURoom URoom.vc)
noncomputable def tb78 :Tb:=⟨(87,conURoom)::tb77.cs,tb77.pt,tb77.vt⟩
theorem al78 :tb78.Ok:=⟨SoundAll.cons al77.1 okURoom,al77.2⟩
noncomputable def conUStart :Con:={params:=[Tq17],rets:=[.deep (.pair (.int .i64) (Tq27)),.deep (.int .i64)],pre:=fun x=>UStart.pre x.1,fn:=fun x=>((UStart.fn x.1).1,((UStart.fn x.1).2,()))}
noncomputable def NUStart :Tup conUStart.params→Notes:=fun _=>{loops:=fun n=>Lc.look n [],cuts:=fun n=>Lc.look n [],frz:=fun _=>[]}
theorem tieUStart :fnVC (env0 tb78 [] 21 []) conUStart NUStart (Tryz.f58.body.getD .skip) Tryz.f58.results.toList=UStart.VC:=by kernel_rfl
theorem okUStart :Sound Tryz.prog gl 58 conUStart:=fnS al78 Tryz.func58 (by kernel_rfl) (Eq.mpr tieUStart UStart.vc)
noncomputable def tb79 :Tb:=⟨(58,conUStart)::tb78.cs,tb78.pt,tb78.vt⟩
theorem al79 :tb79.Ok:=⟨SoundAll.cons al78.1 okUStart,al78.2⟩
noncomputable def conUAdvance :Con:={params:=[Tq17,.pair (.int .i64) (Tq27),Tq5],rets:=[.deep (.pair (.int .i64) (Tq27)),.deep (.int .i64)],pre:=fun x=>UAdvance.pre x.1 x.2.1 x.2.2.1,fn:=fun x=>((UAdvance.fn x.1 x.2.1 x.2.2.1).1,((UAdvance.fn x.1 x.2.1 x.2.2.1).2,()))}
noncomputable def NUAdvance :Tup conUAdvance.params→Notes:=fun _=>{loops:=fun n=>Lc.look n [],cuts:=fun n=>Lc.look n [],frz:=fun _=>[]}
theorem tieUAdvance :fnVC (env0 tb79 [] 57 []) conUAdvance NUAdvance (Tryz.f61.body.getD .skip) Tryz.f61.results.toList=UAdvance.VC:=by kernel_rfl
theorem okUAdvance :Sound Tryz.prog gl 61 conUAdvance:=fnS al79 Tryz.func61 (by kernel_rfl) (Eq.mpr tieUAdvance UAdvance.vc)
noncomputable def tb80 :Tb:=⟨(61,conUAdvance)::tb79.cs,tb79.pt,tb79.vt⟩
theorem al80 :tb80.Ok:=⟨SoundAll.cons al79.1 okUAdvance,al79.2⟩
noncomputable def conUCheck :Con:={params:=[Tq17,.pair (.int .i64) (Tq27),Tq5,.int .u32],rets:=[.deep (.int .i64)],pre:=fun x=>UCheck.pre x.1 x.2.1 x.2.2.1 x.2.2.2.1,fn:=fun x=>(UCheck.fn x.1 x.2.1 x.2.2.1 x.2.2.2.1,())}
noncomputable def NUCheck :Tup conUCheck.params→Notes:=fun x=>{loops:=fun n=>Lc.look n [(21,{see:=[],ann:=fun _=>{frz:=[5],keep:=[5,68,69],vars:=[(12,.ptr (.arr 32 (.int .u8))),(70,.val (.int .i64))],inv:=UCheck.inv21 x.1 x.2.1 x.2.2.1 x.2.2.2.1,mes:=UCheck.mes21 x.1 x.2.1 x.2.2.1 x.2.2.2.1}})],cuts:=fun n=>Lc.look n [],frz:=fun _=>[]}
theorem tieUCheck :fnVC (env0 tb80 [] 87 []) conUCheck NUCheck (Tryz.f59.body.getD .skip) Tryz.f59.results.toList=UCheck.VC:=by kernel_rfl
theorem okUCheck :Sound Tryz.prog gl 59 conUCheck:=fnS al80 Tryz.func59 (by kernel_rfl) (Eq.mpr tieUCheck UCheck.vc)
noncomputable def tb81 :Tb:=⟨(59,conUCheck)::tb80.cs,tb80.pt,tb80.vt⟩
theorem al81 :tb81.Ok:=⟨SoundAll.cons al80.1 okUCheck,al80.2⟩
noncomputable def conVFits :Con:={params:=[Tq17,.pair (.int .i64) (Tq27)],rets:=[.deep (.bool)],pre:=fun x=>VFits.pre x.1 x.2.1,fn:=fun x=>(VFits.fn x.1 x.2.1,())}
noncomputable def NVFits :Tup conVFits.params→Notes:=fun _=>{loops:=fun n=>Lc.look n [],cuts:=fun n=>Lc.look n [],frz:=fun _=>[]}
theorem tieVFits :fnVC (env0 tb81 [] 27 []) conVFits NVFits (Tryz.f65.body.getD .skip) Tryz.f65.results.toList=VFits.VC:=by kernel_rfl
theorem okVFits :Sound Tryz.prog gl 65 conVFits:=fnS al81 Tryz.func65 (by kernel_rfl) (Eq.mpr tieVFits VFits.vc)
noncomputable def tb82 :Tb:=⟨(65,conVFits)::tb81.cs,tb81.pt,tb81.vt⟩
theorem al82 :tb82.Ok:=⟨SoundAll.cons al81.1 okVFits,al81.2⟩
noncomputable def conVStart :Con:={params:=[Tq17],rets:=[.deep (.pair (.int .i64) (Tq27)),.deep (.int .i64)],pre:=fun x=>VStart.pre x.1,fn:=fun x=>((VStart.fn x.1).1,((VStart.fn x.1).2,()))}
noncomputable def NVStart :Tup conVStart.params→Notes:=fun _=>{loops:=fun n=>Lc.look n [],cuts:=fun n=>Lc.look n [],frz:=fun _=>[]}
theorem tieVStart :fnVC (env0 tb82 [] 21 []) conVStart NVStart (Tryz.f26.body.getD .skip) Tryz.f26.results.toList=VStart.VC:=by kernel_rfl
theorem okVStart :Sound Tryz.prog gl 26 conVStart:=fnS al82 Tryz.func26 (by kernel_rfl) (Eq.mpr tieVStart VStart.vc)
noncomputable def tb83 :Tb:=⟨(26,conVStart)::tb82.cs,tb82.pt,tb82.vt⟩
theorem al83 :tb83.Ok:=⟨SoundAll.cons al82.1 okVStart,al82.2⟩
noncomputable def conVAdvance :Con:={params:=[Tq17,.pair (.int .i64) (Tq27),Tq5],rets:=[.deep (.pair (.int .i64) (Tq27)),.deep (.int .i64)],pre:=fun x=>VAdvance.pre x.1 x.2.1 x.2.2.1,fn:=fun x=>((VAdvance.fn x.1 x.2.1 x.2.2.1).1,((VAdvance.fn x.1 x.2.1 x.2.2.1).2,()))}
noncomputable def NVAdvance :Tup conVAdvance.params→Notes:=fun _=>{loops:=fun n=>Lc.look n [],cuts:=fun n=>Lc.look n [],frz:=fun _=>[]}
theorem tieVAdvance :fnVC (env0 tb83 [] 54 []) conVAdvance NVAdvance (Tryz.f28.body.getD .skip) Tryz.f28.results.toList=VAdvance.VC:=by kernel_rfl
theorem okVAdvance :Sound Tryz.prog gl 28 conVAdvance:=fnS al83 Tryz.func28 (by kernel_rfl) (Eq.mpr tieVAdvance VAdvance.vc)
noncomputable def tb84 :Tb:=⟨(28,conVAdvance)::tb83.cs,tb83.pt,tb83.vt⟩
theorem al84 :tb84.Ok:=⟨SoundAll.cons al83.1 okVAdvance,al83.2⟩
noncomputable def conVCheck :Con:={params:=[Tq17,.pair (.int .i64) (Tq27),Tq5,.int .u32],rets:=[.deep (.int .i64)],pre:=fun x=>VCheck.pre x.1 x.2.1 x.2.2.1 x.2.2.2.1,fn:=fun x=>(VCheck.fn x.1 x.2.1 x.2.2.1 x.2.2.2.1,())}
noncomputable def NVCheck :Tup conVCheck.params→Notes:=fun x=>{loops:=fun n=>Lc.look n [(20,{see:=[],ann:=fun _=>{frz:=[],keep:=[74,75],vars:=[(9,.ptr (.pair (.int .i64) (Tq27))),(76,.val (.int .i64))],inv:=VCheck.inv20 x.1 x.2.1 x.2.2.1 x.2.2.2.1,mes:=VCheck.mes20 x.1 x.2.1 x.2.2.1 x.2.2.2.1}})],cuts:=fun n=>Lc.look n [],frz:=fun _=>[]}
theorem tieVCheck :fnVC (env0 tb84 [] 93 []) conVCheck NVCheck (Tryz.f27.body.getD .skip) Tryz.f27.results.toList=VCheck.VC:=by kernel_rfl
theorem okVCheck :Sound Tryz.prog gl 27 conVCheck:=fnS al84 Tryz.func27 (by kernel_rfl) (Eq.mpr tieVCheck VCheck.vc)
noncomputable def tb85 :Tb:=⟨(27,conVCheck)::tb84.cs,tb84.pt,tb84.vt⟩
theorem al85 :tb85.Ok:=⟨SoundAll.cons al84.1 okVCheck,al84.2⟩
noncomputable def conNLess :Con:={params:=[.arr 4 (.int .u64),.arr 4 (.int .u64)],rets:=[.deep (.bool)],pre:=fun x=>NLess.pre x.1 x.2.1,fn:=fun x=>(NLess.fn x.1 x.2.1,())}
noncomputable def NNLess :Tup conNLess.params→Notes:=fun x=>{loops:=fun n=>Lc.look n [(2,{see:=[],ann:=fun _=>{frz:=[2,3],keep:=[2,3],vars:=[(5,.val (.int .i64))],inv:=NLess.inv2 x.1 x.2.1,mes:=NLess.mes2 x.1 x.2.1}})],cuts:=fun n=>Lc.look n [],frz:=fun _=>[]}
theorem tieNLess :fnVC (env0 tb85 [] 24 []) conNLess NNLess (Tryz.f43.body.getD .skip) Tryz.f43.results.toList=NLess.VC:=by kernel_rfl
theorem okNLess :Sound Tryz.prog gl 43 conNLess:=fnS al85 Tryz.func43 (by kernel_rfl) (Eq.mpr tieNLess NLess.vc)
noncomputable def tb86 :Tb:=⟨(43,conNLess)::tb85.cs,tb85.pt,tb85.vt⟩
theorem al86 :tb86.Ok:=⟨SoundAll.cons al85.1 okNLess,al85.2⟩
noncomputable def conNWork :Con:={params:=[.int .u32],rets:=[.deep (.arr 4 (.int .u64))],pre:=fun x=>NWork.pre x.1,fn:=fun x=>(NWork.fn x.1,())}
noncomputable def NNWork :Tup conNWork.params→Notes:=fun _=>{loops:=fun n=>Lc.look n [],cuts:=fun n=>Lc.look n [],frz:=fun _=>[]}
theorem tieNWork :fnVC (env0 tb86 [] 12 []) conNWork NNWork (Tryz.f21.body.getD .skip) Tryz.f21.results.toList=NWork.VC:=by kernel_rfl
theorem okNWork :Sound Tryz.prog gl 21 conNWork:=fnS al86 Tryz.func21 (by kernel_rfl) (Eq.mpr tieNWork NWork.vc)
noncomputable def tb87 :Tb:=⟨(21,conNWork)::tb86.cs,tb86.pt,tb86.vt⟩
theorem al87 :tb87.Ok:=⟨SoundAll.cons al86.1 okNWork,al86.2⟩
noncomputable def conNChild :Con:={params:=[.pair (Tq5) (Tq21),.int .i64,Tq5],rets:=[.deep (.pair (Tq5) (Tq21))],pre:=fun x=>NChild.pre x.1 x.2.1 x.2.2.1,fn:=fun x=>(NChild.fn x.1 x.2.1 x.2.2.1,())}
noncomputable def NNChild :Tup conNChild.params→Notes:=fun _=>{loops:=fun n=>Lc.look n [],cuts:=fun n=>Lc.look n [],frz:=fun _=>[]}
theorem tieNChild :fnVC (env0 tb87 [] 21 []) conNChild NNChild (Tryz.f60.body.getD .skip) Tryz.f60.results.toList=NChild.VC:=by kernel_rfl
theorem okNChild :Sound Tryz.prog gl 60 conNChild:=fnS al87 Tryz.func60 (by kernel_rfl) (Eq.mpr tieNChild NChild.vc)
noncomputable def tb88 :Tb:=⟨(60,conNChild)::tb87.cs,tb87.pt,tb87.vt⟩
theorem al88 :tb88.Ok:=⟨SoundAll.cons al87.1 okNChild,al87.2⟩
noncomputable def conNStart :Con:={params:=[Tq17],rets:=[.deep (Tq23),.deep (.int .i64)],pre:=fun x=>NStart.pre x.1,fn:=fun x=>((NStart.fn x.1).1,((NStart.fn x.1).2,()))}
noncomputable def NNStart :Tup conNStart.params→Notes:=fun _=>{loops:=fun n=>Lc.look n [],cuts:=fun n=>Lc.look n [],frz:=fun _=>[]}
theorem tieNStart :fnVC (env0 tb88 [] 22 []) conNStart NNStart (Tryz.f7.body.getD .skip) Tryz.f7.results.toList=NStart.VC:=by kernel_rfl
theorem okNStart :Sound Tryz.prog gl 7 conNStart:=fnS al88 Tryz.func7 (by kernel_rfl) (Eq.mpr tieNStart NStart.vc)
noncomputable def tb89 :Tb:=⟨(7,conNStart)::tb88.cs,tb88.pt,tb88.vt⟩
theorem al89 :tb89.Ok:=⟨SoundAll.cons al88.1 okNStart,al88.2⟩
noncomputable def conNContexts :Con:={params:=[Tq17,Tq23],rets:=[.deep (.slc (.pair (.int .i64) (Tq27))),.deep (.bool)],pre:=fun x=>NContexts.pre x.1 x.2.1,fn:=fun x=>((NContexts.fn x.1 x.2.1).1,((NContexts.fn x.1 x.2.1).2,()))}
noncomputable def NNContexts :Tup conNContexts.params→Notes:=fun x=>{loops:=fun n=>Lc.look n [(11,{see:=[],ann:=fun _=>{frz:=[2,3],keep:=[2,3,64,65],vars:=[(9,.own (.pair (.int .i64) (Tq27)) true),(10,.map (.arr 32 (.int .u8)) (.bool)),(11,.val (.int .i64)),(66,.val (.int .i64))],inv:=NContexts.inv11 x.1 x.2.1,mes:=NContexts.mes11 x.1 x.2.1}})],cuts:=fun n=>Lc.look n [],frz:=fun _=>[]}
theorem tieNContexts :fnVC (env0 tb89 [] 148 []) conNContexts NNContexts (Tryz.f25.body.getD .skip) Tryz.f25.results.toList=NContexts.VC:=by kernel_rfl
theorem okNContexts :Sound Tryz.prog gl 25 conNContexts:=fnS al89 Tryz.func25 (by kernel_rfl) (Eq.mpr tieNContexts NContexts.vc)
noncomputable def tb90 :Tb:=⟨(25,conNContexts)::tb89.cs,tb89.pt,tb89.vt⟩
theorem al90 :tb90.Ok:=⟨SoundAll.cons al89.1 okNContexts,al89.2⟩
noncomputable def conNValid :Con:={params:=[Tq17,Tq23],rets:=[.deep (.bool)],pre:=fun x=>NValid.pre x.1 x.2.1,fn:=fun x=>(NValid.fn x.1 x.2.1,())}
noncomputable def NNValid :Tup conNValid.params→Notes:=fun _=>{loops:=fun n=>Lc.look n [],cuts:=fun n=>Lc.look n [],frz:=fun _=>[]}
theorem tieNValid :fnVC (env0 tb90 [] 14 []) conNValid NNValid (Tryz.f10.body.getD .skip) Tryz.f10.results.toList=NValid.VC:=by kernel_rfl
theorem okNValid :Sound Tryz.prog gl 10 conNValid:=fnS al90 Tryz.func10 (by kernel_rfl) (Eq.mpr tieNValid NValid.vc)
noncomputable def tb91 :Tb:=⟨(10,conNValid)::tb90.cs,tb90.pt,tb90.vt⟩
theorem al91 :tb91.Ok:=⟨SoundAll.cons al90.1 okNValid,al90.2⟩
noncomputable def conNHit :Con:={params:=[.pair (Tq5) (Tq21),.ref (.arr 32 (.int .u8))],rets:=[.deep (.bool)],pre:=fun x=>NHit.pre x.1 x.2.1,fn:=fun x=>(NHit.fn x.1 x.2.1,())}
noncomputable def NNHit :Tup conNHit.params→Notes:=fun _=>{loops:=fun n=>Lc.look n [],cuts:=fun n=>Lc.look n [],frz:=fun _=>[]}
theorem tieNHit :fnVC (env0 tb91 [] 8 []) conNHit NNHit (Tryz.f46.body.getD .skip) Tryz.f46.results.toList=NHit.VC:=by kernel_rfl
theorem okNHit :Sound Tryz.prog gl 46 conNHit:=fnS al91 Tryz.func46 (by kernel_rfl) (Eq.mpr tieNHit NHit.vc)
noncomputable def tb92 :Tb:=⟨(46,conNHit)::tb91.cs,tb91.pt,tb91.vt⟩
theorem al92 :tb92.Ok:=⟨SoundAll.cons al91.1 okNHit,al91.2⟩
noncomputable def conNIndex :Con:={params:=[.slc (.pair (Tq5) (Tq21)),.fn 46 (.ref (.arr 32 (.int .u8)))],rets:=[.deep (.int .i64)],pre:=fun x=>NIndex.pre x.1 x.2.1,fn:=fun x=>(NIndex.fn x.1 x.2.1,())}
noncomputable def NNIndex :Tup conNIndex.params→Notes:=fun x=>{loops:=fun n=>Lc.look n [(2,{see:=[],ann:=fun _=>{frz:=[],keep:=[0,1,7],vars:=[(8,.val (.int .i64))],inv:=NIndex.inv2 x.1 x.2.1,mes:=NIndex.mes2 x.1 x.2.1}})],cuts:=fun n=>Lc.look n [],frz:=fun _=>[]}
theorem tieNIndex :fnVC (env0 tb92 [] 19 []) conNIndex NNIndex (Tryz.f45.body.getD .skip) Tryz.f45.results.toList=NIndex.VC:=by kernel_rfl
theorem okNIndex :Sound Tryz.prog gl 45 conNIndex:=fnS al92 Tryz.func45 (by kernel_rfl) (Eq.mpr tieNIndex NIndex.vc)
noncomputable def tb93 :Tb:=⟨(45,conNIndex)::tb92.cs,tb92.pt,tb92.vt⟩
theorem al93 :tb93.Ok:=⟨SoundAll.cons al92.1 okNIndex,al92.2⟩
noncomputable def conNFind :Con:={params:=[Tq23,.arr 32 (.int .u8)],rets:=[.deep (.int .i64)],pre:=fun x=>NFind.pre x.1 x.2.1,fn:=fun x=>(NFind.fn x.1 x.2.1,())}
noncomputable def NNFind :Tup conNFind.params→Notes:=fun _=>{loops:=fun n=>Lc.look n [],cuts:=fun n=>Lc.look n [],frz:=fun n=>(Lc.look n [(1,[3])]).getD []}
theorem tieNFind :fnVC (env0 tb93 [] 9 []) conNFind NNFind (Tryz.f18.body.getD .skip) Tryz.f18.results.toList=NFind.VC:=by kernel_rfl
theorem okNFind :Sound Tryz.prog gl 18 conNFind:=fnS al93 Tryz.func18 (by kernel_rfl) (Eq.mpr tieNFind NFind.vc)
noncomputable def tb94 :Tb:=⟨(18,conNFind)::tb93.cs,tb93.pt,tb93.vt⟩
theorem al94 :tb94.Ok:=⟨SoundAll.cons al93.1 okNFind,al93.2⟩
noncomputable def conCloneN :Con:={params:=[.slc (.pair (Tq5) (Tq21))],rets:=[.own (.pair (Tq5) (Tq21))],pre:=fun x=>CloneN.pre x.1,fn:=fun x=>(CloneN.fn x.1,())}
theorem okCloneN :Sound Tryz.prog gl 68 conCloneN:=cloneNSound gl
noncomputable def tb95 :Tb:=⟨(68,conCloneN)::tb94.cs,tb94.pt,tb94.vt⟩
theorem al95 :tb95.Ok:=⟨SoundAll.cons al94.1 okCloneN,al94.2⟩
noncomputable def conNCopied :Con:={params:=[Tq23],rets:=[.vlk (Tq23) [([.fld 0],.pair (Tq5) (Tq21),1000)]],pre:=fun x=>NCopied.pre x.1,fn:=fun x=>(NCopied.fn x.1,())}
noncomputable def ENCopied :Env:={env0 tb95 [] 9 [] with lkd:=[(8,[])]}
noncomputable def NNCopied :Tup conNCopied.params→Notes:=fun _=>{loops:=fun n=>Lc.look n [],cuts:=fun n=>Lc.look n [],frz:=fun _=>[]}
theorem tieNCopied :fnVC ENCopied conNCopied NNCopied (Tryz.f41.body.getD .skip) Tryz.f41.results.toList=NCopied.VC:=by kernel_rfl
theorem okNCopied :Sound Tryz.prog gl 41 conNCopied:=fn_sound (E:=ENCopied) (c:=conNCopied) (ok_of (envOk_of (E:=ENCopied) rfl rfl tabOk bytOk mutOk growOk) rfl al95.1 (ptr_of al95.2.1) (byv_of al95.2.2)) follows (fn:=Tryz.f41) Tryz.func41 (by kernel_rfl) (body:=Tryz.f41.body.getD .skip) (by kernel_rfl) (by kernel_rfl) (of_decide_eq_true (by kernel_rfl)) (Eq.mpr tieNCopied NCopied.vc)
noncomputable def tb96 :Tb:=⟨(41,conNCopied)::tb95.cs,tb95.pt,tb95.vt⟩
theorem al96 :tb96.Ok:=⟨SoundAll.cons al95.1 okNCopied,al95.2⟩
noncomputable def conNOrdered :Con:={params:=[Tq23],rets:=[.deep (.bool)],pre:=fun x=>NOrdered.pre x.1,fn:=fun x=>(NOrdered.fn x.1,())}
noncomputable def NNOrdered :Tup conNOrdered.params→Notes:=fun x=>{loops:=fun n=>Lc.look n [(4,{see:=[],ann:=fun _=>{frz:=[],keep:=[26,27],vars:=[(28,.val (.int .i64))],inv:=NOrdered.inv4 x.1,mes:=NOrdered.mes4 x.1}})],cuts:=fun n=>Lc.look n [],frz:=fun _=>[]}
theorem tieNOrdered :fnVC (env0 tb96 [] 43 []) conNOrdered NNOrdered (Tryz.f40.body.getD .skip) Tryz.f40.results.toList=NOrdered.VC:=by kernel_rfl
theorem okNOrdered :Sound Tryz.prog gl 40 conNOrdered:=fnS al96 Tryz.func40 (by kernel_rfl) (Eq.mpr tieNOrdered NOrdered.vc)
noncomputable def tb97 :Tb:=⟨(40,conNOrdered)::tb96.cs,tb96.pt,tb96.vt⟩
theorem al97 :tb97.Ok:=⟨SoundAll.cons al96.1 okNOrdered,al96.2⟩
noncomputable def conNChain :Con:={params:=[Tq23],rets:=[.ownw (.bool),.deep (.int .i64)],pre:=fun x=>NChain.pre x.1,fn:=fun x=>((NChain.fn x.1).1,((NChain.fn x.1).2,()))}
theorem okNChain :Sound Tryz.prog gl 42 conNChain:=chainSound gl
noncomputable def tb98 :Tb:=⟨(42,conNChain)::tb97.cs,tb97.pt,tb97.vt⟩
theorem al98 :tb98.Ok:=⟨SoundAll.cons al97.1 okNChain,al97.2⟩
noncomputable def conNSide :Con:={params:=[Tq23],rets:=[.deep (.int .i64)],pre:=fun x=>NSide.pre x.1,fn:=fun x=>(NSide.fn x.1,())}
noncomputable def NNSide :Tup conNSide.params→Notes:=fun _=>{loops:=fun n=>Lc.look n [],cuts:=fun n=>Lc.look n [],frz:=fun _=>[]}
theorem tieNSide :fnVC (env0 tb98 [] 14 []) conNSide NNSide (Tryz.f17.body.getD .skip) Tryz.f17.results.toList=NSide.VC:=by kernel_rfl
theorem okNSide :Sound Tryz.prog gl 17 conNSide:=fnS al98 Tryz.func17 (by kernel_rfl) (Eq.mpr tieNSide NSide.vc)
noncomputable def tb99 :Tb:=⟨(17,conNSide)::tb98.cs,tb98.pt,tb98.vt⟩
theorem al99 :tb99.Ok:=⟨SoundAll.cons al98.1 okNSide,al98.2⟩
noncomputable def conNWithout :Con:={params:=[Tq23,.slc (.bool)],rets:=[.deep (Tq23)],pre:=fun x=>NWithout.pre x.1 x.2.1,fn:=fun x=>(NWithout.fn x.1 x.2.1,())}
noncomputable def ENWithout :Env:={env0 tb99 [] 53 [] with lkd:=[(5,[([.fld 0],100005)])]}
noncomputable def NNWithout :Tup conNWithout.params→Notes:=fun x=>{loops:=fun n=>Lc.look n [(4,{see:=[],ann:=fun _=>{frz:=[2],keep:=[1,2,14,15],vars:=[(4,.ptr (Tq23)),(5,.ptrL (Tq23) [([.fld 0],.pair (Tq5) (Tq21),1005)]),(6,.own (.int .i64) false),(16,.val (.int .i64))],inv:=NWithout.inv4 x.1 x.2.1,mes:=NWithout.mes4 x.1 x.2.1}})],cuts:=fun n=>Lc.look n [],frz:=fun _=>[]}
theorem tieNWithout :fnVC ENWithout conNWithout NNWithout (Tryz.f44.body.getD .skip) Tryz.f44.results.toList=NWithout.VC:=by kernel_rfl
theorem okNWithout :Sound Tryz.prog gl 44 conNWithout:=fn_sound (E:=ENWithout) (c:=conNWithout) (ok_of (envOk_of (E:=ENWithout) rfl rfl tabOk bytOk mutOk growOk) rfl al99.1 (ptr_of al99.2.1) (byv_of al99.2.2)) follows (fn:=Tryz.f44) Tryz.func44 (by kernel_rfl) (body:=Tryz.f44.body.getD .skip) (by kernel_rfl) (by kernel_rfl) (of_decide_eq_true (by kernel_rfl)) (Eq.mpr tieNWithout NWithout.vc)
noncomputable def tb100 :Tb:=⟨(44,conNWithout)::tb99.cs,tb99.pt,tb99.vt⟩
theorem al100 :tb100.Ok:=⟨SoundAll.cons al99.1 okNWithout,al99.2⟩
noncomputable def conNTrim :Con:={params:=[Tq23,.int .i64],rets:=[.deep (Tq23)],pre:=fun x=>NTrim.pre x.1 x.2.1,fn:=fun x=>(NTrim.fn x.1 x.2.1,())}
noncomputable def NNTrim :Tup conNTrim.params→Notes:=fun x=>{loops:=fun n=>Lc.look n [(6,{see:=[],ann:=fun _=>{frz:=[2],keep:=[1,2,5,6,29,30],vars:=[(4,.ptr (Tq23)),(7,.own (.int .i64) false),(31,.val (.int .i64))],inv:=NTrim.inv6 x.1 x.2.1,mes:=NTrim.mes6 x.1 x.2.1}}),(11,{see:=[],ann:=fun _=>{frz:=[],keep:=[1,2,5],vars:=[(4,.ptr (Tq23)),(6,.val (.int .i64)),(7,.own (.int .i64) false),(10,.own (.bool) false)],inv:=NTrim.inv11 x.1 x.2.1,mes:=NTrim.mes11 x.1 x.2.1}}),(15,{see:=[(6,.val (.int .i64))],ann:=fun y=>{frz:=[],keep:=[1,2,5,6,55],vars:=[(4,.ptr (Tq23)),(7,.own (.int .i64) false),(10,.own (.bool) false),(11,.val (.int .i64)),(56,.val (.int .i64))],inv:=NTrim.inv15 x.1 x.2.1 y.1,mes:=NTrim.mes15 x.1 x.2.1 y.1}})],cuts:=fun n=>Lc.look n [],frz:=fun n=>(Lc.look n [(23,[10])]).getD []}
theorem tieNTrim :fnVC (env0 tb100 [] 113 []) conNTrim NNTrim (Tryz.f16.body.getD .skip) Tryz.f16.results.toList=NTrim.VC:=by kernel_rfl
theorem okNTrim :Sound Tryz.prog gl 16 conNTrim:=fnS al100 Tryz.func16 (by kernel_rfl) (Eq.mpr tieNTrim NTrim.vc)
noncomputable def tb101 :Tb:=⟨(16,conNTrim)::tb100.cs,tb100.pt,tb100.vt⟩
theorem al101 :tb101.Ok:=⟨SoundAll.cons al100.1 okNTrim,al100.2⟩
noncomputable def conYWork :Con:={params:=[Tq5],rets:=[.deep (.arr 4 (.int .u64))],pre:=fun x=>YWork.pre x.1,fn:=fun x=>(YWork.fn x.1,())}
noncomputable def NYWork :Tup conYWork.params→Notes:=fun _=>{loops:=fun n=>Lc.look n [],cuts:=fun n=>Lc.look n [],frz:=fun _=>[]}
theorem tieYWork :fnVC (env0 tb101 [] 13 []) conYWork NYWork (Tryz.f24.body.getD .skip) Tryz.f24.results.toList=YWork.VC:=by kernel_rfl
theorem okYWork :Sound Tryz.prog gl 24 conYWork:=fnS al101 Tryz.func24 (by kernel_rfl) (Eq.mpr tieYWork YWork.vc)
noncomputable def tb102 :Tb:=⟨(24,conYWork)::tb101.cs,tb101.pt,tb101.vt⟩
theorem al102 :tb102.Ok:=⟨SoundAll.cons al101.1 okYWork,al101.2⟩
noncomputable def conYStart :Con:={params:=[Tq17],rets:=[.deep (Tq23),.deep (.int .i64)],pre:=fun x=>YStart.pre x.1,fn:=fun x=>((YStart.fn x.1).1,((YStart.fn x.1).2,()))}
noncomputable def NYStart :Tup conYStart.params→Notes:=fun _=>{loops:=fun n=>Lc.look n [],cuts:=fun n=>Lc.look n [],frz:=fun _=>[]}
theorem tieYStart :fnVC (env0 tb102 [] 19 []) conYStart NYStart (Tryz.f8.body.getD .skip) Tryz.f8.results.toList=YStart.VC:=by kernel_rfl
theorem okYStart :Sound Tryz.prog gl 8 conYStart:=fnS al102 Tryz.func8 (by kernel_rfl) (Eq.mpr tieYStart YStart.vc)
noncomputable def tb103 :Tb:=⟨(8,conYStart)::tb102.cs,tb102.pt,tb102.vt⟩
theorem al103 :tb103.Ok:=⟨SoundAll.cons al102.1 okYStart,al102.2⟩
noncomputable def conYFind :Con:={params:=[Tq23,.arr 32 (.int .u8)],rets:=[.deep (.int .i64)],pre:=fun x=>YFind.pre x.1 x.2.1,fn:=fun x=>(YFind.fn x.1 x.2.1,())}
noncomputable def NYFind :Tup conYFind.params→Notes:=fun x=>{loops:=fun n=>Lc.look n [(2,{see:=[],ann:=fun _=>{frz:=[2,3],keep:=[2,3,8],vars:=[(9,.val (.int .i64))],inv:=YFind.inv2 x.1 x.2.1,mes:=YFind.mes2 x.1 x.2.1}})],cuts:=fun n=>Lc.look n [],frz:=fun _=>[]}
theorem tieYFind :fnVC (env0 tb103 [] 22 []) conYFind NYFind (Tryz.f29.body.getD .skip) Tryz.f29.results.toList=YFind.VC:=by kernel_rfl
theorem okYFind :Sound Tryz.prog gl 29 conYFind:=fnS al103 Tryz.func29 (by kernel_rfl) (Eq.mpr tieYFind YFind.vc)
noncomputable def tb104 :Tb:=⟨(29,conYFind)::tb103.cs,tb103.pt,tb103.vt⟩
theorem al104 :tb104.Ok:=⟨SoundAll.cons al103.1 okYFind,al103.2⟩
noncomputable def conYAtN (n:Nat):Con:={params:=[Tq17,Tq23,.int .i64],rets:=[.deep (.pair (.int .i64) (Tq27))],pre:=fun x=>YAt.pre n x.1 x.2.1 x.2.2.1,fn:=fun x=>(YAt.fn x.1 x.2.1 x.2.2.1,())}
noncomputable def conYAt :Con:={params:=[Tq17,Tq23,.int .i64],rets:=[.deep (.pair (.int .i64) (Tq27))],pre:=fun x=>YAt.can x.1 x.2.1 x.2.2.1,fn:=fun x=>(YAt.fn x.1 x.2.1 x.2.2.1,())}
theorem fnOkYAt :FnOk Tryz.prog 67:=⟨Tryz.f67,Tryz.func67,by kernel_rfl,by kernel_rfl⟩
noncomputable def tbRA (n:Nat):Tb:=⟨(67,conYAtN n)::tb104.cs,tb104.pt,tb104.vt⟩
noncomputable def NYAt :Tup conYAt.params→Notes:=fun _=>{loops:=fun n=>Lc.look n [],cuts:=fun n=>Lc.look n [],frz:=fun _=>[]}
theorem tieYAt (n:Nat):fnVC (env0 (tbRA n) [] 40 []) (conYAtN (n+1)) NYAt (Tryz.f67.body.getD .skip) Tryz.f67.results.toList=YAt.VC n:=by kernel_rfl
theorem grpA :∀n:Nat,Sound Tryz.prog gl 67 (conYAtN n)
 |0=>Sound.void fnOkYAt (fun _ h=>YAt.none h)
 |n+1=>by
  have ih:=grpA n
  have ht:(tbRA n).Ok:=⟨(SoundAll.cons al104.1 ih),al104.2.1,al104.2.2⟩
  exact fnS ht Tryz.func67 (by kernel_rfl) (Eq.mpr (tieYAt n) (YAt.vc n))
theorem okYAt :Sound Tryz.prog gl 67 conYAt:=Sound.ex (fun n=>grpA n)
noncomputable def tb105 :Tb:=⟨(67,conYAt)::tb104.cs,tb104.pt,tb104.vt⟩
theorem al105 :tb105.Ok:=⟨SoundAll.cons al104.1 okYAt,al104.2⟩
noncomputable def conYFirst :Con:={params:=[.slc (.pair (Tq5) (Tq21))],rets:=[.deep (.int .i64)],pre:=fun x=>YFirst.pre x.1,fn:=fun x=>(YFirst.fn x.1,())}
noncomputable def NYFirst :Tup conYFirst.params→Notes:=fun x=>{loops:=fun n=>Lc.look n [(3,{see:=[],ann:=fun _=>{frz:=[],keep:=[0,6],vars:=[(3,.val (.int .i64)),(7,.val (.int .i64))],inv:=YFirst.inv3 x.1,mes:=YFirst.mes3 x.1}})],cuts:=fun n=>Lc.look n [],frz:=fun _=>[]}
theorem tieYFirst :fnVC (env0 tb105 [] 25 []) conYFirst NYFirst (Tryz.f31.body.getD .skip) Tryz.f31.results.toList=YFirst.VC:=by kernel_rfl
theorem okYFirst :Sound Tryz.prog gl 31 conYFirst:=fnS al105 Tryz.func31 (by kernel_rfl) (Eq.mpr tieYFirst YFirst.vc)
noncomputable def tb106 :Tb:=⟨(31,conYFirst)::tb105.cs,tb105.pt,tb105.vt⟩
theorem al106 :tb106.Ok:=⟨SoundAll.cons al105.1 okYFirst,al105.2⟩
noncomputable def conYValid :Con:={params:=[Tq17,Tq23],rets:=[.deep (.bool)],pre:=fun x=>YValid.pre x.1 x.2.1,fn:=fun x=>(YValid.fn x.1 x.2.1,())}
noncomputable def NYValid :Tup conYValid.params→Notes:=fun x=>{loops:=fun n=>Lc.look n [(9,{see:=[],ann:=fun _=>{frz:=[2,3],keep:=[2,3],vars:=[(7,.own (.pair (.int .i64) (Tq27)) false),(8,.val (.int .i64))],inv:=YValid.inv9 x.1 x.2.1,mes:=YValid.mes9 x.1 x.2.1}})],cuts:=fun n=>Lc.look n [],frz:=fun _=>[]}
theorem tieYValid :fnVC (env0 tb106 [] 147 []) conYValid NYValid (Tryz.f11.body.getD .skip) Tryz.f11.results.toList=YValid.VC:=by kernel_rfl
theorem okYValid :Sound Tryz.prog gl 11 conYValid:=fnS al106 Tryz.func11 (by kernel_rfl) (Eq.mpr tieYValid YValid.vc)
noncomputable def tb107 :Tb:=⟨(11,conYValid)::tb106.cs,tb106.pt,tb106.vt⟩
theorem al107 :tb107.Ok:=⟨SoundAll.cons al106.1 okYValid,al106.2⟩
noncomputable def conYContext :Con:={params:=[Tq17,Tq23,.int .i64],rets:=[.deep (.pair (.int .i64) (Tq27)),.deep (.int .i64)],pre:=fun x=>YContext.pre x.1 x.2.1 x.2.2.1,fn:=fun x=>((YContext.fn x.1 x.2.1 x.2.2.1).1,((YContext.fn x.1 x.2.1 x.2.2.1).2,()))}
noncomputable def NYContext :Tup conYContext.params→Notes:=fun _=>{loops:=fun n=>Lc.look n [],cuts:=fun n=>Lc.look n [],frz:=fun _=>[]}
theorem tieYContext :fnVC (env0 tb107 [] 27 []) conYContext NYContext (Tryz.f36.body.getD .skip) Tryz.f36.results.toList=YContext.VC:=by kernel_rfl
theorem okYContext :Sound Tryz.prog gl 36 conYContext:=fnS al107 Tryz.func36 (by kernel_rfl) (Eq.mpr tieYContext YContext.vc)
noncomputable def tb108 :Tb:=⟨(36,conYContext)::tb107.cs,tb107.pt,tb107.vt⟩
theorem al108 :tb108.Ok:=⟨SoundAll.cons al107.1 okYContext,al107.2⟩
noncomputable def conYInsert :Con:={params:=[Tq17,Tq23,Tq5,.int .u32],rets:=[.deep (Tq23),.deep (.int .i64),.deep (.int .i64)],pre:=fun x=>YInsert.pre x.1 x.2.1 x.2.2.1 x.2.2.2.1,fn:=fun x=>((YInsert.fn x.1 x.2.1 x.2.2.1 x.2.2.2.1).1,((YInsert.fn x.1 x.2.1 x.2.2.1 x.2.2.2.1).2.1,((YInsert.fn x.1 x.2.1 x.2.2.1 x.2.2.2.1).2.2,())))}
noncomputable def NYInsert :Tup conYInsert.params→Notes:=fun _=>{loops:=fun n=>Lc.look n [],cuts:=fun n=>Lc.look n [],frz:=fun _=>[]}
theorem tieYInsert :fnVC (env0 tb108 [] 87 []) conYInsert NYInsert (Tryz.f37.body.getD .skip) Tryz.f37.results.toList=YInsert.VC:=by kernel_rfl
theorem okYInsert :Sound Tryz.prog gl 37 conYInsert:=fnS al108 Tryz.func37 (by kernel_rfl) (Eq.mpr tieYInsert YInsert.vc)
noncomputable def tb109 :Tb:=⟨(37,conYInsert)::tb108.cs,tb108.pt,tb108.vt⟩
theorem al109 :tb109.Ok:=⟨SoundAll.cons al108.1 okYInsert,al108.2⟩
noncomputable def conYSame :Con:={params:=[Tq23,Tq23],rets:=[.deep (.bool)],pre:=fun x=>YSame.pre x.1 x.2.1,fn:=fun x=>(YSame.fn x.1 x.2.1,())}
noncomputable def NYSame :Tup conYSame.params→Notes:=fun x=>{loops:=fun n=>Lc.look n [(4,{see:=[],ann:=fun _=>{frz:=[2,3],keep:=[2,3,22],vars:=[(23,.val (.int .i64))],inv:=YSame.inv4 x.1 x.2.1,mes:=YSame.mes4 x.1 x.2.1}})],cuts:=fun n=>Lc.look n [],frz:=fun _=>[]}
theorem tieYSame :fnVC (env0 tb109 [] 38 []) conYSame NYSame (Tryz.f9.body.getD .skip) Tryz.f9.results.toList=YSame.VC:=by kernel_rfl
theorem okYSame :Sound Tryz.prog gl 9 conYSame:=fnS al109 Tryz.func9 (by kernel_rfl) (Eq.mpr tieYSame YSame.vc)
noncomputable def tb110 :Tb:=⟨(9,conYSame)::tb109.cs,tb109.pt,tb109.vt⟩
theorem al110 :tb110.Ok:=⟨SoundAll.cons al109.1 okYSame,al109.2⟩
noncomputable def conMParams :Con:={params:=[.int .u8],rets:=[.deep (Tq17)],pre:=fun x=>MParams.pre x.1,fn:=fun x=>(MParams.fn x.1,())}
noncomputable def NMParams :Tup conMParams.params→Notes:=fun _=>{loops:=fun n=>Lc.look n [],cuts:=fun n=>Lc.look n [],frz:=fun _=>[]}
theorem tieMParams :fnVC (env0 tb110 [] 22 []) conMParams NMParams (Tryz.f14.body.getD .skip) Tryz.f14.results.toList=MParams.VC:=by kernel_rfl
theorem okMParams :Sound Tryz.prog gl 14 conMParams:=fnS al110 Tryz.func14 (by kernel_rfl) (Eq.mpr tieMParams MParams.vc)
noncomputable def tb111 :Tb:=⟨(14,conMParams)::tb110.cs,tb110.pt,tb110.vt⟩
theorem al111 :tb111.Ok:=⟨SoundAll.cons al110.1 okMParams,al110.2⟩
noncomputable def conMMine :Con:={params:=[Tq17,.pair (.int .i64) (Tq27),.arr 32 (.int .u8),.int .u32],rets:=[.deep (Tq5)],pre:=fun x=>MMine.pre x.1 x.2.1 x.2.2.1 x.2.2.2.1,fn:=fun x=>(MMine.fn x.1 x.2.1 x.2.2.1 x.2.2.2.1,())}
noncomputable def NMMine :Tup conMMine.params→Notes:=fun x=>{loops:=fun n=>Lc.look n [(4,{see:=[],ann:=fun _=>{frz:=[],keep:=[9],vars:=[(8,.ptr (Tq5)),(11,.ptr (Tq5))],inv:=MMine.inv4 x.1 x.2.1 x.2.2.1 x.2.2.2.1,mes:=MMine.mes4 x.1 x.2.1 x.2.2.1 x.2.2.2.1}})],cuts:=fun n=>Lc.look n [],frz:=fun _=>[]}
theorem tieMMine :fnVC (env0 tb111 [] 45 []) conMMine NMMine (Tryz.f38.body.getD .skip) Tryz.f38.results.toList=MMine.VC:=by kernel_rfl
theorem okMMine :Sound Tryz.prog gl 38 conMMine:=fnS al111 Tryz.func38 (by kernel_rfl) (Eq.mpr tieMMine MMine.vc)
noncomputable def tb112 :Tb:=⟨(38,conMMine)::tb111.cs,tb111.pt,tb111.vt⟩
theorem al112 :tb112.Ok:=⟨SoundAll.cons al111.1 okMMine,al111.2⟩
noncomputable def conMSec :Con:={params:=[.int .u8],rets:=[.deep (.int .u32)],pre:=fun x=>MSec.pre x.1,fn:=fun x=>(MSec.fn x.1,())}
noncomputable def NMSec :Tup conMSec.params→Notes:=fun _=>{loops:=fun n=>Lc.look n [],cuts:=fun n=>Lc.look n [],frz:=fun _=>[]}
theorem tieMSec :fnVC (env0 tb112 [] 8 []) conMSec NMSec (Tryz.f39.body.getD .skip) Tryz.f39.results.toList=MSec.VC:=by kernel_rfl
theorem okMSec :Sound Tryz.prog gl 39 conMSec:=fnS al112 Tryz.func39 (by kernel_rfl) (Eq.mpr tieMSec MSec.vc)
noncomputable def tb113 :Tb:=⟨(39,conMSec)::tb112.cs,tb112.pt,tb112.vt⟩
theorem al113 :tb113.Ok:=⟨SoundAll.cons al112.1 okMSec,al112.2⟩
noncomputable def conMTree :Con:={params:=[Tq17,.slc (.int .u8)],rets:=[.deep (Tq23)],pre:=fun x=>MTree.pre x.1 x.2.1,fn:=fun x=>(MTree.fn x.1 x.2.1,())}
noncomputable def NMTree :Tup conMTree.params→Notes:=fun x=>{loops:=fun n=>Lc.look n [(3,{see:=[],ann:=fun _=>{frz:=[2],keep:=[2,19,20],vars:=[(4,.ptr (Tq23)),(5,.ptr (Tq23)),(21,.val (.int .i64))],inv:=MTree.inv3 x.1 x.2.1,mes:=MTree.mes3 x.1 x.2.1}})],cuts:=fun n=>Lc.look n [],frz:=fun _=>[]}
theorem tieMTree :fnVC (env0 tb113 [] 68 []) conMTree NMTree (Tryz.f15.body.getD .skip) Tryz.f15.results.toList=MTree.VC:=by kernel_rfl
theorem okMTree :Sound Tryz.prog gl 15 conMTree:=fnS al113 Tryz.func15 (by kernel_rfl) (Eq.mpr tieMTree MTree.vc)
noncomputable def tb114 :Tb:=⟨(15,conMTree)::tb113.cs,tb113.pt,tb113.vt⟩
theorem al114 :tb114.Ok:=⟨SoundAll.cons al113.1 okMTree,al113.2⟩
noncomputable def conKParams :Con:={params:=[Tq17],rets:=[.deep (.bool)],pre:=fun x=>KParams.pre x.1,fn:=fun x=>(KParams.fn x.1,())}
noncomputable def NKParams :Tup conKParams.params→Notes:=fun _=>{loops:=fun n=>Lc.look n [],cuts:=fun n=>Lc.look n [],frz:=fun _=>[]}
theorem tieKParams :fnVC (env0 tb114 [] 7 []) conKParams NKParams (Tryz.f5.body.getD .skip) Tryz.f5.results.toList=KParams.VC:=by kernel_rfl
theorem okKParams :Sound Tryz.prog gl 5 conKParams:=fnS al114 Tryz.func5 (by kernel_rfl) (Eq.mpr tieKParams KParams.vc)
noncomputable def tb115 :Tb:=⟨(5,conKParams)::tb114.cs,tb114.pt,tb114.vt⟩
theorem al115 :tb115.Ok:=⟨SoundAll.cons al114.1 okKParams,al114.2⟩
noncomputable def conKSome :Con:={params:=[.slc (.int .u8),.int .i64],rets:=[.deep (.slc (.int .u8))],pre:=fun x=>KSome.pre x.1 x.2.1,fn:=fun x=>(KSome.fn x.1 x.2.1,())}
noncomputable def NKSome :Tup conKSome.params→Notes:=fun _=>{loops:=fun n=>Lc.look n [],cuts:=fun n=>Lc.look n [],frz:=fun _=>[]}
theorem tieKSome :fnVC (env0 tb115 [] 11 []) conKSome NKSome (Tryz.f32.body.getD .skip) Tryz.f32.results.toList=KSome.VC:=by kernel_rfl
theorem okKSome :Sound Tryz.prog gl 32 conKSome:=fnS al115 Tryz.func32 (by kernel_rfl) (Eq.mpr tieKSome KSome.vc)
noncomputable def tb116 :Tb:=⟨(32,conKSome)::tb115.cs,tb115.pt,tb115.vt⟩
theorem al116 :tb116.Ok:=⟨SoundAll.cons al115.1 okKSome,al115.2⟩
noncomputable def conKTree :Con:={params:=[Tq23,.int .i64],rets:=[.deep (.bool)],pre:=fun x=>KTree.pre x.1 x.2.1,fn:=fun x=>(KTree.fn x.1 x.2.1,())}
noncomputable def NKTree :Tup conKTree.params→Notes:=fun _=>{loops:=fun n=>Lc.look n [],cuts:=fun n=>Lc.look n [],frz:=fun _=>[]}
theorem tieKTree :fnVC (env0 tb116 [] 10 []) conKTree NKTree (Tryz.f6.body.getD .skip) Tryz.f6.results.toList=KTree.VC:=by kernel_rfl
theorem okKTree :Sound Tryz.prog gl 6 conKTree:=fnS al116 Tryz.func6 (by kernel_rfl) (Eq.mpr tieKTree KTree.vc)
noncomputable def tb117 :Tb:=⟨(6,conKTree)::tb116.cs,tb116.pt,tb116.vt⟩
theorem al117 :tb117.Ok:=⟨SoundAll.cons al116.1 okKTree,al116.2⟩
noncomputable def conESane :Con:={params:=[],rets:=[.deep (.bool)],pre:=fun _=>ESane.pre,fn:=fun _=>(ESane.fn,())}
noncomputable def NESane :Tup conESane.params→Notes:=fun _=>{loops:=fun n=>Lc.look n [],cuts:=fun n=>Lc.look n [],frz:=fun _=>[]}
theorem tieESane :fnVC (env0 tb117 [] 45 []) conESane NESane (Tryz.f4.body.getD .skip) Tryz.f4.results.toList=ESane.VC:=by kernel_rfl
theorem okESane :Sound Tryz.prog gl 4 conESane:=fnS al117 Tryz.func4 (by kernel_rfl) (Eq.mpr tieESane ESane.vc)
noncomputable def tb118 :Tb:=⟨(4,conESane)::tb117.cs,tb117.pt,tb117.vt⟩
theorem al118 :tb118.Ok:=⟨SoundAll.cons al117.1 okESane,al117.2⟩
noncomputable def conEMade :Con:={params:=[.int .u8,.slc (.int .u8)],rets:=[.deep (Tq17),.deep (Tq23)],pre:=fun x=>EMade.pre x.1 x.2.1,fn:=fun x=>((EMade.fn x.1 x.2.1).1,((EMade.fn x.1 x.2.1).2,()))}
noncomputable def NEMade :Tup conEMade.params→Notes:=fun _=>{loops:=fun n=>Lc.look n [],cuts:=fun n=>Lc.look n [],frz:=fun _=>[]}
theorem tieEMade :fnVC (env0 tb118 [] 14 []) conEMade NEMade (Tryz.f12.body.getD .skip) Tryz.f12.results.toList=EMade.VC:=by kernel_rfl
theorem okEMade :Sound Tryz.prog gl 12 conEMade:=fnS al118 Tryz.func12 (by kernel_rfl) (Eq.mpr tieEMade EMade.vc)
noncomputable def tb119 :Tb:=⟨(12,conEMade)::tb118.cs,tb118.pt,tb118.vt⟩
theorem al119 :tb119.Ok:=⟨SoundAll.cons al118.1 okEMade,al118.2⟩
end Go.Proofs.YtlhdieoemhjjiaaGreatDoor
