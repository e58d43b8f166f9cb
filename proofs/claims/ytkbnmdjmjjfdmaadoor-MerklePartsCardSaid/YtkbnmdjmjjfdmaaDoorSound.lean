/- The ties of the functions of this seat to their conditions, and their contracts. -/
import Derived.Test.YtkbnmdjmjjfdmaaDoorChecked
import Derived.Test.YtkbnmdjmjjfdmaaDoorLaw07e
set_option linter.unusedVariables false
set_option linter.unusedSimpArgs false
namespace Go.Proofs.YtkbnmdjmjjfdmaaDoor
open Go Lc
set_option maxRecDepth 1000000
abbrev Tq0 :Ty:= .pair (.slc (.arr 32 (.int .u8))) (.unit)
abbrev Tq2 :Ty:= .pair (.int .i64) (.pair (.slc (.bool)) (Tq0))
abbrev Tq4 :Ty:= .pair (.slc (.slc (.arr 32 (.int .u8)))) (.pair (.slc (.bool)) (.unit))
noncomputable def tyT :List (Nat×Ty):=[(3,.int .i64),(4,.bool),(5,.int .u8),(22,.slc (.arr 32 (.int .u8))),(23,.slc (.bool)),(27,Tq2),(28,.int .i64),(34,.arr 32 (.int .u8)),(37,.slc (.slc (.arr 32 (.int .u8)))),(40,.pair (Tq2) (Tq4)),(44,.slc (.int .u8)),(51,.int .u64),(52,.int .u32),(53,.arr 8 (.int .u32)),(55,.arr 64 (.int .u8)),(57,.slc (.slc (.int .u8))),(58,.arr 64 (.int .u32)),(62,.int .u64)]
noncomputable def byT :List (Nat×Nat):=[(22,32),(23,1),(37,24),(44,1),(57,24)]
theorem tabOk :tabB Tryd.prog tyT=true:=by kernel_rfl
theorem bytOk :bytB Tryd.prog byT tyT=true:=by kernel_rfl
noncomputable def glT :List (Nat×TV):=[(0,⟨.arr 8 (.int .u32),ShaInitial⟩),(1,⟨.arr 64 (.int .u32),ShaK⟩)]
noncomputable def gl :Nat→Option TV:=fun n=>Lc.look n glT
theorem follows :Tryd.prog.follows .mixedOrders=true:=by kernel_rfl
noncomputable def mutT :List (Nat×Mut):=[]
theorem mutOk :∀f m,Lc.look f mutT=some m→SoundM Tryd.prog f m:=by
 intro f m h
 have h:=look_mem h
 simp only[mutT,List.mem_cons,List.not_mem_nil,or_false,Prod.mk.injEq] at h
noncomputable def growT :List (Nat×Ty):=[]
theorem growOk :∀f u,Lc.look f growT=some u→SoundG Tryd.prog f u:=by
 intro f u h
 cases h
structure Tb where
 cs:List (Nat×Con)
 pt:List (Nat×ConP)
 vt:List (Nat×ConV)
def Tb.Ok (t:Tb):Prop:=SoundAll Tryd.prog gl t.cs∧SoundPAll Tryd.prog gl t.pt∧SoundVAll Tryd.prog gl t.vt
noncomputable def env0 (t:Tb)(wr:List Nat)(ntm:Nat)(lock:List Nat):Env:={P:=Tryd.prog,ty:=fun n=>Lc.look n tyT,bytes:=fun n=>(Lc.look n byT).getD 0,glob:=gl,con:=fun f=>Lc.look f t.cs,wr:=wr,ntm:=ntm,lock:=lock,turn:=fun f=>Lc.look f mutT,grow:=fun f=>Lc.look f growT,ptr:=fun f=>Lc.look f t.pt,byv:=fun f=>Lc.look f t.vt}
theorem fnS {t:Tb}(ht:t.Ok){wr:List Nat}{ntm:Nat}{lock:List Nat}{f:FuncId}{fn:Func}{c:Con}{N:Tup c.params→Notes}(hf:Tryd.prog.funcs[f]? =some fn)
 (hk:(!(fn.name== "runtime.NumGoroutine")&&(fn.body.isSome&&(Nat.beq ntm fn.ntmps&&Nat.ble c.params.length fn.ntmps)))=true) (h:fnVC (env0 t wr ntm lock) c N (fn.body.getD .skip) fn.results.toList):Sound Tryd.prog gl f c:=by
 simp only[Bool.and_eq_true,Bool.not_eq_true'] at hk
 obtain⟨h1,h2,h3,h4⟩:=hk
 have hb:fn.body=some (fn.body.getD .skip):=by cases hq:fn.body with|none=>rw[hq] at h2;cases h2|some b=>rfl
 exact fn_sound (E:=env0 t wr ntm lock) (c:=c) (ok_of (envOk_of (E:=env0 t wr ntm lock) rfl rfl tabOk bytOk mutOk growOk) rfl ht.1 (ptr_of ht.2.1) (byv_of ht.2.2)) follows hf h1 hb (Nat.eq_of_beq_eq_true h3) (Nat.le_of_ble_eq_true h4) h
theorem fnQ {t:Tb}(ht:t.Ok){wr:List Nat}{ntm:Nat}{f:FuncId}{fn:Func}{c:ConP}{N:c.t.den→Tup c.params→Notes}(hf:Tryd.prog.funcs[f]? =some fn)
 (hk:(!(fn.name== "runtime.NumGoroutine")&&(fn.body.isSome&&(Nat.beq ntm fn.ntmps&&(Nat.ble (c.params.length+1) fn.ntmps&&(nodupB (0::c.ps.map (·.2.2))&&c.rets.all RK.plain)))))=true) (h:fnVCP (env0 t wr ntm [0]) c N (fn.body.getD .skip) fn.results.toList):SoundP Tryd.prog gl f c:=by
 simp only[Bool.and_eq_true,Bool.not_eq_true'] at hk
 obtain⟨h1,h2,h3,h4,h5,h6⟩:=hk
 have hb:fn.body=some (fn.body.getD .skip):=by cases hq:fn.body with|none=>rw[hq] at h2;cases h2|some b=>rfl
 exact fnP_sound (E:=env0 t wr ntm [0]) (c:=c) (ok_of (envOk_of (E:=env0 t wr ntm [0]) rfl rfl tabOk bytOk mutOk growOk) rfl ht.1 (ptr_of ht.2.1) (byv_of ht.2.2)) follows hf h1 hb (Nat.eq_of_beq_eq_true h3) (Nat.le_of_ble_eq_true h4) (List.mem_singleton.2 rfl) h5 h6 h
theorem fnW {t:Tb}(ht:t.Ok){wr:List Nat}{ntm:Nat}{lock:List Nat}{f:FuncId}{fn:Func}{c:ConV}{N:c.t.den→Tup c.params→Notes}(hf:Tryd.prog.funcs[f]? =some fn)
 (hk:(!(fn.name== "runtime.NumGoroutine")&&(fn.body.isSome&&(Nat.beq ntm fn.ntmps&&(Nat.ble (c.params.length+1) fn.ntmps&&nodupB (0::c.ps.map (·.2.2))))))=true) (h:fnVCV (env0 t wr ntm lock) c N (fn.body.getD .skip) fn.results.toList):SoundV Tryd.prog gl f c:=by
 simp only[Bool.and_eq_true,Bool.not_eq_true'] at hk
 obtain⟨h1,h2,h3,h4,h5⟩:=hk
 have hb:fn.body=some (fn.body.getD .skip):=by cases hq:fn.body with|none=>rw[hq] at h2;cases h2|some b=>rfl
 exact fnV_sound (E:=env0 t wr ntm lock) (c:=c) (ok_of (envOk_of (E:=env0 t wr ntm lock) rfl rfl tabOk bytOk mutOk growOk) rfl ht.1 (ptr_of ht.2.1) (byv_of ht.2.2)) follows hf h1 hb (Nat.eq_of_beq_eq_true h3) (Nat.le_of_ble_eq_true h4) h5 h
noncomputable def tb0 :Tb:=⟨[],[],[]⟩
theorem al0 :tb0.Ok:=⟨SoundAll.nil,SoundPAll.nil,SoundVAll.nil⟩
noncomputable def conRotL :Con:={params:=[.int .u32,.int .i64],rets:=[.deep (.int .u32)],pre:=fun x=>RotL.pre x.1 x.2.1,fn:=fun x=>(RotL.fn x.1 x.2.1,())}
noncomputable def NRotL :Tup conRotL.params→Notes:=fun _=>{loops:=fun n=>Lc.look n [],cuts:=fun n=>Lc.look n [],frz:=fun _=>[]}
theorem tieRotL :fnVC (env0 tb0 [] 17 []) conRotL NRotL (Tryd.f32.body.getD .skip) Tryd.f32.results.toList=RotL.VC:=by kernel_rfl
theorem okRotL :Sound Tryd.prog gl 32 conRotL:=fnS al0 Tryd.func32 (by kernel_rfl) (Eq.mpr tieRotL RotL.vc)
noncomputable def tb1 :Tb:=⟨(32,conRotL)::tb0.cs,tb0.pt,tb0.vt⟩
theorem al1 :tb1.Ok:=⟨SoundAll.cons al0.1 okRotL,al0.2⟩
noncomputable def conShaRotr :Con:={params:=[.int .u32,.int .i64],rets:=[.deep (.int .u32)],pre:=fun x=>ShaRotr.pre x.1 x.2.1,fn:=fun x=>(ShaRotr.fn x.1 x.2.1,())}
noncomputable def NShaRotr :Tup conShaRotr.params→Notes:=fun _=>{loops:=fun n=>Lc.look n [],cuts:=fun n=>Lc.look n [],frz:=fun _=>[]}
theorem tieShaRotr :fnVC (env0 tb1 [] 9 []) conShaRotr NShaRotr (Tryd.f27.body.getD .skip) Tryd.f27.results.toList=ShaRotr.VC:=by kernel_rfl
theorem okShaRotr :Sound Tryd.prog gl 27 conShaRotr:=fnS al1 Tryd.func27 (by kernel_rfl) (Eq.mpr tieShaRotr ShaRotr.vc)
noncomputable def tb2 :Tb:=⟨(27,conShaRotr)::tb1.cs,tb1.pt,tb1.vt⟩
theorem al2 :tb2.Ok:=⟨SoundAll.cons al1.1 okShaRotr,al1.2⟩
noncomputable def conShaSched :Con:={params:=[.arr 64 (.int .u8)],rets:=[.deep (.arr 64 (.int .u32))],pre:=fun x=>ShaSched.pre x.1,fn:=fun x=>(ShaSched.fn x.1,())}
noncomputable def NShaSched :Tup conShaSched.params→Notes:=fun x=>{loops:=fun n=>Lc.look n [(3,{see:=[],ann:=fun _=>{frz:=[1],keep:=[1],vars:=[(2,.ptr (.arr 64 (.int .u32))),(3,.ptr (.arr 64 (.int .u32))),(9,.val (.int .i64))],inv:=ShaSched.inv3 x.1,mes:=ShaSched.mes3 x.1}}),(6,{see:=[(4,.val (.int .i64))],ann:=fun y=>{frz:=[],keep:=[1,4,9],vars:=[(2,.ptr (.arr 64 (.int .u32))),(3,.ptr (.arr 64 (.int .u32))),(12,.val (.int .i64))],inv:=ShaSched.inv6 x.1 y.1,mes:=ShaSched.mes6 x.1 y.1}}),(12,{see:=[],ann:=fun _=>{frz:=[],keep:=[],vars:=[(2,.ptr (.arr 64 (.int .u32))),(3,.ptr (.arr 64 (.int .u32))),(6,.val (.int .i64))],inv:=ShaSched.inv12 x.1,mes:=ShaSched.mes12 x.1}})],cuts:=fun n=>Lc.look n [],frz:=fun _=>[]}
theorem tieShaSched :fnVC (env0 tb2 [] 85 []) conShaSched NShaSched (Tryd.f26.body.getD .skip) Tryd.f26.results.toList=ShaSched.VC:=by kernel_rfl
theorem okShaSched :Sound Tryd.prog gl 26 conShaSched:=fnS al2 Tryd.func26 (by kernel_rfl) (Eq.mpr tieShaSched ShaSched.vc)
noncomputable def tb3 :Tb:=⟨(26,conShaSched)::tb2.cs,tb2.pt,tb2.vt⟩
theorem al3 :tb3.Ok:=⟨SoundAll.cons al2.1 okShaSched,al2.2⟩
noncomputable def conShaCompress :Con:={params:=[.arr 8 (.int .u32),.arr 64 (.int .u8)],rets:=[.deep (.arr 8 (.int .u32))],pre:=fun x=>ShaCompress.pre x.1 x.2.1,fn:=fun x=>(ShaCompress.fn x.1 x.2.1,())}
noncomputable def NShaCompress :Tup conShaCompress.params→Notes:=fun x=>{loops:=fun n=>Lc.look n [(5,{see:=[],ann:=fun _=>{frz:=[2],keep:=[2],vars:=[(4,.ptr (.arr 8 (.int .u32))),(5,.ptr (.arr 64 (.int .u32))),(6,.val (.int .u32)),(7,.val (.int .u32)),(8,.val (.int .u32)),(9,.val (.int .u32)),(10,.val (.int .u32)),(11,.val (.int .u32)),(12,.val (.int .u32)),(13,.val (.int .u32)),(35,.val (.int .i64))],inv:=ShaCompress.inv5 x.1 x.2.1,mes:=ShaCompress.mes5 x.1 x.2.1}})],cuts:=fun n=>Lc.look n [],frz:=fun _=>[]}
theorem tieShaCompress :fnVC (env0 tb3 [] 131 []) conShaCompress NShaCompress (Tryd.f22.body.getD .skip) Tryd.f22.results.toList=ShaCompress.VC:=by kernel_rfl
theorem okShaCompress :Sound Tryd.prog gl 22 conShaCompress:=fnS al3 Tryd.func22 (by kernel_rfl) (Eq.mpr tieShaCompress ShaCompress.vc)
noncomputable def tb4 :Tb:=⟨(22,conShaCompress)::tb3.cs,tb3.pt,tb3.vt⟩
theorem al4 :tb4.Ok:=⟨SoundAll.cons al3.1 okShaCompress,al3.2⟩
noncomputable def conShaPad :Con:={params:=[.int .u64],rets:=[.own (.int .u8)],pre:=fun x=>ShaPad.pre x.1,fn:=fun x=>(ShaPad.fn x.1,())}
noncomputable def NShaPad :Tup conShaPad.params→Notes:=fun x=>{loops:=fun n=>Lc.look n [(5,{see:=[],ann:=fun _=>{frz:=[],keep:=[0],vars:=[(4,.own (.int .u8) false),(18,.val (.int .i64))],inv:=ShaPad.inv5 x.1,mes:=ShaPad.mes5 x.1}})],cuts:=fun n=>Lc.look n [],frz:=fun _=>[]}
theorem tieShaPad :fnVC (env0 tb4 [30] 33 []) conShaPad NShaPad (Tryd.f21.body.getD .skip) Tryd.f21.results.toList=ShaPad.VC:=by kernel_rfl
theorem okShaPad :Sound Tryd.prog gl 21 conShaPad:=fnS al4 Tryd.func21 (by kernel_rfl) (Eq.mpr tieShaPad ShaPad.vc)
noncomputable def tb5 :Tb:=⟨(21,conShaPad)::tb4.cs,tb4.pt,tb4.vt⟩
theorem al5 :tb5.Ok:=⟨SoundAll.cons al4.1 okShaPad,al4.2⟩
noncomputable def conShaRow :Con:={params:=[.slc (.slc (.int .u8))],rets:=[.own (.int .u8)],pre:=fun x=>ShaRow.pre x.1,fn:=fun x=>(ShaRow.fn x.1,())}
noncomputable def NShaRow :Tup conShaRow.params→Notes:=fun x=>{loops:=fun n=>Lc.look n [(3,{see:=[],ann:=fun _=>{frz:=[],keep:=[6,7],vars:=[(3,.own (.int .u8) true),(8,.val (.int .i64))],inv:=ShaRow.inv3 x.1,mes:=ShaRow.mes3 x.1}})],cuts:=fun n=>Lc.look n [],frz:=fun _=>[]}
theorem tieShaRow :fnVC (env0 tb5 [] 17 []) conShaRow NShaRow (Tryd.f20.body.getD .skip) Tryd.f20.results.toList=ShaRow.VC:=by kernel_rfl
theorem okShaRow :Sound Tryd.prog gl 20 conShaRow:=fnS al5 Tryd.func20 (by kernel_rfl) (Eq.mpr tieShaRow ShaRow.vc)
noncomputable def tb6 :Tb:=⟨(20,conShaRow)::tb5.cs,tb5.pt,tb5.vt⟩
theorem al6 :tb6.Ok:=⟨SoundAll.cons al5.1 okShaRow,al5.2⟩
noncomputable def conShaSum :Con:={params:=[.slc (.int .u8)],rets:=[.deep (.arr 32 (.int .u8))],pre:=fun x=>ShaSum.pre x.1,fn:=fun x=>(ShaSum.fn x.1,())}
noncomputable def NShaSum :Tup conShaSum.params→Notes:=fun x=>{loops:=fun n=>Lc.look n [(4,{see:=[],ann:=fun _=>{frz:=[],keep:=[3,18],vars:=[(2,.ptr (.arr 32 (.int .u8))),(4,.ptr (.arr 8 (.int .u32))),(19,.val (.int .i64))],inv:=ShaSum.inv4 x.1,mes:=ShaSum.mes4 x.1}}),(10,{see:=[],ann:=fun _=>{frz:=[],keep:=[],vars:=[(2,.ptr (.arr 32 (.int .u8))),(4,.ptr (.arr 8 (.int .u32))),(6,.ptr (.arr 32 (.int .u8))),(31,.val (.int .i64))],inv:=ShaSum.inv10 x.1,mes:=ShaSum.mes10 x.1}})],cuts:=fun n=>Lc.look n [],frz:=fun _=>[]}
theorem tieShaSum :fnVC (env0 tb6 [] 48 []) conShaSum NShaSum (Tryd.f16.body.getD .skip) Tryd.f16.results.toList=ShaSum.VC:=by kernel_rfl
theorem okShaSum :Sound Tryd.prog gl 16 conShaSum:=fnS al6 Tryd.func16 (by kernel_rfl) (Eq.mpr tieShaSum ShaSum.vc)
noncomputable def tb7 :Tb:=⟨(16,conShaSum)::tb6.cs,tb6.pt,tb6.vt⟩
theorem al7 :tb7.Ok:=⟨SoundAll.cons al6.1 okShaSum,al6.2⟩
noncomputable def conRefRotr :Con:={params:=[.int .u32,.int .i64],rets:=[.deep (.int .u32)],pre:=fun x=>RefRotr.pre x.1 x.2.1,fn:=fun x=>(RefRotr.fn x.1 x.2.1,())}
noncomputable def NRefRotr :Tup conRefRotr.params→Notes:=fun _=>{loops:=fun n=>Lc.look n [],cuts:=fun n=>Lc.look n [],frz:=fun _=>[]}
theorem tieRefRotr :fnVC (env0 tb7 [] 9 []) conRefRotr NRefRotr (Tryd.f35.body.getD .skip) Tryd.f35.results.toList=RefRotr.VC:=by kernel_rfl
theorem okRefRotr :Sound Tryd.prog gl 35 conRefRotr:=fnS al7 Tryd.func35 (by kernel_rfl) (Eq.mpr tieRefRotr RefRotr.vc)
noncomputable def tb8 :Tb:=⟨(35,conRefRotr)::tb7.cs,tb7.pt,tb7.vt⟩
theorem al8 :tb8.Ok:=⟨SoundAll.cons al7.1 okRefRotr,al7.2⟩
noncomputable def conRefConsts :Con:={params:=[],rets:=[.deep (.arr 64 (.int .u32))],pre:=fun _=>RefConsts.pre,fn:=fun _=>(RefConsts.fn,())}
noncomputable def NRefConsts :Tup conRefConsts.params→Notes:=fun _=>{loops:=fun n=>Lc.look n [],cuts:=fun n=>Lc.look n [],frz:=fun _=>[]}
theorem tieRefConsts :fnVC (env0 tb8 [] 2 []) conRefConsts NRefConsts (Tryd.f34.body.getD .skip) Tryd.f34.results.toList=RefConsts.VC:=by kernel_rfl
theorem okRefConsts :Sound Tryd.prog gl 34 conRefConsts:=fnS al8 Tryd.func34 (by kernel_rfl) (Eq.mpr tieRefConsts RefConsts.vc)
noncomputable def tb9 :Tb:=⟨(34,conRefConsts)::tb8.cs,tb8.pt,tb8.vt⟩
theorem al9 :tb9.Ok:=⟨SoundAll.cons al8.1 okRefConsts,al8.2⟩
noncomputable def conRefInitial :Con:={params:=[],rets:=[.deep (.arr 8 (.int .u32))],pre:=fun _=>RefInitial.pre,fn:=fun _=>(RefInitial.fn,())}
noncomputable def NRefInitial :Tup conRefInitial.params→Notes:=fun _=>{loops:=fun n=>Lc.look n [],cuts:=fun n=>Lc.look n [],frz:=fun _=>[]}
theorem tieRefInitial :fnVC (env0 tb9 [] 2 []) conRefInitial NRefInitial (Tryd.f29.body.getD .skip) Tryd.f29.results.toList=RefInitial.VC:=by kernel_rfl
theorem okRefInitial :Sound Tryd.prog gl 29 conRefInitial:=fnS al9 Tryd.func29 (by kernel_rfl) (Eq.mpr tieRefInitial RefInitial.vc)
noncomputable def tb10 :Tb:=⟨(29,conRefInitial)::tb9.cs,tb9.pt,tb9.vt⟩
theorem al10 :tb10.Ok:=⟨SoundAll.cons al9.1 okRefInitial,al9.2⟩
noncomputable def conRefSched :Con:={params:=[.arr 64 (.int .u8)],rets:=[.deep (.arr 64 (.int .u32))],pre:=fun x=>RefSched.pre x.1,fn:=fun x=>(RefSched.fn x.1,())}
noncomputable def NRefSched :Tup conRefSched.params→Notes:=fun x=>{loops:=fun n=>Lc.look n [(3,{see:=[],ann:=fun _=>{frz:=[1],keep:=[1],vars:=[(2,.ptr (.arr 64 (.int .u32))),(3,.ptr (.arr 64 (.int .u32))),(4,.val (.int .i64))],inv:=RefSched.inv3 x.1,mes:=RefSched.mes3 x.1}}),(7,{see:=[],ann:=fun _=>{frz:=[],keep:=[],vars:=[(2,.ptr (.arr 64 (.int .u32))),(3,.ptr (.arr 64 (.int .u32))),(5,.val (.int .i64))],inv:=RefSched.inv7 x.1,mes:=RefSched.mes7 x.1}})],cuts:=fun n=>Lc.look n [],frz:=fun _=>[]}
theorem tieRefSched :fnVC (env0 tb10 [] 97 []) conRefSched NRefSched (Tryd.f33.body.getD .skip) Tryd.f33.results.toList=RefSched.VC:=by kernel_rfl
theorem okRefSched :Sound Tryd.prog gl 33 conRefSched:=fnS al10 Tryd.func33 (by kernel_rfl) (Eq.mpr tieRefSched RefSched.vc)
noncomputable def tb11 :Tb:=⟨(33,conRefSched)::tb10.cs,tb10.pt,tb10.vt⟩
theorem al11 :tb11.Ok:=⟨SoundAll.cons al10.1 okRefSched,al10.2⟩
noncomputable def conRefCompress :Con:={params:=[.arr 8 (.int .u32),.arr 64 (.int .u8)],rets:=[.deep (.arr 8 (.int .u32))],pre:=fun x=>RefCompress.pre x.1 x.2.1,fn:=fun x=>(RefCompress.fn x.1 x.2.1,())}
noncomputable def NRefCompress :Tup conRefCompress.params→Notes:=fun x=>{loops:=fun n=>Lc.look n [(4,{see:=[],ann:=fun _=>{frz:=[2],keep:=[2],vars:=[(4,.ptr (.arr 8 (.int .u32))),(5,.ptr (.arr 64 (.int .u32))),(6,.ptr (.arr 64 (.int .u32))),(7,.val (.int .u32)),(8,.val (.int .u32)),(9,.val (.int .u32)),(10,.val (.int .u32)),(11,.val (.int .u32)),(12,.val (.int .u32)),(13,.val (.int .u32)),(14,.val (.int .u32)),(15,.val (.int .i64))],inv:=RefCompress.inv4 x.1 x.2.1,mes:=RefCompress.mes4 x.1 x.2.1}})],cuts:=fun n=>Lc.look n [],frz:=fun _=>[]}
theorem tieRefCompress :fnVC (env0 tb11 [] 133 []) conRefCompress NRefCompress (Tryd.f30.body.getD .skip) Tryd.f30.results.toList=RefCompress.VC:=by kernel_rfl
theorem okRefCompress :Sound Tryd.prog gl 30 conRefCompress:=fnS al11 Tryd.func30 (by kernel_rfl) (Eq.mpr tieRefCompress RefCompress.vc)
noncomputable def tb12 :Tb:=⟨(30,conRefCompress)::tb11.cs,tb11.pt,tb11.vt⟩
theorem al12 :tb12.Ok:=⟨SoundAll.cons al11.1 okRefCompress,al11.2⟩
noncomputable def conRefPad :Con:={params:=[.int .u64],rets:=[.own (.int .u8)],pre:=fun x=>RefPad.pre x.1,fn:=fun x=>(RefPad.fn x.1,())}
noncomputable def NRefPad :Tup conRefPad.params→Notes:=fun x=>{loops:=fun n=>Lc.look n [(2,{see:=[],ann:=fun _=>{frz:=[],keep:=[0],vars:=[(3,.own (.int .u8) true)],inv:=RefPad.inv2 x.1,mes:=RefPad.mes2 x.1}}),(5,{see:=[],ann:=fun _=>{frz:=[],keep:=[0],vars:=[(3,.own (.int .u8) true),(4,.val (.int .i64))],inv:=RefPad.inv5 x.1,mes:=RefPad.mes5 x.1}})],cuts:=fun n=>Lc.look n [],frz:=fun _=>[]}
theorem tieRefPad :fnVC (env0 tb12 [] 31 []) conRefPad NRefPad (Tryd.f28.body.getD .skip) Tryd.f28.results.toList=RefPad.VC:=by kernel_rfl
theorem okRefPad :Sound Tryd.prog gl 28 conRefPad:=fnS al12 Tryd.func28 (by kernel_rfl) (Eq.mpr tieRefPad RefPad.vc)
noncomputable def tb13 :Tb:=⟨(28,conRefPad)::tb12.cs,tb12.pt,tb12.vt⟩
theorem al13 :tb13.Ok:=⟨SoundAll.cons al12.1 okRefPad,al12.2⟩
noncomputable def conRefSum :Con:={params:=[.slc (.int .u8)],rets:=[.deep (.arr 32 (.int .u8))],pre:=fun x=>RefSum.pre x.1,fn:=fun x=>(RefSum.fn x.1,())}
noncomputable def NRefSum :Tup conRefSum.params→Notes:=fun x=>{loops:=fun n=>Lc.look n [(4,{see:=[],ann:=fun _=>{frz:=[],keep:=[3],vars:=[(2,.ptr (.arr 32 (.int .u8))),(4,.ptr (.arr 8 (.int .u32))),(5,.val (.int .i64))],inv:=RefSum.inv4 x.1,mes:=RefSum.mes4 x.1}}),(11,{see:=[(33,.val (.arr 8 (.int .u32)))],ann:=fun y=>{frz:=[],keep:=[33],vars:=[(2,.ptr (.arr 32 (.int .u8))),(7,.ptr (.arr 32 (.int .u8))),(34,.val (.int .i64))],inv:=RefSum.inv11 x.1 y.1,mes:=RefSum.mes11 x.1 y.1}})],cuts:=fun n=>Lc.look n [],frz:=fun _=>[]}
theorem tieRefSum :fnVC (env0 tb13 [] 66 []) conRefSum NRefSum (Tryd.f24.body.getD .skip) Tryd.f24.results.toList=RefSum.VC:=by kernel_rfl
theorem okRefSum :Sound Tryd.prog gl 24 conRefSum:=fnS al13 Tryd.func24 (by kernel_rfl) (Eq.mpr tieRefSum RefSum.vc)
noncomputable def tb14 :Tb:=⟨(24,conRefSum)::tb13.cs,tb13.pt,tb13.vt⟩
theorem al14 :tb14.Ok:=⟨SoundAll.cons al13.1 okRefSum,al13.2⟩
noncomputable def conMNode :Con:={params:=[.arr 32 (.int .u8),.arr 32 (.int .u8)],rets:=[.deep (.arr 32 (.int .u8))],pre:=fun x=>MNode.pre x.1 x.2.1,fn:=fun x=>(MNode.fn x.1 x.2.1,())}
noncomputable def NMNode :Tup conMNode.params→Notes:=fun _=>{loops:=fun n=>Lc.look n [],cuts:=fun n=>Lc.look n [],frz:=fun _=>[]}
theorem tieMNode :fnVC (env0 tb14 [] 15 []) conMNode NMNode (Tryd.f10.body.getD .skip) Tryd.f10.results.toList=MNode.VC:=by kernel_rfl
theorem okMNode :Sound Tryd.prog gl 10 conMNode:=fnS al14 Tryd.func10 (by kernel_rfl) (Eq.mpr tieMNode MNode.vc)
noncomputable def tb15 :Tb:=⟨(10,conMNode)::tb14.cs,tb14.pt,tb14.vt⟩
theorem al15 :tb15.Ok:=⟨SoundAll.cons al14.1 okMNode,al14.2⟩
noncomputable def conJoined :Con:={params:=[.slc (.int .u8),.slc (.int .u8)],rets:=[.own (.int .u8)],pre:=fun x=>Joined.pre x.1 x.2.1,fn:=fun x=>(Joined.fn x.1 x.2.1,())}
noncomputable def NJoined :Tup conJoined.params→Notes:=fun _=>{loops:=fun n=>Lc.look n [],cuts:=fun n=>Lc.look n [],frz:=fun _=>[]}
theorem tieJoined :fnVC (env0 tb15 [] 17 []) conJoined NJoined (Tryd.f31.body.getD .skip) Tryd.f31.results.toList=Joined.VC:=by kernel_rfl
theorem okJoined :Sound Tryd.prog gl 31 conJoined:=fnS al15 Tryd.func31 (by kernel_rfl) (Eq.mpr tieJoined Joined.vc)
noncomputable def tb16 :Tb:=⟨(31,conJoined)::tb15.cs,tb15.pt,tb15.vt⟩
theorem al16 :tb16.Ok:=⟨SoundAll.cons al15.1 okJoined,al15.2⟩
noncomputable def conJoin :Con:={params:=[.slc (.slc (.int .u8))],rets:=[.deep (.slc (.int .u8))],pre:=fun x=>Join.pre x.1,fn:=fun x=>(Join.fn x.1,())}
noncomputable def NJoin :Tup conJoin.params→Notes:=fun x=>{loops:=fun n=>Lc.look n [(3,{see:=[],ann:=fun _=>{frz:=[],keep:=[6,7],vars:=[(3,.own (.int .u8) true),(8,.val (.int .i64))],inv:=Join.inv3 x.1,mes:=Join.mes3 x.1}})],cuts:=fun n=>Lc.look n [],frz:=fun _=>[]}
theorem tieJoin :fnVC (env0 tb16 [] 17 []) conJoin NJoin (Tryd.f25.body.getD .skip) Tryd.f25.results.toList=Join.VC:=by kernel_rfl
theorem okJoin :Sound Tryd.prog gl 25 conJoin:=fnS al16 Tryd.func25 (by kernel_rfl) (Eq.mpr tieJoin Join.vc)
noncomputable def tb17 :Tb:=⟨(25,conJoin)::tb16.cs,tb16.pt,tb16.vt⟩
theorem al17 :tb17.Ok:=⟨SoundAll.cons al16.1 okJoin,al16.2⟩
noncomputable def conRNode :Con:={params:=[.arr 32 (.int .u8),.arr 32 (.int .u8)],rets:=[.deep (.arr 32 (.int .u8))],pre:=fun x=>RNode.pre x.1 x.2.1,fn:=fun x=>(RNode.fn x.1 x.2.1,())}
noncomputable def NRNode :Tup conRNode.params→Notes:=fun _=>{loops:=fun n=>Lc.look n [],cuts:=fun n=>Lc.look n [],frz:=fun n=>(Lc.look n [(1,[2,3])]).getD []}
theorem tieRNode :fnVC (env0 tb17 [] 11 []) conRNode NRNode (Tryd.f18.body.getD .skip) Tryd.f18.results.toList=RNode.VC:=by kernel_rfl
theorem okRNode :Sound Tryd.prog gl 18 conRNode:=fnS al17 Tryd.func18 (by kernel_rfl) (Eq.mpr tieRNode RNode.vc)
noncomputable def tb18 :Tb:=⟨(18,conRNode)::tb17.cs,tb17.pt,tb17.vt⟩
theorem al18 :tb18.Ok:=⟨SoundAll.cons al17.1 okRNode,al17.2⟩
noncomputable def conMLevels :Con:={params:=[.slc (.arr 32 (.int .u8))],rets:=[.deep (.slc (.slc (.arr 32 (.int .u8))))],pre:=fun x=>MLevels.pre x.1,fn:=fun x=>(MLevels.fn x.1,())}
noncomputable def NMLevels :Tup conMLevels.params→Notes:=fun x=>{loops:=fun n=>Lc.look n [(2,{see:=[],ann:=fun _=>{frz:=[],keep:=[],vars:=[(0,.val (.slc (.arr 32 (.int .u8)))),(3,.own (.slc (.arr 32 (.int .u8))) true)],inv:=MLevels.inv2 x.1,mes:=MLevels.mes2 x.1}}),(5,{see:=[(0,.val (.slc (.arr 32 (.int .u8))))],ann:=fun y=>{frz:=[],keep:=[0],vars:=[(3,.own (.slc (.arr 32 (.int .u8))) true),(4,.own (.arr 32 (.int .u8)) true),(5,.val (.int .i64))],inv:=MLevels.inv5 x.1 y.1,mes:=MLevels.mes5 x.1 y.1}})],cuts:=fun n=>Lc.look n [],frz:=fun _=>[]}
theorem tieMLevels :fnVC (env0 tb18 [] 48 []) conMLevels NMLevels (Tryd.f11.body.getD .skip) Tryd.f11.results.toList=MLevels.VC:=by kernel_rfl
theorem okMLevels :Sound Tryd.prog gl 11 conMLevels:=fnS al18 Tryd.func11 (by kernel_rfl) (Eq.mpr tieMLevels MLevels.vc)
noncomputable def tb19 :Tb:=⟨(11,conMLevels)::tb18.cs,tb18.pt,tb18.vt⟩
theorem al19 :tb19.Ok:=⟨SoundAll.cons al18.1 okMLevels,al18.2⟩
noncomputable def conRLevels :Con:={params:=[.slc (.arr 32 (.int .u8))],rets:=[.deep (.slc (.slc (.arr 32 (.int .u8))))],pre:=fun x=>RLevels.pre x.1,fn:=fun x=>(RLevels.fn x.1,())}
noncomputable def NRLevels :Tup conRLevels.params→Notes:=fun x=>{loops:=fun n=>Lc.look n [(2,{see:=[],ann:=fun _=>{frz:=[],keep:=[],vars:=[(0,.val (.slc (.arr 32 (.int .u8)))),(3,.own (.slc (.arr 32 (.int .u8))) true)],inv:=RLevels.inv2 x.1,mes:=RLevels.mes2 x.1}}),(5,{see:=[(0,.val (.slc (.arr 32 (.int .u8))))],ann:=fun y=>{frz:=[],keep:=[0],vars:=[(3,.own (.slc (.arr 32 (.int .u8))) true),(4,.own (.arr 32 (.int .u8)) true),(5,.val (.int .i64))],inv:=RLevels.inv5 x.1 y.1,mes:=RLevels.mes5 x.1 y.1}})],cuts:=fun n=>Lc.look n [],frz:=fun _=>[]}
theorem tieRLevels :fnVC (env0 tb19 [] 48 []) conRLevels NRLevels (Tryd.f13.body.getD .skip) Tryd.f13.results.toList=RLevels.VC:=by kernel_rfl
theorem okRLevels :Sound Tryd.prog gl 13 conRLevels:=fnS al19 Tryd.func13 (by kernel_rfl) (Eq.mpr tieRLevels RLevels.vc)
noncomputable def tb20 :Tb:=⟨(13,conRLevels)::tb19.cs,tb19.pt,tb19.vt⟩
theorem al20 :tb20.Ok:=⟨SoundAll.cons al19.1 okRLevels,al19.2⟩
noncomputable def conMRoot :Con:={params:=[.slc (.arr 32 (.int .u8))],rets:=[.deep (.arr 32 (.int .u8))],pre:=fun x=>MRoot.pre x.1,fn:=fun x=>(MRoot.fn x.1,())}
noncomputable def NMRoot :Tup conMRoot.params→Notes:=fun _=>{loops:=fun n=>Lc.look n [],cuts:=fun n=>Lc.look n [],frz:=fun _=>[]}
theorem tieMRoot :fnVC (env0 tb20 [] 23 []) conMRoot NMRoot (Tryd.f9.body.getD .skip) Tryd.f9.results.toList=MRoot.VC:=by kernel_rfl
theorem okMRoot :Sound Tryd.prog gl 9 conMRoot:=fnS al20 Tryd.func9 (by kernel_rfl) (Eq.mpr tieMRoot MRoot.vc)
noncomputable def tb21 :Tb:=⟨(9,conMRoot)::tb20.cs,tb20.pt,tb20.vt⟩
theorem al21 :tb21.Ok:=⟨SoundAll.cons al20.1 okMRoot,al20.2⟩
noncomputable def conKept :Con:={params:=[.slc (.arr 32 (.int .u8))],rets:=[.deep (.bool)],pre:=fun x=>Kept.pre x.1,fn:=fun x=>(Kept.fn x.1,())}
noncomputable def NKept :Tup conKept.params→Notes:=fun _=>{loops:=fun n=>Lc.look n [],cuts:=fun n=>Lc.look n [],frz:=fun _=>[]}
theorem tieKept :fnVC (env0 tb21 [] 6 []) conKept NKept (Tryd.f5.body.getD .skip) Tryd.f5.results.toList=Kept.VC:=by kernel_rfl
theorem okKept :Sound Tryd.prog gl 5 conKept:=fnS al21 Tryd.func5 (by kernel_rfl) (Eq.mpr tieKept Kept.vc)
noncomputable def tb22 :Tb:=⟨(5,conKept)::tb21.cs,tb21.pt,tb21.vt⟩
theorem al22 :tb22.Ok:=⟨SoundAll.cons al21.1 okKept,al21.2⟩
noncomputable def conMSane :Con:={params:=[],rets:=[.deep (.bool)],pre:=fun _=>MSane.pre,fn:=fun _=>(MSane.fn,())}
noncomputable def NMSane :Tup conMSane.params→Notes:=fun _=>{loops:=fun n=>Lc.look n [],cuts:=fun n=>Lc.look n [],frz:=fun _=>[]}
theorem tieMSane :fnVC (env0 tb22 [] 34 []) conMSane NMSane (Tryd.f4.body.getD .skip) Tryd.f4.results.toList=MSane.VC:=by kernel_rfl
theorem okMSane :Sound Tryd.prog gl 4 conMSane:=fnS al22 Tryd.func4 (by kernel_rfl) (Eq.mpr tieMSane MSane.vc)
noncomputable def tb23 :Tb:=⟨(4,conMSane)::tb22.cs,tb22.pt,tb22.vt⟩
theorem al23 :tb23.Ok:=⟨SoundAll.cons al22.1 okMSane,al22.2⟩
noncomputable def conSIndex :Con:={params:=[.slc (.bool),.bool],rets:=[.deep (.int .i64)],pre:=fun x=>SIndex.pre x.1 x.2.1,fn:=fun x=>(SIndex.fn x.1 x.2.1,())}
noncomputable def NSIndex :Tup conSIndex.params→Notes:=fun x=>{loops:=fun n=>Lc.look n [(2,{see:=[],ann:=fun _=>{frz:=[],keep:=[0,1,7],vars:=[(8,.val (.int .i64))],inv:=SIndex.inv2 x.1 x.2.1,mes:=SIndex.mes2 x.1 x.2.1}})],cuts:=fun n=>Lc.look n [],frz:=fun _=>[]}
theorem tieSIndex :fnVC (env0 tb23 [] 19 []) conSIndex NSIndex (Tryd.f23.body.getD .skip) Tryd.f23.results.toList=SIndex.VC:=by kernel_rfl
theorem okSIndex :Sound Tryd.prog gl 23 conSIndex:=fnS al23 Tryd.func23 (by kernel_rfl) (Eq.mpr tieSIndex SIndex.vc)
noncomputable def tb24 :Tb:=⟨(23,conSIndex)::tb23.cs,tb23.pt,tb23.vt⟩
theorem al24 :tb24.Ok:=⟨SoundAll.cons al23.1 okSIndex,al23.2⟩
noncomputable def conSContains :Con:={params:=[.slc (.bool),.bool],rets:=[.deep (.bool)],pre:=fun x=>SContains.pre x.1 x.2.1,fn:=fun x=>(SContains.fn x.1 x.2.1,())}
noncomputable def NSContains :Tup conSContains.params→Notes:=fun _=>{loops:=fun n=>Lc.look n [],cuts:=fun n=>Lc.look n [],frz:=fun _=>[]}
theorem tieSContains :fnVC (env0 tb24 [] 9 []) conSContains NSContains (Tryd.f17.body.getD .skip) Tryd.f17.results.toList=SContains.VC:=by kernel_rfl
theorem okSContains :Sound Tryd.prog gl 17 conSContains:=fnS al24 Tryd.func17 (by kernel_rfl) (Eq.mpr tieSContains SContains.vc)
noncomputable def tb25 :Tb:=⟨(17,conSContains)::tb24.cs,tb24.pt,tb24.vt⟩
theorem al25 :tb25.Ok:=⟨SoundAll.cons al24.1 okSContains,al24.2⟩
noncomputable def conWrVisitN (n:Nat):ConP:={t:= .pair (Tq2) (Tq4),ps:=[([.fld 0,.fld 1],.bool,1000),([.fld 0,.fld 2],.arr 32 (.int .u8),2000)],params:=[.int .i64,.int .i64],rets:=[],pre:=fun x y=>WrVisit.pre n x y.1 y.2.1,fn:=fun x y=>(WrVisit.fn x y.1 y.2.1,())}
noncomputable def conWrVisit :ConP:={t:= .pair (Tq2) (Tq4),ps:=[([.fld 0,.fld 1],.bool,1000),([.fld 0,.fld 2],.arr 32 (.int .u8),2000)],params:=[.int .i64,.int .i64],rets:=[],pre:=fun x y=>WrVisit.can x y.1 y.2.1,fn:=fun x y=>(WrVisit.fn x y.1 y.2.1,())}
theorem fnOkWrVisit :FnOk Tryd.prog 12:=⟨Tryd.f12,Tryd.func12,by kernel_rfl,by kernel_rfl⟩
noncomputable def tbRWr (n:Nat):Tb:=⟨tb25.cs,(12,conWrVisitN n)::tb25.pt,tb25.vt⟩
noncomputable def NWrVisit :conWrVisit.t.den→Tup conWrVisit.params→Notes:=fun x z=>{loops:=fun n=>Lc.look n [],cuts:=fun n=>Lc.look n [],frz:=fun _=>[]}
theorem tieWrVisit (n:Nat):fnVCP (env0 (tbRWr n) [] 95 [0]) (conWrVisitN (n+1)) NWrVisit (Tryd.f12.body.getD .skip) Tryd.f12.results.toList=WrVisit.VC n:=by kernel_rfl
theorem grpWr :∀n:Nat,SoundP Tryd.prog gl 12 (conWrVisitN n)
 |0=>SoundP.void fnOkWrVisit (fun _ _ h=>WrVisit.none h)
 |n+1=>by
  have ih:=grpWr n
  have ht:(tbRWr n).Ok:=⟨al25.1,(SoundPAll.cons al25.2.1 ih),al25.2.2⟩
  exact fnQ ht Tryd.func12 (by kernel_rfl) (Eq.mpr (tieWrVisit n) (WrVisit.vc n))
theorem okWrVisit :SoundP Tryd.prog gl 12 conWrVisit:=SoundP.ex (fun n=>grpWr n)
noncomputable def tb26 :Tb:=⟨tb25.cs,(12,conWrVisit)::tb25.pt,tb25.vt⟩
theorem al26 :tb26.Ok:=⟨al25.1,SoundPAll.cons al25.2.1 okWrVisit,al25.2.2⟩
noncomputable def conMPart :Con:={params:=[.slc (.arr 32 (.int .u8)),.slc (.bool)],rets:=[.deep (Tq2),.deep (.int .i64)],pre:=fun x=>MPart.pre x.1 x.2.1,fn:=fun x=>((MPart.fn x.1 x.2.1).1,((MPart.fn x.1 x.2.1).2,()))}
noncomputable def EMPart :Env:={env0 tb26 [] 38 [] with lkd:=[(11,[([.fld 1],100011),([.fld 2],101011)]),(16,[([.fld 1],100016),([.fld 2],101016)]),(23,[([.fld 1],100023),([.fld 2],101023)]),(26,[([.fld 1],100026),([.fld 2],101026)]),(30,[])]}
noncomputable def NMPart :Tup conMPart.params→Notes:=fun _=>{loops:=fun n=>Lc.look n [],cuts:=fun n=>Lc.look n [],frz:=fun _=>[]}
theorem tieMPart :fnVC EMPart conMPart NMPart (Tryd.f6.body.getD .skip) Tryd.f6.results.toList=MPart.VC:=by kernel_rfl
theorem okMPart :Sound Tryd.prog gl 6 conMPart:=fn_sound (E:=EMPart) (c:=conMPart) (ok_of (envOk_of (E:=EMPart) rfl rfl tabOk bytOk mutOk growOk) rfl al26.1 (ptr_of al26.2.1) (byv_of al26.2.2)) follows (fn:=Tryd.f6) Tryd.func6 (by kernel_rfl) (body:=Tryd.f6.body.getD .skip) (by kernel_rfl) (by kernel_rfl) (of_decide_eq_true (by kernel_rfl)) (Eq.mpr tieMPart MPart.vc)
noncomputable def tb27 :Tb:=⟨(6,conMPart)::tb26.cs,tb26.pt,tb26.vt⟩
theorem al27 :tb27.Ok:=⟨SoundAll.cons al26.1 okMPart,al26.2⟩
noncomputable def conRBelow :Con:={params:=[.slc (.bool),.int .i64,.int .i64],rets:=[.deep (.bool)],pre:=fun x=>RBelow.pre x.1 x.2.1 x.2.2.1,fn:=fun x=>(RBelow.fn x.1 x.2.1 x.2.2.1,())}
noncomputable def NRBelow :Tup conRBelow.params→Notes:=fun x=>{loops:=fun n=>Lc.look n [(2,{see:=[],ann:=fun _=>{frz:=[],keep:=[0,1,2],vars:=[(7,.val (.int .i64))],inv:=RBelow.inv2 x.1 x.2.1 x.2.2.1,mes:=RBelow.mes2 x.1 x.2.1 x.2.2.1}})],cuts:=fun n=>Lc.look n [],frz:=fun _=>[]}
theorem tieRBelow :fnVC (env0 tb27 [] 29 []) conRBelow NRBelow (Tryd.f19.body.getD .skip) Tryd.f19.results.toList=RBelow.VC:=by kernel_rfl
theorem okRBelow :Sound Tryd.prog gl 19 conRBelow:=fnS al27 Tryd.func19 (by kernel_rfl) (Eq.mpr tieRBelow RBelow.vc)
noncomputable def tb28 :Tb:=⟨(19,conRBelow)::tb27.cs,tb27.pt,tb27.vt⟩
theorem al28 :tb28.Ok:=⟨SoundAll.cons al27.1 okRBelow,al27.2⟩
noncomputable def conRVisitN (n:Nat):ConV:={t:=Tq2,ps:=[([.fld 1],.bool,1000),([.fld 2],.arr 32 (.int .u8),2000)],params:=[.slc (.slc (.arr 32 (.int .u8))),.slc (.bool),.int .i64,.int .i64],pre:=fun x y=>RVisit.pre n x y.1 y.2.1 y.2.2.1 y.2.2.2.1,fn:=fun x y=>RVisit.fn x y.1 y.2.1 y.2.2.1 y.2.2.2.1}
noncomputable def conRVisit :ConV:={t:=Tq2,ps:=[([.fld 1],.bool,1000),([.fld 2],.arr 32 (.int .u8),2000)],params:=[.slc (.slc (.arr 32 (.int .u8))),.slc (.bool),.int .i64,.int .i64],pre:=fun x y=>RVisit.can x y.1 y.2.1 y.2.2.1 y.2.2.2.1,fn:=fun x y=>RVisit.fn x y.1 y.2.1 y.2.2.1 y.2.2.2.1}
theorem fnOkRVisit :FnOk Tryd.prog 14:=⟨Tryd.f14,Tryd.func14,by kernel_rfl,by kernel_rfl⟩
noncomputable def tbRRv (n:Nat):Tb:=⟨tb28.cs,tb28.pt,(14,conRVisitN n)::tb28.vt⟩
noncomputable def ERVisit (n:Nat):Env:={env0 (tbRRv n) [] 69 [] with lkl:=[40,41,59,68]}
noncomputable def NRVisit :conRVisit.t.den→Tup conRVisit.params→Notes:=fun x z=>{loops:=fun n=>Lc.look n [],cuts:=fun n=>Lc.look n [],frz:=fun _=>[]}
theorem tieRVisit (n:Nat):fnVCV (ERVisit n) (conRVisitN (n+1)) NRVisit (Tryd.f14.body.getD .skip) Tryd.f14.results.toList=RVisit.VC n:=by kernel_rfl
theorem grpRv :∀n:Nat,SoundV Tryd.prog gl 14 (conRVisitN n)
 |0=>SoundV.void fnOkRVisit (fun _ _ h=>RVisit.none h)
 |n+1=>by
  have ih:=grpRv n
  have ht:(tbRRv n).Ok:=⟨al28.1,al28.2.1,(SoundVAll.cons al28.2.2 ih)⟩
  exact fnV_sound (E:=ERVisit n) (c:=conRVisitN (n+1)) (ok_of (envOk_of (E:=ERVisit n) rfl rfl tabOk bytOk mutOk growOk) rfl ht.1 (ptr_of ht.2.1) (byv_of ht.2.2)) follows (fn:=Tryd.f14) Tryd.func14 (by kernel_rfl) (body:=Tryd.f14.body.getD .skip) (by kernel_rfl) (by kernel_rfl) (of_decide_eq_true (by kernel_rfl)) (by kernel_rfl) (Eq.mpr (tieRVisit n) (RVisit.vc n))
theorem okRVisit :SoundV Tryd.prog gl 14 conRVisit:=SoundV.ex (fun n=>grpRv n)
noncomputable def tb29 :Tb:=⟨tb28.cs,tb28.pt,(14,conRVisit)::tb28.vt⟩
theorem al29 :tb29.Ok:=⟨al28.1,al28.2.1,SoundVAll.cons al28.2.2 okRVisit⟩
noncomputable def conRPart :Con:={params:=[.slc (.arr 32 (.int .u8)),.slc (.bool)],rets:=[.deep (Tq2),.deep (.int .i64)],pre:=fun x=>RPart.pre x.1 x.2.1,fn:=fun x=>((RPart.fn x.1 x.2.1).1,((RPart.fn x.1 x.2.1).2,()))}
noncomputable def ERPart :Env:={env0 tb29 [] 35 [] with lkd:=[(11,[([.fld 1],100011),([.fld 2],101011)]),(16,[([.fld 1],100016),([.fld 2],101016)]),(23,[([.fld 1],100023),([.fld 2],101023)]),(28,[([.fld 1],100028),([.fld 2],101028)])]}
noncomputable def NRPart :Tup conRPart.params→Notes:=fun _=>{loops:=fun n=>Lc.look n [],cuts:=fun n=>Lc.look n [],frz:=fun _=>[]}
theorem tieRPart :fnVC ERPart conRPart NRPart (Tryd.f7.body.getD .skip) Tryd.f7.results.toList=RPart.VC:=by kernel_rfl
theorem okRPart :Sound Tryd.prog gl 7 conRPart:=fn_sound (E:=ERPart) (c:=conRPart) (ok_of (envOk_of (E:=ERPart) rfl rfl tabOk bytOk mutOk growOk) rfl al29.1 (ptr_of al29.2.1) (byv_of al29.2.2)) follows (fn:=Tryd.f7) Tryd.func7 (by kernel_rfl) (body:=Tryd.f7.body.getD .skip) (by kernel_rfl) (by kernel_rfl) (of_decide_eq_true (by kernel_rfl)) (Eq.mpr tieRPart RPart.vc)
noncomputable def tb30 :Tb:=⟨(7,conRPart)::tb29.cs,tb29.pt,tb29.vt⟩
theorem al30 :tb30.Ok:=⟨SoundAll.cons al29.1 okRPart,al29.2⟩
noncomputable def conRSameH :Con:={params:=[.slc (.arr 32 (.int .u8)),.slc (.arr 32 (.int .u8))],rets:=[.deep (.bool)],pre:=fun x=>RSameH.pre x.1 x.2.1,fn:=fun x=>(RSameH.fn x.1 x.2.1,())}
noncomputable def NRSameH :Tup conRSameH.params→Notes:=fun x=>{loops:=fun n=>Lc.look n [(4,{see:=[],ann:=fun _=>{frz:=[],keep:=[0,1,12],vars:=[(13,.val (.int .i64))],inv:=RSameH.inv4 x.1 x.2.1,mes:=RSameH.mes4 x.1 x.2.1}})],cuts:=fun n=>Lc.look n [],frz:=fun _=>[]}
theorem tieRSameH :fnVC (env0 tb30 [] 26 []) conRSameH NRSameH (Tryd.f15.body.getD .skip) Tryd.f15.results.toList=RSameH.VC:=by kernel_rfl
theorem okRSameH :Sound Tryd.prog gl 15 conRSameH:=fnS al30 Tryd.func15 (by kernel_rfl) (Eq.mpr tieRSameH RSameH.vc)
noncomputable def tb31 :Tb:=⟨(15,conRSameH)::tb30.cs,tb30.pt,tb30.vt⟩
theorem al31 :tb31.Ok:=⟨SoundAll.cons al30.1 okRSameH,al30.2⟩
noncomputable def conLSame :Con:={params:=[Tq2,Tq2],rets:=[.deep (.bool)],pre:=fun x=>LSame.pre x.1 x.2.1,fn:=fun x=>(LSame.fn x.1 x.2.1,())}
noncomputable def NLSame :Tup conLSame.params→Notes:=fun x=>{loops:=fun n=>Lc.look n [(4,{see:=[],ann:=fun _=>{frz:=[2,3],keep:=[2,3,30],vars:=[(31,.val (.int .i64))],inv:=LSame.inv4 x.1 x.2.1,mes:=LSame.mes4 x.1 x.2.1}})],cuts:=fun n=>Lc.look n [],frz:=fun _=>[]}
theorem tieLSame :fnVC (env0 tb31 [] 46 []) conLSame NLSame (Tryd.f8.body.getD .skip) Tryd.f8.results.toList=LSame.VC:=by kernel_rfl
theorem okLSame :Sound Tryd.prog gl 8 conLSame:=fnS al31 Tryd.func8 (by kernel_rfl) (Eq.mpr tieLSame LSame.vc)
noncomputable def tb32 :Tb:=⟨(8,conLSame)::tb31.cs,tb31.pt,tb31.vt⟩
theorem al32 :tb32.Ok:=⟨SoundAll.cons al31.1 okLSame,al31.2⟩
end Go.Proofs.YtkbnmdjmjjfdmaaDoor
