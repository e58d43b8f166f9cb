/- The ties of the functions of this seat to their conditions, and their contracts. -/
import Derived.Test.YteglngofbbpkmaaDoorChecked
import Derived.Test.YteglngofbbpkmaaDoorLaw07d
namespace Go.Proofs.YteglngofbbpkmaaDoor
open Go Lc
set_option maxRecDepth 1000000
set_option linter.unusedVariables false
noncomputable def tyT : List (Nat × Ty) := [(3, .int .i64), (4, .bool), (5, .int .u8), (22, .slc (.arr 32 (.int .u8))), (24, .arr 32 (.int .u8)), (30, .slc (.int .u8)), (35, .int .i64), (47, .slc (.bool)), (49, .pair (.int .i64) (.pair (.slc (.bool)) (.pair (.slc (.arr 32 (.int .u8))) (.unit)))), (55, .slc (.pair (.int .i64) (.pair (.arr 32 (.int .u8)) (.unit)))), (59, .pair (.int .i64) (.pair (.arr 32 (.int .u8)) (.unit))), (63, .slc (.slc (.arr 32 (.int .u8)))), (67, .pair (.pair (.int .i64) (.pair (.slc (.bool)) (.pair (.slc (.arr 32 (.int .u8))) (.unit)))) (.pair (.slc (.slc (.arr 32 (.int .u8)))) (.pair (.slc (.bool)) (.unit)))), (71, .pair (.pair (.int .i64) (.pair (.slc (.bool)) (.pair (.slc (.arr 32 (.int .u8))) (.unit)))) (.pair (.slc (.pair (.int .i64) (.pair (.arr 32 (.int .u8)) (.unit)))) (.unit))), (82, .int .u64), (83, .int .u32), (84, .arr 8 (.int .u32)), (86, .arr 64 (.int .u8)), (88, .int .u64), (89, .slc (.slc (.int .u8))), (96, .arr 64 (.int .u32))]
noncomputable def byT : List (Nat × Nat) := [(22, 32), (30, 1), (47, 1), (55, 40), (63, 24), (89, 24)]
theorem tabOk : tabB Tryd.prog tyT = true := by kernel_rfl
theorem bytOk : bytB Tryd.prog byT tyT = true := by kernel_rfl
noncomputable def glT : List (Nat × TV) := [(0, ⟨.arr 8 (.int .u32), ShaInitial⟩), (1, ⟨.arr 64 (.int .u32), ShaK⟩)]
noncomputable def gl : Nat → Option TV := fun n => Lc.look n glT
theorem follows : Tryd.prog.follows .mixedOrders = true := by kernel_rfl
noncomputable def cs0 : List (Nat × Con) := []
theorem all0 : SoundAll Tryd.prog gl cs0 := SoundAll.nil
noncomputable def pt0 : List (Nat × ConP) := []
theorem pall0 : SoundPAll Tryd.prog gl pt0 := SoundPAll.nil
noncomputable def conRotL : Con := { params := [.int .u32, .int .i64], rets := [.deep (.int .u32)], pre := fun x => RotL.pre x.1 x.2.1, fn := fun x => (RotL.fn x.1 x.2.1, ()) }
noncomputable def ERotL : Env := { P := Tryd.prog, ty := fun n => Lc.look n tyT, bytes := fun n => (Lc.look n byT).getD 0, glob := gl, con := fun f => Lc.look f cs0, wr := [], ntm := 17, lock := [], ptr := fun f => Lc.look f pt0 }
noncomputable def NRotL : Tup conRotL.params → Notes := fun _ => { loops := fun n => Lc.look n [], cuts := fun n => Lc.look n [], frz := fun _ => [] }
theorem tieRotL : fnVC ERotL conRotL NRotL (Tryd.f58.body.getD .skip) Tryd.f58.results.toList = RotL.VC := by kernel_rfl
theorem okRotL : Sound Tryd.prog gl 58 conRotL := fn_sound (E := ERotL) (c := conRotL) (ok_of (envOk_of (E := ERotL) rfl rfl tabOk bytOk) rfl all0 (ptr_of pall0)) follows (fn := Tryd.f58) Tryd.func58 (by kernel_rfl) (body := Tryd.f58.body.getD .skip) (by kernel_rfl) (by kernel_rfl) (of_decide_eq_true (by kernel_rfl)) (Eq.mpr tieRotL RotL.vc)
noncomputable def cs1 : List (Nat × Con) := (58, conRotL) :: cs0
theorem all1 : SoundAll Tryd.prog gl cs1 := SoundAll.cons all0 okRotL
noncomputable def pt1 : List (Nat × ConP) := pt0
theorem pall1 : SoundPAll Tryd.prog gl pt1 := pall0
noncomputable def conShaRotr : Con := { params := [.int .u32, .int .i64], rets := [.deep (.int .u32)], pre := fun x => ShaRotr.pre x.1 x.2.1, fn := fun x => (ShaRotr.fn x.1 x.2.1, ()) }
noncomputable def EShaRotr : Env := { P := Tryd.prog, ty := fun n => Lc.look n tyT, bytes := fun n => (Lc.look n byT).getD 0, glob := gl, con := fun f => Lc.look f cs1, wr := [], ntm := 9, lock := [], ptr := fun f => Lc.look f pt1 }
noncomputable def NShaRotr : Tup conShaRotr.params → Notes := fun _ => { loops := fun n => Lc.look n [], cuts := fun n => Lc.look n [], frz := fun _ => [] }
theorem tieShaRotr : fnVC EShaRotr conShaRotr NShaRotr (Tryd.f52.body.getD .skip) Tryd.f52.results.toList = ShaRotr.VC := by kernel_rfl
theorem okShaRotr : Sound Tryd.prog gl 52 conShaRotr := fn_sound (E := EShaRotr) (c := conShaRotr) (ok_of (envOk_of (E := EShaRotr) rfl rfl tabOk bytOk) rfl all1 (ptr_of pall1)) follows (fn := Tryd.f52) Tryd.func52 (by kernel_rfl) (body := Tryd.f52.body.getD .skip) (by kernel_rfl) (by kernel_rfl) (of_decide_eq_true (by kernel_rfl)) (Eq.mpr tieShaRotr ShaRotr.vc)
noncomputable def cs2 : List (Nat × Con) := (52, conShaRotr) :: cs1
theorem all2 : SoundAll Tryd.prog gl cs2 := SoundAll.cons all1 okShaRotr
noncomputable def pt2 : List (Nat × ConP) := pt1
theorem pall2 : SoundPAll Tryd.prog gl pt2 := pall1
noncomputable def conShaSched : Con := { params := [.arr 64 (.int .u8)], rets := [.deep (.arr 64 (.int .u32))], pre := fun x => ShaSched.pre x.1, fn := fun x => (ShaSched.fn x.1, ()) }
noncomputable def EShaSched : Env := { P := Tryd.prog, ty := fun n => Lc.look n tyT, bytes := fun n => (Lc.look n byT).getD 0, glob := gl, con := fun f => Lc.look f cs2, wr := [], ntm := 85, lock := [], ptr := fun f => Lc.look f pt2 }
noncomputable def NShaSched : Tup conShaSched.params → Notes := fun x => { loops := fun n => Lc.look n [(3, { see := [], ann := fun _ => { frz := [1], keep := [1], vars := [(2, .ptr (.arr 64 (.int .u32))), (3, .ptr (.arr 64 (.int .u32))), (9, .val (.int .i64))], inv := ShaSched.inv3 x.1, mes := ShaSched.mes3 x.1 } }), (6, { see := [(4, .val (.int .i64))], ann := fun y => { frz := [], keep := [1, 4, 9], vars := [(2, .ptr (.arr 64 (.int .u32))), (3, .ptr (.arr 64 (.int .u32))), (12, .val (.int .i64))], inv := ShaSched.inv6 x.1 y.1, mes := ShaSched.mes6 x.1 y.1 } }), (12, { see := [], ann := fun _ => { frz := [], keep := [], vars := [(2, .ptr (.arr 64 (.int .u32))), (3, .ptr (.arr 64 (.int .u32))), (6, .val (.int .i64))], inv := ShaSched.inv12 x.1, mes := ShaSched.mes12 x.1 } })], cuts := fun n => Lc.look n [], frz := fun _ => [] }
theorem tieShaSched : fnVC EShaSched conShaSched NShaSched (Tryd.f51.body.getD .skip) Tryd.f51.results.toList = ShaSched.VC := by kernel_rfl
theorem okShaSched : Sound Tryd.prog gl 51 conShaSched := fn_sound (E := EShaSched) (c := conShaSched) (ok_of (envOk_of (E := EShaSched) rfl rfl tabOk bytOk) rfl all2 (ptr_of pall2)) follows (fn := Tryd.f51) Tryd.func51 (by kernel_rfl) (body := Tryd.f51.body.getD .skip) (by kernel_rfl) (by kernel_rfl) (of_decide_eq_true (by kernel_rfl)) (Eq.mpr tieShaSched ShaSched.vc)
noncomputable def cs3 : List (Nat × Con) := (51, conShaSched) :: cs2
theorem all3 : SoundAll Tryd.prog gl cs3 := SoundAll.cons all2 okShaSched
noncomputable def pt3 : List (Nat × ConP) := pt2
theorem pall3 : SoundPAll Tryd.prog gl pt3 := pall2
noncomputable def conShaCompress : Con := { params := [.arr 8 (.int .u32), .arr 64 (.int .u8)], rets := [.deep (.arr 8 (.int .u32))], pre := fun x => ShaCompress.pre x.1 x.2.1, fn := fun x => (ShaCompress.fn x.1 x.2.1, ()) }
noncomputable def EShaCompress : Env := { P := Tryd.prog, ty := fun n => Lc.look n tyT, bytes := fun n => (Lc.look n byT).getD 0, glob := gl, con := fun f => Lc.look f cs3, wr := [], ntm := 131, lock := [], ptr := fun f => Lc.look f pt3 }
noncomputable def NShaCompress : Tup conShaCompress.params → Notes := fun x => { loops := fun n => Lc.look n [(5, { see := [], ann := fun _ => { frz := [2], keep := [2], vars := [(4, .ptr (.arr 8 (.int .u32))), (5, .ptr (.arr 64 (.int .u32))), (6, .val (.int .u32)), (7, .val (.int .u32)), (8, .val (.int .u32)), (9, .val (.int .u32)), (10, .val (.int .u32)), (11, .val (.int .u32)), (12, .val (.int .u32)), (13, .val (.int .u32)), (35, .val (.int .i64))], inv := ShaCompress.inv5 x.1 x.2.1, mes := ShaCompress.mes5 x.1 x.2.1 } })], cuts := fun n => Lc.look n [], frz := fun _ => [] }
theorem tieShaCompress : fnVC EShaCompress conShaCompress NShaCompress (Tryd.f43.body.getD .skip) Tryd.f43.results.toList = ShaCompress.VC := by kernel_rfl
theorem okShaCompress : Sound Tryd.prog gl 43 conShaCompress := fn_sound (E := EShaCompress) (c := conShaCompress) (ok_of (envOk_of (E := EShaCompress) rfl rfl tabOk bytOk) rfl all3 (ptr_of pall3)) follows (fn := Tryd.f43) Tryd.func43 (by kernel_rfl) (body := Tryd.f43.body.getD .skip) (by kernel_rfl) (by kernel_rfl) (of_decide_eq_true (by kernel_rfl)) (Eq.mpr tieShaCompress ShaCompress.vc)
noncomputable def cs4 : List (Nat × Con) := (43, conShaCompress) :: cs3
theorem all4 : SoundAll Tryd.prog gl cs4 := SoundAll.cons all3 okShaCompress
noncomputable def pt4 : List (Nat × ConP) := pt3
theorem pall4 : SoundPAll Tryd.prog gl pt4 := pall3
noncomputable def conShaPad : Con := { params := [.int .u64], rets := [.own (.int .u8)], pre := fun x => ShaPad.pre x.1, fn := fun x => (ShaPad.fn x.1, ()) }
noncomputable def EShaPad : Env := { P := Tryd.prog, ty := fun n => Lc.look n tyT, bytes := fun n => (Lc.look n byT).getD 0, glob := gl, con := fun f => Lc.look f cs4, wr := [30], ntm := 33, lock := [], ptr := fun f => Lc.look f pt4 }
noncomputable def NShaPad : Tup conShaPad.params → Notes := fun x => { loops := fun n => Lc.look n [(5, { see := [], ann := fun _ => { frz := [], keep := [0], vars := [(4, .own (.int .u8) false), (18, .val (.int .i64))], inv := ShaPad.inv5 x.1, mes := ShaPad.mes5 x.1 } })], cuts := fun n => Lc.look n [], frz := fun _ => [] }
theorem tieShaPad : fnVC EShaPad conShaPad NShaPad (Tryd.f42.body.getD .skip) Tryd.f42.results.toList = ShaPad.VC := by kernel_rfl
theorem okShaPad : Sound Tryd.prog gl 42 conShaPad := fn_sound (E := EShaPad) (c := conShaPad) (ok_of (envOk_of (E := EShaPad) rfl rfl tabOk bytOk) rfl all4 (ptr_of pall4)) follows (fn := Tryd.f42) Tryd.func42 (by kernel_rfl) (body := Tryd.f42.body.getD .skip) (by kernel_rfl) (by kernel_rfl) (of_decide_eq_true (by kernel_rfl)) (Eq.mpr tieShaPad ShaPad.vc)
noncomputable def cs5 : List (Nat × Con) := (42, conShaPad) :: cs4
theorem all5 : SoundAll Tryd.prog gl cs5 := SoundAll.cons all4 okShaPad
noncomputable def pt5 : List (Nat × ConP) := pt4
theorem pall5 : SoundPAll Tryd.prog gl pt5 := pall4
noncomputable def conShaRow : Con := { params := [.slc (.slc (.int .u8))], rets := [.own (.int .u8)], pre := fun x => ShaRow.pre x.1, fn := fun x => (ShaRow.fn x.1, ()) }
noncomputable def EShaRow : Env := { P := Tryd.prog, ty := fun n => Lc.look n tyT, bytes := fun n => (Lc.look n byT).getD 0, glob := gl, con := fun f => Lc.look f cs5, wr := [], ntm := 17, lock := [], ptr := fun f => Lc.look f pt5 }
noncomputable def NShaRow : Tup conShaRow.params → Notes := fun x => { loops := fun n => Lc.look n [(3, { see := [], ann := fun _ => { frz := [], keep := [6, 7], vars := [(3, .own (.int .u8) true), (8, .val (.int .i64))], inv := ShaRow.inv3 x.1, mes := ShaRow.mes3 x.1 } })], cuts := fun n => Lc.look n [], frz := fun _ => [] }
theorem tieShaRow : fnVC EShaRow conShaRow NShaRow (Tryd.f41.body.getD .skip) Tryd.f41.results.toList = ShaRow.VC := by kernel_rfl
theorem okShaRow : Sound Tryd.prog gl 41 conShaRow := fn_sound (E := EShaRow) (c := conShaRow) (ok_of (envOk_of (E := EShaRow) rfl rfl tabOk bytOk) rfl all5 (ptr_of pall5)) follows (fn := Tryd.f41) Tryd.func41 (by kernel_rfl) (body := Tryd.f41.body.getD .skip) (by kernel_rfl) (by kernel_rfl) (of_decide_eq_true (by kernel_rfl)) (Eq.mpr tieShaRow ShaRow.vc)
noncomputable def cs6 : List (Nat × Con) := (41, conShaRow) :: cs5
theorem all6 : SoundAll Tryd.prog gl cs6 := SoundAll.cons all5 okShaRow
noncomputable def pt6 : List (Nat × ConP) := pt5
theorem pall6 : SoundPAll Tryd.prog gl pt6 := pall5
noncomputable def conShaSum : Con := { params := [.slc (.int .u8)], rets := [.deep (.arr 32 (.int .u8))], pre := fun x => ShaSum.pre x.1, fn := fun x => (ShaSum.fn x.1, ()) }
noncomputable def EShaSum : Env := { P := Tryd.prog, ty := fun n => Lc.look n tyT, bytes := fun n => (Lc.look n byT).getD 0, glob := gl, con := fun f => Lc.look f cs6, wr := [], ntm := 48, lock := [], ptr := fun f => Lc.look f pt6 }
noncomputable def NShaSum : Tup conShaSum.params → Notes := fun x => { loops := fun n => Lc.look n [(4, { see := [], ann := fun _ => { frz := [], keep := [3, 18], vars := [(2, .ptr (.arr 32 (.int .u8))), (4, .ptr (.arr 8 (.int .u32))), (19, .val (.int .i64))], inv := ShaSum.inv4 x.1, mes := ShaSum.mes4 x.1 } }), (10, { see := [], ann := fun _ => { frz := [], keep := [], vars := [(2, .ptr (.arr 32 (.int .u8))), (4, .ptr (.arr 8 (.int .u32))), (6, .ptr (.arr 32 (.int .u8))), (31, .val (.int .i64))], inv := ShaSum.inv10 x.1, mes := ShaSum.mes10 x.1 } })], cuts := fun n => Lc.look n [], frz := fun _ => [] }
theorem tieShaSum : fnVC EShaSum conShaSum NShaSum (Tryd.f30.body.getD .skip) Tryd.f30.results.toList = ShaSum.VC := by kernel_rfl
theorem okShaSum : Sound Tryd.prog gl 30 conShaSum := fn_sound (E := EShaSum) (c := conShaSum) (ok_of (envOk_of (E := EShaSum) rfl rfl tabOk bytOk) rfl all6 (ptr_of pall6)) follows (fn := Tryd.f30) Tryd.func30 (by kernel_rfl) (body := Tryd.f30.body.getD .skip) (by kernel_rfl) (by kernel_rfl) (of_decide_eq_true (by kernel_rfl)) (Eq.mpr tieShaSum ShaSum.vc)
noncomputable def cs7 : List (Nat × Con) := (30, conShaSum) :: cs6
theorem all7 : SoundAll Tryd.prog gl cs7 := SoundAll.cons all6 okShaSum
noncomputable def pt7 : List (Nat × ConP) := pt6
theorem pall7 : SoundPAll Tryd.prog gl pt7 := pall6
noncomputable def conRefRotr : Con := { params := [.int .u32, .int .i64], rets := [.deep (.int .u32)], pre := fun x => RefRotr.pre x.1 x.2.1, fn := fun x => (RefRotr.fn x.1 x.2.1, ()) }
noncomputable def ERefRotr : Env := { P := Tryd.prog, ty := fun n => Lc.look n tyT, bytes := fun n => (Lc.look n byT).getD 0, glob := gl, con := fun f => Lc.look f cs7, wr := [], ntm := 9, lock := [], ptr := fun f => Lc.look f pt7 }
noncomputable def NRefRotr : Tup conRefRotr.params → Notes := fun _ => { loops := fun n => Lc.look n [], cuts := fun n => Lc.look n [], frz := fun _ => [] }
theorem tieRefRotr : fnVC ERefRotr conRefRotr NRefRotr (Tryd.f55.body.getD .skip) Tryd.f55.results.toList = RefRotr.VC := by kernel_rfl
theorem okRefRotr : Sound Tryd.prog gl 55 conRefRotr := fn_sound (E := ERefRotr) (c := conRefRotr) (ok_of (envOk_of (E := ERefRotr) rfl rfl tabOk bytOk) rfl all7 (ptr_of pall7)) follows (fn := Tryd.f55) Tryd.func55 (by kernel_rfl) (body := Tryd.f55.body.getD .skip) (by kernel_rfl) (by kernel_rfl) (of_decide_eq_true (by kernel_rfl)) (Eq.mpr tieRefRotr RefRotr.vc)
noncomputable def cs8 : List (Nat × Con) := (55, conRefRotr) :: cs7
theorem all8 : SoundAll Tryd.prog gl cs8 := SoundAll.cons all7 okRefRotr
noncomputable def pt8 : List (Nat × ConP) := pt7
theorem pall8 : SoundPAll Tryd.prog gl pt8 := pall7
noncomputable def conRefConsts : Con := { params := [], rets := [.deep (.arr 64 (.int .u32))], pre := fun _ => RefConsts.pre, fn := fun _ => (RefConsts.fn, ()) }
noncomputable def ERefConsts : Env := { P := Tryd.prog, ty := fun n => Lc.look n tyT, bytes := fun n => (Lc.look n byT).getD 0, glob := gl, con := fun f => Lc.look f cs8, wr := [], ntm := 2, lock := [], ptr := fun f => Lc.look f pt8 }
noncomputable def NRefConsts : Tup conRefConsts.params → Notes := fun _ => { loops := fun n => Lc.look n [], cuts := fun n => Lc.look n [], frz := fun _ => [] }
theorem tieRefConsts : fnVC ERefConsts conRefConsts NRefConsts (Tryd.f54.body.getD .skip) Tryd.f54.results.toList = RefConsts.VC := by kernel_rfl
theorem okRefConsts : Sound Tryd.prog gl 54 conRefConsts := fn_sound (E := ERefConsts) (c := conRefConsts) (ok_of (envOk_of (E := ERefConsts) rfl rfl tabOk bytOk) rfl all8 (ptr_of pall8)) follows (fn := Tryd.f54) Tryd.func54 (by kernel_rfl) (body := Tryd.f54.body.getD .skip) (by kernel_rfl) (by kernel_rfl) (of_decide_eq_true (by kernel_rfl)) (Eq.mpr tieRefConsts RefConsts.vc)
noncomputable def cs9 : List (Nat × Con) := (54, conRefConsts) :: cs8
theorem all9 : SoundAll Tryd.prog gl cs9 := SoundAll.cons all8 okRefConsts
noncomputable def pt9 : List (Nat × ConP) := pt8
theorem pall9 : SoundPAll Tryd.prog gl pt9 := pall8
noncomputable def conRefInitial : Con := { params := [], rets := [.deep (.arr 8 (.int .u32))], pre := fun _ => RefInitial.pre, fn := fun _ => (RefInitial.fn, ()) }
noncomputable def ERefInitial : Env := { P := Tryd.prog, ty := fun n => Lc.look n tyT, bytes := fun n => (Lc.look n byT).getD 0, glob := gl, con := fun f => Lc.look f cs9, wr := [], ntm := 2, lock := [], ptr := fun f => Lc.look f pt9 }
noncomputable def NRefInitial : Tup conRefInitial.params → Notes := fun _ => { loops := fun n => Lc.look n [], cuts := fun n => Lc.look n [], frz := fun _ => [] }
theorem tieRefInitial : fnVC ERefInitial conRefInitial NRefInitial (Tryd.f45.body.getD .skip) Tryd.f45.results.toList = RefInitial.VC := by kernel_rfl
theorem okRefInitial : Sound Tryd.prog gl 45 conRefInitial := fn_sound (E := ERefInitial) (c := conRefInitial) (ok_of (envOk_of (E := ERefInitial) rfl rfl tabOk bytOk) rfl all9 (ptr_of pall9)) follows (fn := Tryd.f45) Tryd.func45 (by kernel_rfl) (body := Tryd.f45.body.getD .skip) (by kernel_rfl) (by kernel_rfl) (of_decide_eq_true (by kernel_rfl)) (Eq.mpr tieRefInitial RefInitial.vc)
noncomputable def cs10 : List (Nat × Con) := (45, conRefInitial) :: cs9
theorem all10 : SoundAll Tryd.prog gl cs10 := SoundAll.cons all9 okRefInitial
noncomputable def pt10 : List (Nat × ConP) := pt9
theorem pall10 : SoundPAll Tryd.prog gl pt10 := pall9
noncomputable def conRefSched : Con := { params := [.arr 64 (.int .u8)], rets := [.deep (.arr 64 (.int .u32))], pre := fun x => RefSched.pre x.1, fn := fun x => (RefSched.fn x.1, ()) }
noncomputable def ERefSched : Env := { P := Tryd.prog, ty := fun n => Lc.look n tyT, bytes := fun n => (Lc.look n byT).getD 0, glob := gl, con := fun f => Lc.look f cs10, wr := [], ntm := 97, lock := [], ptr := fun f => Lc.look f pt10 }
noncomputable def NRefSched : Tup conRefSched.params → Notes := fun x => { loops := fun n => Lc.look n [(3, { see := [], ann := fun _ => { frz := [1], keep := [1], vars := [(2, .ptr (.arr 64 (.int .u32))), (3, .ptr (.arr 64 (.int .u32))), (4, .val (.int .i64))], inv := RefSched.inv3 x.1, mes := RefSched.mes3 x.1 } }), (7, { see := [], ann := fun _ => { frz := [], keep := [], vars := [(2, .ptr (.arr 64 (.int .u32))), (3, .ptr (.arr 64 (.int .u32))), (5, .val (.int .i64))], inv := RefSched.inv7 x.1, mes := RefSched.mes7 x.1 } })], cuts := fun n => Lc.look n [], frz := fun _ => [] }
theorem tieRefSched : fnVC ERefSched conRefSched NRefSched (Tryd.f53.body.getD .skip) Tryd.f53.results.toList = RefSched.VC := by kernel_rfl
theorem okRefSched : Sound Tryd.prog gl 53 conRefSched := fn_sound (E := ERefSched) (c := conRefSched) (ok_of (envOk_of (E := ERefSched) rfl rfl tabOk bytOk) rfl all10 (ptr_of pall10)) follows (fn := Tryd.f53) Tryd.func53 (by kernel_rfl) (body := Tryd.f53.body.getD .skip) (by kernel_rfl) (by kernel_rfl) (of_decide_eq_true (by kernel_rfl)) (Eq.mpr tieRefSched RefSched.vc)
noncomputable def cs11 : List (Nat × Con) := (53, conRefSched) :: cs10
theorem all11 : SoundAll Tryd.prog gl cs11 := SoundAll.cons all10 okRefSched
noncomputable def pt11 : List (Nat × ConP) := pt10
theorem pall11 : SoundPAll Tryd.prog gl pt11 := pall10
noncomputable def conRefCompress : Con := { params := [.arr 8 (.int .u32), .arr 64 (.int .u8)], rets := [.deep (.arr 8 (.int .u32))], pre := fun x => RefCompress.pre x.1 x.2.1, fn := fun x => (RefCompress.fn x.1 x.2.1, ()) }
noncomputable def ERefCompress : Env := { P := Tryd.prog, ty := fun n => Lc.look n tyT, bytes := fun n => (Lc.look n byT).getD 0, glob := gl, con := fun f => Lc.look f cs11, wr := [], ntm := 133, lock := [], ptr := fun f => Lc.look f pt11 }
noncomputable def NRefCompress : Tup conRefCompress.params → Notes := fun x => { loops := fun n => Lc.look n [(4, { see := [], ann := fun _ => { frz := [2], keep := [2], vars := [(4, .ptr (.arr 8 (.int .u32))), (5, .ptr (.arr 64 (.int .u32))), (6, .ptr (.arr 64 (.int .u32))), (7, .val (.int .u32)), (8, .val (.int .u32)), (9, .val (.int .u32)), (10, .val (.int .u32)), (11, .val (.int .u32)), (12, .val (.int .u32)), (13, .val (.int .u32)), (14, .val (.int .u32)), (15, .val (.int .i64))], inv := RefCompress.inv4 x.1 x.2.1, mes := RefCompress.mes4 x.1 x.2.1 } })], cuts := fun n => Lc.look n [], frz := fun _ => [] }
theorem tieRefCompress : fnVC ERefCompress conRefCompress NRefCompress (Tryd.f46.body.getD .skip) Tryd.f46.results.toList = RefCompress.VC := by kernel_rfl
theorem okRefCompress : Sound Tryd.prog gl 46 conRefCompress := fn_sound (E := ERefCompress) (c := conRefCompress) (ok_of (envOk_of (E := ERefCompress) rfl rfl tabOk bytOk) rfl all11 (ptr_of pall11)) follows (fn := Tryd.f46) Tryd.func46 (by kernel_rfl) (body := Tryd.f46.body.getD .skip) (by kernel_rfl) (by kernel_rfl) (of_decide_eq_true (by kernel_rfl)) (Eq.mpr tieRefCompress RefCompress.vc)
noncomputable def cs12 : List (Nat × Con) := (46, conRefCompress) :: cs11
theorem all12 : SoundAll Tryd.prog gl cs12 := SoundAll.cons all11 okRefCompress
noncomputable def pt12 : List (Nat × ConP) := pt11
theorem pall12 : SoundPAll Tryd.prog gl pt12 := pall11
noncomputable def conRefPad : Con := { params := [.int .u64], rets := [.own (.int .u8)], pre := fun x => RefPad.pre x.1, fn := fun x => (RefPad.fn x.1, ()) }
noncomputable def ERefPad : Env := { P := Tryd.prog, ty := fun n => Lc.look n tyT, bytes := fun n => (Lc.look n byT).getD 0, glob := gl, con := fun f => Lc.look f cs12, wr := [], ntm := 31, lock := [], ptr := fun f => Lc.look f pt12 }
noncomputable def NRefPad : Tup conRefPad.params → Notes := fun x => { loops := fun n => Lc.look n [(2, { see := [], ann := fun _ => { frz := [], keep := [0], vars := [(3, .own (.int .u8) true)], inv := RefPad.inv2 x.1, mes := RefPad.mes2 x.1 } }), (5, { see := [], ann := fun _ => { frz := [], keep := [0], vars := [(3, .own (.int .u8) true), (4, .val (.int .i64))], inv := RefPad.inv5 x.1, mes := RefPad.mes5 x.1 } })], cuts := fun n => Lc.look n [], frz := fun _ => [] }
theorem tieRefPad : fnVC ERefPad conRefPad NRefPad (Tryd.f44.body.getD .skip) Tryd.f44.results.toList = RefPad.VC := by kernel_rfl
theorem okRefPad : Sound Tryd.prog gl 44 conRefPad := fn_sound (E := ERefPad) (c := conRefPad) (ok_of (envOk_of (E := ERefPad) rfl rfl tabOk bytOk) rfl all12 (ptr_of pall12)) follows (fn := Tryd.f44) Tryd.func44 (by kernel_rfl) (body := Tryd.f44.body.getD .skip) (by kernel_rfl) (by kernel_rfl) (of_decide_eq_true (by kernel_rfl)) (Eq.mpr tieRefPad RefPad.vc)
noncomputable def cs13 : List (Nat × Con) := (44, conRefPad) :: cs12
theorem all13 : SoundAll Tryd.prog gl cs13 := SoundAll.cons all12 okRefPad
noncomputable def pt13 : List (Nat × ConP) := pt12
theorem pall13 : SoundPAll Tryd.prog gl pt13 := pall12
noncomputable def conRefSum : Con := { params := [.slc (.int .u8)], rets := [.deep (.arr 32 (.int .u8))], pre := fun x => RefSum.pre x.1, fn := fun x => (RefSum.fn x.1, ()) }
noncomputable def ERefSum : Env := { P := Tryd.prog, ty := fun n => Lc.look n tyT, bytes := fun n => (Lc.look n byT).getD 0, glob := gl, con := fun f => Lc.look f cs13, wr := [], ntm := 66, lock := [], ptr := fun f => Lc.look f pt13 }
noncomputable def NRefSum : Tup conRefSum.params → Notes := fun x => { loops := fun n => Lc.look n [(4, { see := [], ann := fun _ => { frz := [], keep := [3], vars := [(2, .ptr (.arr 32 (.int .u8))), (4, .ptr (.arr 8 (.int .u32))), (5, .val (.int .i64))], inv := RefSum.inv4 x.1, mes := RefSum.mes4 x.1 } }), (11, { see := [(33, .val (.arr 8 (.int .u32)))], ann := fun y => { frz := [], keep := [33], vars := [(2, .ptr (.arr 32 (.int .u8))), (7, .ptr (.arr 32 (.int .u8))), (34, .val (.int .i64))], inv := RefSum.inv11 x.1 y.1, mes := RefSum.mes11 x.1 y.1 } })], cuts := fun n => Lc.look n [], frz := fun _ => [] }
theorem tieRefSum : fnVC ERefSum conRefSum NRefSum (Tryd.f31.body.getD .skip) Tryd.f31.results.toList = RefSum.VC := by kernel_rfl
theorem okRefSum : Sound Tryd.prog gl 31 conRefSum := fn_sound (E := ERefSum) (c := conRefSum) (ok_of (envOk_of (E := ERefSum) rfl rfl tabOk bytOk) rfl all13 (ptr_of pall13)) follows (fn := Tryd.f31) Tryd.func31 (by kernel_rfl) (body := Tryd.f31.body.getD .skip) (by kernel_rfl) (by kernel_rfl) (of_decide_eq_true (by kernel_rfl)) (Eq.mpr tieRefSum RefSum.vc)
noncomputable def cs14 : List (Nat × Con) := (31, conRefSum) :: cs13
theorem all14 : SoundAll Tryd.prog gl cs14 := SoundAll.cons all13 okRefSum
noncomputable def pt14 : List (Nat × ConP) := pt13
theorem pall14 : SoundPAll Tryd.prog gl pt14 := pall13
noncomputable def conMNode : Con := { params := [.arr 32 (.int .u8), .arr 32 (.int .u8)], rets := [.deep (.arr 32 (.int .u8))], pre := fun x => MNode.pre x.1 x.2.1, fn := fun x => (MNode.fn x.1 x.2.1, ()) }
noncomputable def EMNode : Env := { P := Tryd.prog, ty := fun n => Lc.look n tyT, bytes := fun n => (Lc.look n byT).getD 0, glob := gl, con := fun f => Lc.look f cs14, wr := [], ntm := 15, lock := [], ptr := fun f => Lc.look f pt14 }
noncomputable def NMNode : Tup conMNode.params → Notes := fun _ => { loops := fun n => Lc.look n [], cuts := fun n => Lc.look n [], frz := fun _ => [] }
theorem tieMNode : fnVC EMNode conMNode NMNode (Tryd.f14.body.getD .skip) Tryd.f14.results.toList = MNode.VC := by kernel_rfl
theorem okMNode : Sound Tryd.prog gl 14 conMNode := fn_sound (E := EMNode) (c := conMNode) (ok_of (envOk_of (E := EMNode) rfl rfl tabOk bytOk) rfl all14 (ptr_of pall14)) follows (fn := Tryd.f14) Tryd.func14 (by kernel_rfl) (body := Tryd.f14.body.getD .skip) (by kernel_rfl) (by kernel_rfl) (of_decide_eq_true (by kernel_rfl)) (Eq.mpr tieMNode MNode.vc)
noncomputable def cs15 : List (Nat × Con) := (14, conMNode) :: cs14
theorem all15 : SoundAll Tryd.prog gl cs15 := SoundAll.cons all14 okMNode
noncomputable def pt15 : List (Nat × ConP) := pt14
theorem pall15 : SoundPAll Tryd.prog gl pt15 := pall14
noncomputable def conJoined : Con := { params := [.slc (.int .u8), .slc (.int .u8)], rets := [.own (.int .u8)], pre := fun x => Joined.pre x.1 x.2.1, fn := fun x => (Joined.fn x.1 x.2.1, ()) }
noncomputable def EJoined : Env := { P := Tryd.prog, ty := fun n => Lc.look n tyT, bytes := fun n => (Lc.look n byT).getD 0, glob := gl, con := fun f => Lc.look f cs15, wr := [], ntm := 17, lock := [], ptr := fun f => Lc.look f pt15 }
noncomputable def NJoined : Tup conJoined.params → Notes := fun _ => { loops := fun n => Lc.look n [], cuts := fun n => Lc.look n [], frz := fun _ => [] }
theorem tieJoined : fnVC EJoined conJoined NJoined (Tryd.f47.body.getD .skip) Tryd.f47.results.toList = Joined.VC := by kernel_rfl
theorem okJoined : Sound Tryd.prog gl 47 conJoined := fn_sound (E := EJoined) (c := conJoined) (ok_of (envOk_of (E := EJoined) rfl rfl tabOk bytOk) rfl all15 (ptr_of pall15)) follows (fn := Tryd.f47) Tryd.func47 (by kernel_rfl) (body := Tryd.f47.body.getD .skip) (by kernel_rfl) (by kernel_rfl) (of_decide_eq_true (by kernel_rfl)) (Eq.mpr tieJoined Joined.vc)
noncomputable def cs16 : List (Nat × Con) := (47, conJoined) :: cs15
theorem all16 : SoundAll Tryd.prog gl cs16 := SoundAll.cons all15 okJoined
noncomputable def pt16 : List (Nat × ConP) := pt15
theorem pall16 : SoundPAll Tryd.prog gl pt16 := pall15
noncomputable def conJoin : Con := { params := [.slc (.slc (.int .u8))], rets := [.deep (.slc (.int .u8))], pre := fun x => Join.pre x.1, fn := fun x => (Join.fn x.1, ()) }
noncomputable def EJoin : Env := { P := Tryd.prog, ty := fun n => Lc.look n tyT, bytes := fun n => (Lc.look n byT).getD 0, glob := gl, con := fun f => Lc.look f cs16, wr := [], ntm := 17, lock := [], ptr := fun f => Lc.look f pt16 }
noncomputable def NJoin : Tup conJoin.params → Notes := fun x => { loops := fun n => Lc.look n [(3, { see := [], ann := fun _ => { frz := [], keep := [6, 7], vars := [(3, .own (.int .u8) true), (8, .val (.int .i64))], inv := Join.inv3 x.1, mes := Join.mes3 x.1 } })], cuts := fun n => Lc.look n [], frz := fun _ => [] }
theorem tieJoin : fnVC EJoin conJoin NJoin (Tryd.f32.body.getD .skip) Tryd.f32.results.toList = Join.VC := by kernel_rfl
theorem okJoin : Sound Tryd.prog gl 32 conJoin := fn_sound (E := EJoin) (c := conJoin) (ok_of (envOk_of (E := EJoin) rfl rfl tabOk bytOk) rfl all16 (ptr_of pall16)) follows (fn := Tryd.f32) Tryd.func32 (by kernel_rfl) (body := Tryd.f32.body.getD .skip) (by kernel_rfl) (by kernel_rfl) (of_decide_eq_true (by kernel_rfl)) (Eq.mpr tieJoin Join.vc)
noncomputable def cs17 : List (Nat × Con) := (32, conJoin) :: cs16
theorem all17 : SoundAll Tryd.prog gl cs17 := SoundAll.cons all16 okJoin
noncomputable def pt17 : List (Nat × ConP) := pt16
theorem pall17 : SoundPAll Tryd.prog gl pt17 := pall16
noncomputable def conRNode : Con := { params := [.arr 32 (.int .u8), .arr 32 (.int .u8)], rets := [.deep (.arr 32 (.int .u8))], pre := fun x => RNode.pre x.1 x.2.1, fn := fun x => (RNode.fn x.1 x.2.1, ()) }
noncomputable def ERNode : Env := { P := Tryd.prog, ty := fun n => Lc.look n tyT, bytes := fun n => (Lc.look n byT).getD 0, glob := gl, con := fun f => Lc.look f cs17, wr := [], ntm := 11, lock := [], ptr := fun f => Lc.look f pt17 }
noncomputable def NRNode : Tup conRNode.params → Notes := fun _ => { loops := fun n => Lc.look n [], cuts := fun n => Lc.look n [], frz := fun n => (Lc.look n [(1, [2, 3])]).getD [] }
theorem tieRNode : fnVC ERNode conRNode NRNode (Tryd.f15.body.getD .skip) Tryd.f15.results.toList = RNode.VC := by kernel_rfl
theorem okRNode : Sound Tryd.prog gl 15 conRNode := fn_sound (E := ERNode) (c := conRNode) (ok_of (envOk_of (E := ERNode) rfl rfl tabOk bytOk) rfl all17 (ptr_of pall17)) follows (fn := Tryd.f15) Tryd.func15 (by kernel_rfl) (body := Tryd.f15.body.getD .skip) (by kernel_rfl) (by kernel_rfl) (of_decide_eq_true (by kernel_rfl)) (Eq.mpr tieRNode RNode.vc)
noncomputable def cs18 : List (Nat × Con) := (15, conRNode) :: cs17
theorem all18 : SoundAll Tryd.prog gl cs18 := SoundAll.cons all17 okRNode
noncomputable def pt18 : List (Nat × ConP) := pt17
theorem pall18 : SoundPAll Tryd.prog gl pt18 := pall17
noncomputable def conMLevels : Con := { params := [.slc (.arr 32 (.int .u8))], rets := [.deep (.slc (.slc (.arr 32 (.int .u8))))], pre := fun x => MLevels.pre x.1, fn := fun x => (MLevels.fn x.1, ()) }
noncomputable def EMLevels : Env := { P := Tryd.prog, ty := fun n => Lc.look n tyT, bytes := fun n => (Lc.look n byT).getD 0, glob := gl, con := fun f => Lc.look f cs18, wr := [], ntm := 48, lock := [], ptr := fun f => Lc.look f pt18 }
noncomputable def NMLevels : Tup conMLevels.params → Notes := fun x => { loops := fun n => Lc.look n [(2, { see := [], ann := fun _ => { frz := [], keep := [], vars := [(0, .val (.slc (.arr 32 (.int .u8)))), (3, .own (.slc (.arr 32 (.int .u8))) true)], inv := MLevels.inv2 x.1, mes := MLevels.mes2 x.1 } }), (5, { see := [(0, .val (.slc (.arr 32 (.int .u8))))], ann := fun y => { frz := [], keep := [0], vars := [(3, .own (.slc (.arr 32 (.int .u8))) true), (4, .own (.arr 32 (.int .u8)) true), (5, .val (.int .i64))], inv := MLevels.inv5 x.1 y.1, mes := MLevels.mes5 x.1 y.1 } })], cuts := fun n => Lc.look n [], frz := fun _ => [] }
theorem tieMLevels : fnVC EMLevels conMLevels NMLevels (Tryd.f33.body.getD .skip) Tryd.f33.results.toList = MLevels.VC := by kernel_rfl
theorem okMLevels : Sound Tryd.prog gl 33 conMLevels := fn_sound (E := EMLevels) (c := conMLevels) (ok_of (envOk_of (E := EMLevels) rfl rfl tabOk bytOk) rfl all18 (ptr_of pall18)) follows (fn := Tryd.f33) Tryd.func33 (by kernel_rfl) (body := Tryd.f33.body.getD .skip) (by kernel_rfl) (by kernel_rfl) (of_decide_eq_true (by kernel_rfl)) (Eq.mpr tieMLevels MLevels.vc)
noncomputable def cs19 : List (Nat × Con) := (33, conMLevels) :: cs18
theorem all19 : SoundAll Tryd.prog gl cs19 := SoundAll.cons all18 okMLevels
noncomputable def pt19 : List (Nat × ConP) := pt18
theorem pall19 : SoundPAll Tryd.prog gl pt19 := pall18
noncomputable def conRLevels : Con := { params := [.slc (.arr 32 (.int .u8))], rets := [.deep (.slc (.slc (.arr 32 (.int .u8))))], pre := fun x => RLevels.pre x.1, fn := fun x => (RLevels.fn x.1, ()) }
noncomputable def ERLevels : Env := { P := Tryd.prog, ty := fun n => Lc.look n tyT, bytes := fun n => (Lc.look n byT).getD 0, glob := gl, con := fun f => Lc.look f cs19, wr := [], ntm := 48, lock := [], ptr := fun f => Lc.look f pt19 }
noncomputable def NRLevels : Tup conRLevels.params → Notes := fun x => { loops := fun n => Lc.look n [(2, { see := [], ann := fun _ => { frz := [], keep := [], vars := [(0, .val (.slc (.arr 32 (.int .u8)))), (3, .own (.slc (.arr 32 (.int .u8))) true)], inv := RLevels.inv2 x.1, mes := RLevels.mes2 x.1 } }), (5, { see := [(0, .val (.slc (.arr 32 (.int .u8))))], ann := fun y => { frz := [], keep := [0], vars := [(3, .own (.slc (.arr 32 (.int .u8))) true), (4, .own (.arr 32 (.int .u8)) true), (5, .val (.int .i64))], inv := RLevels.inv5 x.1 y.1, mes := RLevels.mes5 x.1 y.1 } })], cuts := fun n => Lc.look n [], frz := fun _ => [] }
theorem tieRLevels : fnVC ERLevels conRLevels NRLevels (Tryd.f34.body.getD .skip) Tryd.f34.results.toList = RLevels.VC := by kernel_rfl
theorem okRLevels : Sound Tryd.prog gl 34 conRLevels := fn_sound (E := ERLevels) (c := conRLevels) (ok_of (envOk_of (E := ERLevels) rfl rfl tabOk bytOk) rfl all19 (ptr_of pall19)) follows (fn := Tryd.f34) Tryd.func34 (by kernel_rfl) (body := Tryd.f34.body.getD .skip) (by kernel_rfl) (by kernel_rfl) (of_decide_eq_true (by kernel_rfl)) (Eq.mpr tieRLevels RLevels.vc)
noncomputable def cs20 : List (Nat × Con) := (34, conRLevels) :: cs19
theorem all20 : SoundAll Tryd.prog gl cs20 := SoundAll.cons all19 okRLevels
noncomputable def pt20 : List (Nat × ConP) := pt19
theorem pall20 : SoundPAll Tryd.prog gl pt20 := pall19
noncomputable def conMRoot : Con := { params := [.slc (.arr 32 (.int .u8))], rets := [.deep (.arr 32 (.int .u8))], pre := fun x => MRoot.pre x.1, fn := fun x => (MRoot.fn x.1, ()) }
noncomputable def EMRoot : Env := { P := Tryd.prog, ty := fun n => Lc.look n tyT, bytes := fun n => (Lc.look n byT).getD 0, glob := gl, con := fun f => Lc.look f cs20, wr := [], ntm := 23, lock := [], ptr := fun f => Lc.look f pt20 }
noncomputable def NMRoot : Tup conMRoot.params → Notes := fun _ => { loops := fun n => Lc.look n [], cuts := fun n => Lc.look n [], frz := fun _ => [] }
theorem tieMRoot : fnVC EMRoot conMRoot NMRoot (Tryd.f16.body.getD .skip) Tryd.f16.results.toList = MRoot.VC := by kernel_rfl
theorem okMRoot : Sound Tryd.prog gl 16 conMRoot := fn_sound (E := EMRoot) (c := conMRoot) (ok_of (envOk_of (E := EMRoot) rfl rfl tabOk bytOk) rfl all20 (ptr_of pall20)) follows (fn := Tryd.f16) Tryd.func16 (by kernel_rfl) (body := Tryd.f16.body.getD .skip) (by kernel_rfl) (by kernel_rfl) (of_decide_eq_true (by kernel_rfl)) (Eq.mpr tieMRoot MRoot.vc)
noncomputable def cs21 : List (Nat × Con) := (16, conMRoot) :: cs20
theorem all21 : SoundAll Tryd.prog gl cs21 := SoundAll.cons all20 okMRoot
noncomputable def pt21 : List (Nat × ConP) := pt20
theorem pall21 : SoundPAll Tryd.prog gl pt21 := pall20
noncomputable def conRRoot : Con := { params := [.slc (.arr 32 (.int .u8))], rets := [.deep (.arr 32 (.int .u8))], pre := fun x => RRoot.pre x.1, fn := fun x => (RRoot.fn x.1, ()) }
noncomputable def ERRoot : Env := { P := Tryd.prog, ty := fun n => Lc.look n tyT, bytes := fun n => (Lc.look n byT).getD 0, glob := gl, con := fun f => Lc.look f cs21, wr := [], ntm := 23, lock := [], ptr := fun f => Lc.look f pt21 }
noncomputable def NRRoot : Tup conRRoot.params → Notes := fun _ => { loops := fun n => Lc.look n [], cuts := fun n => Lc.look n [], frz := fun _ => [] }
theorem tieRRoot : fnVC ERRoot conRRoot NRRoot (Tryd.f17.body.getD .skip) Tryd.f17.results.toList = RRoot.VC := by kernel_rfl
theorem okRRoot : Sound Tryd.prog gl 17 conRRoot := fn_sound (E := ERRoot) (c := conRRoot) (ok_of (envOk_of (E := ERRoot) rfl rfl tabOk bytOk) rfl all21 (ptr_of pall21)) follows (fn := Tryd.f17) Tryd.func17 (by kernel_rfl) (body := Tryd.f17.body.getD .skip) (by kernel_rfl) (by kernel_rfl) (of_decide_eq_true (by kernel_rfl)) (Eq.mpr tieRRoot RRoot.vc)
noncomputable def cs22 : List (Nat × Con) := (17, conRRoot) :: cs21
theorem all22 : SoundAll Tryd.prog gl cs22 := SoundAll.cons all21 okRRoot
noncomputable def pt22 : List (Nat × ConP) := pt21
theorem pall22 : SoundPAll Tryd.prog gl pt22 := pall21
noncomputable def conKept : Con := { params := [.slc (.arr 32 (.int .u8))], rets := [.deep (.bool)], pre := fun x => Kept.pre x.1, fn := fun x => (Kept.fn x.1, ()) }
noncomputable def EKept : Env := { P := Tryd.prog, ty := fun n => Lc.look n tyT, bytes := fun n => (Lc.look n byT).getD 0, glob := gl, con := fun f => Lc.look f cs22, wr := [], ntm := 6, lock := [], ptr := fun f => Lc.look f pt22 }
noncomputable def NKept : Tup conKept.params → Notes := fun _ => { loops := fun n => Lc.look n [], cuts := fun n => Lc.look n [], frz := fun _ => [] }
theorem tieKept : fnVC EKept conKept NKept (Tryd.f13.body.getD .skip) Tryd.f13.results.toList = Kept.VC := by kernel_rfl
theorem okKept : Sound Tryd.prog gl 13 conKept := fn_sound (E := EKept) (c := conKept) (ok_of (envOk_of (E := EKept) rfl rfl tabOk bytOk) rfl all22 (ptr_of pall22)) follows (fn := Tryd.f13) Tryd.func13 (by kernel_rfl) (body := Tryd.f13.body.getD .skip) (by kernel_rfl) (by kernel_rfl) (of_decide_eq_true (by kernel_rfl)) (Eq.mpr tieKept Kept.vc)
noncomputable def cs23 : List (Nat × Con) := (13, conKept) :: cs22
theorem all23 : SoundAll Tryd.prog gl cs23 := SoundAll.cons all22 okKept
noncomputable def pt23 : List (Nat × ConP) := pt22
theorem pall23 : SoundPAll Tryd.prog gl pt23 := pall22
noncomputable def conMSane : Con := { params := [], rets := [.deep (.bool)], pre := fun _ => MSane.pre, fn := fun _ => (MSane.fn, ()) }
noncomputable def EMSane : Env := { P := Tryd.prog, ty := fun n => Lc.look n tyT, bytes := fun n => (Lc.look n byT).getD 0, glob := gl, con := fun f => Lc.look f cs23, wr := [], ntm := 34, lock := [], ptr := fun f => Lc.look f pt23 }
noncomputable def NMSane : Tup conMSane.params → Notes := fun _ => { loops := fun n => Lc.look n [], cuts := fun n => Lc.look n [], frz := fun _ => [] }
theorem tieMSane : fnVC EMSane conMSane NMSane (Tryd.f12.body.getD .skip) Tryd.f12.results.toList = MSane.VC := by kernel_rfl
theorem okMSane : Sound Tryd.prog gl 12 conMSane := fn_sound (E := EMSane) (c := conMSane) (ok_of (envOk_of (E := EMSane) rfl rfl tabOk bytOk) rfl all23 (ptr_of pall23)) follows (fn := Tryd.f12) Tryd.func12 (by kernel_rfl) (body := Tryd.f12.body.getD .skip) (by kernel_rfl) (by kernel_rfl) (of_decide_eq_true (by kernel_rfl)) (Eq.mpr tieMSane MSane.vc)
noncomputable def cs24 : List (Nat × Con) := (12, conMSane) :: cs23
theorem all24 : SoundAll Tryd.prog gl cs24 := SoundAll.cons all23 okMSane
noncomputable def pt24 : List (Nat × ConP) := pt23
theorem pall24 : SoundPAll Tryd.prog gl pt24 := pall23
noncomputable def conMHeight : Con := { params := [.int .i64], rets := [.deep (.int .i64)], pre := fun x => MHeight.pre x.1, fn := fun x => (MHeight.fn x.1, ()) }
noncomputable def EMHeight : Env := { P := Tryd.prog, ty := fun n => Lc.look n tyT, bytes := fun n => (Lc.look n byT).getD 0, glob := gl, con := fun f => Lc.look f cs24, wr := [], ntm := 12, lock := [], ptr := fun f => Lc.look f pt24 }
noncomputable def NMHeight : Tup conMHeight.params → Notes := fun x => { loops := fun n => Lc.look n [(2, { see := [], ann := fun _ => { frz := [], keep := [], vars := [(0, .val (.int .i64)), (3, .val (.int .i64))], inv := MHeight.inv2 x.1, mes := MHeight.mes2 x.1 } })], cuts := fun n => Lc.look n [], frz := fun _ => [] }
theorem tieMHeight : fnVC EMHeight conMHeight NMHeight (Tryd.f39.body.getD .skip) Tryd.f39.results.toList = MHeight.VC := by kernel_rfl
theorem okMHeight : Sound Tryd.prog gl 39 conMHeight := fn_sound (E := EMHeight) (c := conMHeight) (ok_of (envOk_of (E := EMHeight) rfl rfl tabOk bytOk) rfl all24 (ptr_of pall24)) follows (fn := Tryd.f39) Tryd.func39 (by kernel_rfl) (body := Tryd.f39.body.getD .skip) (by kernel_rfl) (by kernel_rfl) (of_decide_eq_true (by kernel_rfl)) (Eq.mpr tieMHeight MHeight.vc)
noncomputable def cs25 : List (Nat × Con) := (39, conMHeight) :: cs24
theorem all25 : SoundAll Tryd.prog gl cs25 := SoundAll.cons all24 okMHeight
noncomputable def pt25 : List (Nat × ConP) := pt24
theorem pall25 : SoundPAll Tryd.prog gl pt25 := pall24
noncomputable def conMWidth : Con := { params := [.int .i64, .int .i64], rets := [.deep (.int .i64)], pre := fun x => MWidth.pre x.1 x.2.1, fn := fun x => (MWidth.fn x.1 x.2.1, ()) }
noncomputable def EMWidth : Env := { P := Tryd.prog, ty := fun n => Lc.look n tyT, bytes := fun n => (Lc.look n byT).getD 0, glob := gl, con := fun f => Lc.look f cs25, wr := [], ntm := 13, lock := [], ptr := fun f => Lc.look f pt25 }
noncomputable def NMWidth : Tup conMWidth.params → Notes := fun x => { loops := fun n => Lc.look n [(2, { see := [], ann := fun _ => { frz := [], keep := [5], vars := [(0, .val (.int .i64)), (6, .val (.int .i64))], inv := MWidth.inv2 x.1 x.2.1, mes := MWidth.mes2 x.1 x.2.1 } })], cuts := fun n => Lc.look n [], frz := fun _ => [] }
theorem tieMWidth : fnVC EMWidth conMWidth NMWidth (Tryd.f57.body.getD .skip) Tryd.f57.results.toList = MWidth.VC := by kernel_rfl
theorem okMWidth : Sound Tryd.prog gl 57 conMWidth := fn_sound (E := EMWidth) (c := conMWidth) (ok_of (envOk_of (E := EMWidth) rfl rfl tabOk bytOk) rfl all25 (ptr_of pall25)) follows (fn := Tryd.f57) Tryd.func57 (by kernel_rfl) (body := Tryd.f57.body.getD .skip) (by kernel_rfl) (by kernel_rfl) (of_decide_eq_true (by kernel_rfl)) (Eq.mpr tieMWidth MWidth.vc)
noncomputable def cs26 : List (Nat × Con) := (57, conMWidth) :: cs25
theorem all26 : SoundAll Tryd.prog gl cs26 := SoundAll.cons all25 okMWidth
noncomputable def pt26 : List (Nat × ConP) := pt25
theorem pall26 : SoundPAll Tryd.prog gl pt26 := pall25
noncomputable def conSIndex : Con := { params := [.slc (.bool), .bool], rets := [.deep (.int .i64)], pre := fun x => SIndex.pre x.1 x.2.1, fn := fun x => (SIndex.fn x.1 x.2.1, ()) }
noncomputable def ESIndex : Env := { P := Tryd.prog, ty := fun n => Lc.look n tyT, bytes := fun n => (Lc.look n byT).getD 0, glob := gl, con := fun f => Lc.look f cs26, wr := [], ntm := 19, lock := [], ptr := fun f => Lc.look f pt26 }
noncomputable def NSIndex : Tup conSIndex.params → Notes := fun x => { loops := fun n => Lc.look n [(2, { see := [], ann := fun _ => { frz := [], keep := [0, 1, 7], vars := [(8, .val (.int .i64))], inv := SIndex.inv2 x.1 x.2.1, mes := SIndex.mes2 x.1 x.2.1 } })], cuts := fun n => Lc.look n [], frz := fun _ => [] }
theorem tieSIndex : fnVC ESIndex conSIndex NSIndex (Tryd.f56.body.getD .skip) Tryd.f56.results.toList = SIndex.VC := by kernel_rfl
theorem okSIndex : Sound Tryd.prog gl 56 conSIndex := fn_sound (E := ESIndex) (c := conSIndex) (ok_of (envOk_of (E := ESIndex) rfl rfl tabOk bytOk) rfl all26 (ptr_of pall26)) follows (fn := Tryd.f56) Tryd.func56 (by kernel_rfl) (body := Tryd.f56.body.getD .skip) (by kernel_rfl) (by kernel_rfl) (of_decide_eq_true (by kernel_rfl)) (Eq.mpr tieSIndex SIndex.vc)
noncomputable def cs27 : List (Nat × Con) := (56, conSIndex) :: cs26
theorem all27 : SoundAll Tryd.prog gl cs27 := SoundAll.cons all26 okSIndex
noncomputable def pt27 : List (Nat × ConP) := pt26
theorem pall27 : SoundPAll Tryd.prog gl pt27 := pall26
noncomputable def conSContains : Con := { params := [.slc (.bool), .bool], rets := [.deep (.bool)], pre := fun x => SContains.pre x.1 x.2.1, fn := fun x => (SContains.fn x.1 x.2.1, ()) }
noncomputable def ESContains : Env := { P := Tryd.prog, ty := fun n => Lc.look n tyT, bytes := fun n => (Lc.look n byT).getD 0, glob := gl, con := fun f => Lc.look f cs27, wr := [], ntm := 9, lock := [], ptr := fun f => Lc.look f pt27 }
noncomputable def NSContains : Tup conSContains.params → Notes := fun _ => { loops := fun n => Lc.look n [], cuts := fun n => Lc.look n [], frz := fun _ => [] }
theorem tieSContains : fnVC ESContains conSContains NSContains (Tryd.f48.body.getD .skip) Tryd.f48.results.toList = SContains.VC := by kernel_rfl
theorem okSContains : Sound Tryd.prog gl 48 conSContains := fn_sound (E := ESContains) (c := conSContains) (ok_of (envOk_of (E := ESContains) rfl rfl tabOk bytOk) rfl all27 (ptr_of pall27)) follows (fn := Tryd.f48) Tryd.func48 (by kernel_rfl) (body := Tryd.f48.body.getD .skip) (by kernel_rfl) (by kernel_rfl) (of_decide_eq_true (by kernel_rfl)) (Eq.mpr tieSContains SContains.vc)
noncomputable def cs28 : List (Nat × Con) := (48, conSContains) :: cs27
theorem all28 : SoundAll Tryd.prog gl cs28 := SoundAll.cons all27 okSContains
noncomputable def pt28 : List (Nat × ConP) := pt27
theorem pall28 : SoundPAll Tryd.prog gl pt28 := pall27
noncomputable def conRdVisitN (n : Nat) : ConP := { t := .pair (.pair (.int .i64) (.pair (.slc (.bool)) (.pair (.slc (.arr 32 (.int .u8))) (.unit)))) (.pair (.slc (.pair (.int .i64) (.pair (.arr 32 (.int .u8)) (.unit)))) (.unit)), ps := [([.fld 1], .pair (.int .i64) (.pair (.arr 32 (.int .u8)) (.unit)), 1000)], params := [.int .i64, .int .i64], rets := [.deep (.arr 32 (.int .u8)), .deep (.bool), .deep (.int .i64)], pre := fun x y => RdVisit.pre n x y.1 y.2.1, fn := fun x y => ((RdVisit.fn x y.1 y.2.1).1, ((RdVisit.fn x y.1 y.2.1).2.1, ((RdVisit.fn x y.1 y.2.1).2.2.1, ((RdVisit.fn x y.1 y.2.1).2.2.2, ())))) }
noncomputable def conRdVisit : ConP := { t := .pair (.pair (.int .i64) (.pair (.slc (.bool)) (.pair (.slc (.arr 32 (.int .u8))) (.unit)))) (.pair (.slc (.pair (.int .i64) (.pair (.arr 32 (.int .u8)) (.unit)))) (.unit)), ps := [([.fld 1], .pair (.int .i64) (.pair (.arr 32 (.int .u8)) (.unit)), 1000)], params := [.int .i64, .int .i64], rets := [.deep (.arr 32 (.int .u8)), .deep (.bool), .deep (.int .i64)], pre := fun x y => RdVisit.can x y.1 y.2.1, fn := fun x y => ((RdVisit.fn x y.1 y.2.1).1, ((RdVisit.fn x y.1 y.2.1).2.1, ((RdVisit.fn x y.1 y.2.1).2.2.1, ((RdVisit.fn x y.1 y.2.1).2.2.2, ())))) }
theorem fnOkRdVisit : FnOk Tryd.prog 38 := ⟨Tryd.f38, Tryd.func38, by kernel_rfl, by kernel_rfl⟩
noncomputable def conRdKidsN (n : Nat) : ConP := { t := .pair (.pair (.int .i64) (.pair (.slc (.bool)) (.pair (.slc (.arr 32 (.int .u8))) (.unit)))) (.pair (.slc (.pair (.int .i64) (.pair (.arr 32 (.int .u8)) (.unit)))) (.unit)), ps := [([.fld 1], .pair (.int .i64) (.pair (.arr 32 (.int .u8)) (.unit)), 1000)], params := [.int .i64, .int .i64], rets := [.deep (.arr 32 (.int .u8)), .deep (.int .i64)], pre := fun x y => RdKids.pre n x y.1 y.2.1, fn := fun x y => ((RdKids.fn x y.1 y.2.1).1, ((RdKids.fn x y.1 y.2.1).2.1, ((RdKids.fn x y.1 y.2.1).2.2, ()))) }
noncomputable def conRdKids : ConP := { t := .pair (.pair (.int .i64) (.pair (.slc (.bool)) (.pair (.slc (.arr 32 (.int .u8))) (.unit)))) (.pair (.slc (.pair (.int .i64) (.pair (.arr 32 (.int .u8)) (.unit)))) (.unit)), ps := [([.fld 1], .pair (.int .i64) (.pair (.arr 32 (.int .u8)) (.unit)), 1000)], params := [.int .i64, .int .i64], rets := [.deep (.arr 32 (.int .u8)), .deep (.int .i64)], pre := fun x y => RdKids.can x y.1 y.2.1, fn := fun x y => ((RdKids.fn x y.1 y.2.1).1, ((RdKids.fn x y.1 y.2.1).2.1, ((RdKids.fn x y.1 y.2.1).2.2, ()))) }
theorem fnOkRdKids : FnOk Tryd.prog 50 := ⟨Tryd.f50, Tryd.func50, by kernel_rfl, by kernel_rfl⟩
noncomputable def ERdVisit (n : Nat) : Env := { P := Tryd.prog, ty := fun n => Lc.look n tyT, bytes := fun n => (Lc.look n byT).getD 0, glob := gl, con := fun f => Lc.look f (cs28), wr := [], ntm := 94, lock := [0], ptr := fun f => Lc.look f ((38, conRdVisitN n) :: (50, conRdKidsN n) :: pt28) }
noncomputable def NRdVisit : conRdVisit.t.den → Tup conRdVisit.params → Notes := fun x z => { loops := fun n => Lc.look n [], cuts := fun n => Lc.look n [], frz := fun _ => [] }
theorem tieRdVisit (n : Nat) : fnVCP (ERdVisit n) (conRdVisitN (n + 1)) NRdVisit (Tryd.f38.body.getD .skip) Tryd.f38.results.toList = RdVisit.VC n := by kernel_rfl
noncomputable def ERdKids (n : Nat) : Env := { P := Tryd.prog, ty := fun n => Lc.look n tyT, bytes := fun n => (Lc.look n byT).getD 0, glob := gl, con := fun f => Lc.look f (cs28), wr := [], ntm := 60, lock := [0], ptr := fun f => Lc.look f ((38, conRdVisitN n) :: (50, conRdKidsN n) :: pt28) }
noncomputable def NRdKids : conRdKids.t.den → Tup conRdKids.params → Notes := fun x z => { loops := fun n => Lc.look n [], cuts := fun n => Lc.look n [], frz := fun _ => [] }
theorem tieRdKids (n : Nat) : fnVCP (ERdKids n) (conRdKidsN (n + 1)) NRdKids (Tryd.f50.body.getD .skip) Tryd.f50.results.toList = RdKids.VC n := by kernel_rfl
theorem grpRd : ∀ n : Nat, SoundP Tryd.prog gl 38 (conRdVisitN n) ∧ SoundP Tryd.prog gl 50 (conRdKidsN n)
  | 0 => ⟨SoundP.void fnOkRdVisit (fun _ _ h => RdVisit.none h), SoundP.void fnOkRdKids (fun _ _ h => RdKids.none h)⟩
  | n + 1 => by
    have ih := grpRd n
    exact ⟨fnP_sound (E := (ERdVisit n)) (c := (conRdVisitN (n + 1))) (ok_of (envOk_of (E := (ERdVisit n)) rfl rfl tabOk bytOk) rfl all28 (ptr_of (SoundPAll.cons (SoundPAll.cons pall28 ih.2) ih.1))) follows (fn := Tryd.f38) Tryd.func38 (by kernel_rfl) (body := Tryd.f38.body.getD .skip) (by kernel_rfl) (by kernel_rfl) (of_decide_eq_true (by kernel_rfl)) (List.mem_singleton.2 rfl) (by kernel_rfl) (by kernel_rfl) (Eq.mpr (tieRdVisit n) (RdVisit.vc n)),
      fnP_sound (E := (ERdKids n)) (c := (conRdKidsN (n + 1))) (ok_of (envOk_of (E := (ERdKids n)) rfl rfl tabOk bytOk) rfl all28 (ptr_of (SoundPAll.cons (SoundPAll.cons pall28 ih.2) ih.1))) follows (fn := Tryd.f50) Tryd.func50 (by kernel_rfl) (body := Tryd.f50.body.getD .skip) (by kernel_rfl) (by kernel_rfl) (of_decide_eq_true (by kernel_rfl)) (List.mem_singleton.2 rfl) (by kernel_rfl) (by kernel_rfl) (Eq.mpr (tieRdKids n) (RdKids.vc n))⟩
theorem okRdVisit : SoundP Tryd.prog gl 38 conRdVisit := SoundP.ex (fun n => (grpRd n).1)
noncomputable def cs29 : List (Nat × Con) := cs28
theorem all29 : SoundAll Tryd.prog gl cs29 := all28
noncomputable def pt29 : List (Nat × ConP) := (38, conRdVisit) :: pt28
theorem pall29 : SoundPAll Tryd.prog gl pt29 := SoundPAll.cons pall28 okRdVisit
theorem okRdKids : SoundP Tryd.prog gl 50 conRdKids := SoundP.ex (fun n => (grpRd n).2)
noncomputable def cs30 : List (Nat × Con) := cs29
theorem all30 : SoundAll Tryd.prog gl cs30 := all29
noncomputable def pt30 : List (Nat × ConP) := (50, conRdKids) :: pt29
theorem pall30 : SoundPAll Tryd.prog gl pt30 := SoundPAll.cons pall29 okRdKids
noncomputable def conMExtract : Con := { params := [.pair (.int .i64) (.pair (.slc (.bool)) (.pair (.slc (.arr 32 (.int .u8))) (.unit)))], rets := [.deep (.arr 32 (.int .u8)), .deep (.slc (.pair (.int .i64) (.pair (.arr 32 (.int .u8)) (.unit)))), .deep (.int .i64)], pre := fun x => MExtract.pre x.1, fn := fun x => ((MExtract.fn x.1).1, ((MExtract.fn x.1).2.1, ((MExtract.fn x.1).2.2, ()))) }
noncomputable def EMExtract : Env := { P := Tryd.prog, ty := fun n => Lc.look n tyT, bytes := fun n => (Lc.look n byT).getD 0, glob := gl, con := fun f => Lc.look f cs30, wr := [], ntm := 59, lock := [], lkd := [(30, [([.fld 1], 100030)])], ptr := fun f => Lc.look f pt30 }
noncomputable def NMExtract : Tup conMExtract.params → Notes := fun _ => { loops := fun n => Lc.look n [], cuts := fun n => Lc.look n [], frz := fun _ => [] }
theorem tieMExtract : fnVC EMExtract conMExtract NMExtract (Tryd.f28.body.getD .skip) Tryd.f28.results.toList = MExtract.VC := by kernel_rfl
theorem okMExtract : Sound Tryd.prog gl 28 conMExtract := fn_sound (E := EMExtract) (c := conMExtract) (ok_of (envOk_of (E := EMExtract) rfl rfl tabOk bytOk) rfl all30 (ptr_of pall30)) follows (fn := Tryd.f28) Tryd.func28 (by kernel_rfl) (body := Tryd.f28.body.getD .skip) (by kernel_rfl) (by kernel_rfl) (of_decide_eq_true (by kernel_rfl)) (Eq.mpr tieMExtract MExtract.vc)
noncomputable def cs31 : List (Nat × Con) := (28, conMExtract) :: cs30
theorem all31 : SoundAll Tryd.prog gl cs31 := SoundAll.cons all30 okMExtract
noncomputable def pt31 : List (Nat × ConP) := pt30
theorem pall31 : SoundPAll Tryd.prog gl pt31 := pall30
noncomputable def conWrVisitN (n : Nat) : ConP := { t := .pair (.pair (.int .i64) (.pair (.slc (.bool)) (.pair (.slc (.arr 32 (.int .u8))) (.unit)))) (.pair (.slc (.slc (.arr 32 (.int .u8)))) (.pair (.slc (.bool)) (.unit))), ps := [([.fld 0, .fld 1], .bool, 1000), ([.fld 0, .fld 2], .arr 32 (.int .u8), 2000)], params := [.int .i64, .int .i64], rets := [], pre := fun x y => WrVisit.pre n x y.1 y.2.1, fn := fun x y => (WrVisit.fn x y.1 y.2.1, ()) }
noncomputable def conWrVisit : ConP := { t := .pair (.pair (.int .i64) (.pair (.slc (.bool)) (.pair (.slc (.arr 32 (.int .u8))) (.unit)))) (.pair (.slc (.slc (.arr 32 (.int .u8)))) (.pair (.slc (.bool)) (.unit))), ps := [([.fld 0, .fld 1], .bool, 1000), ([.fld 0, .fld 2], .arr 32 (.int .u8), 2000)], params := [.int .i64, .int .i64], rets := [], pre := fun x y => WrVisit.can x y.1 y.2.1, fn := fun x y => (WrVisit.fn x y.1 y.2.1, ()) }
theorem fnOkWrVisit : FnOk Tryd.prog 36 := ⟨Tryd.f36, Tryd.func36, by kernel_rfl, by kernel_rfl⟩
noncomputable def EWrVisit (n : Nat) : Env := { P := Tryd.prog, ty := fun n => Lc.look n tyT, bytes := fun n => (Lc.look n byT).getD 0, glob := gl, con := fun f => Lc.look f (cs31), wr := [], ntm := 95, lock := [0], ptr := fun f => Lc.look f ((36, conWrVisitN n) :: pt31) }
noncomputable def NWrVisit : conWrVisit.t.den → Tup conWrVisit.params → Notes := fun x z => { loops := fun n => Lc.look n [], cuts := fun n => Lc.look n [], frz := fun _ => [] }
theorem tieWrVisit (n : Nat) : fnVCP (EWrVisit n) (conWrVisitN (n + 1)) NWrVisit (Tryd.f36.body.getD .skip) Tryd.f36.results.toList = WrVisit.VC n := by kernel_rfl
theorem grpWr : ∀ n : Nat, SoundP Tryd.prog gl 36 (conWrVisitN n)
  | 0 => SoundP.void fnOkWrVisit (fun _ _ h => WrVisit.none h)
  | n + 1 => by
    have ih := grpWr n
    exact fnP_sound (E := (EWrVisit n)) (c := (conWrVisitN (n + 1))) (ok_of (envOk_of (E := (EWrVisit n)) rfl rfl tabOk bytOk) rfl all31 (ptr_of (SoundPAll.cons pall31 ih))) follows (fn := Tryd.f36) Tryd.func36 (by kernel_rfl) (body := Tryd.f36.body.getD .skip) (by kernel_rfl) (by kernel_rfl) (of_decide_eq_true (by kernel_rfl)) (List.mem_singleton.2 rfl) (by kernel_rfl) (by kernel_rfl) (Eq.mpr (tieWrVisit n) (WrVisit.vc n))
theorem okWrVisit : SoundP Tryd.prog gl 36 conWrVisit := SoundP.ex (fun n => (grpWr n))
noncomputable def cs32 : List (Nat × Con) := cs31
theorem all32 : SoundAll Tryd.prog gl cs32 := all31
noncomputable def pt32 : List (Nat × ConP) := (36, conWrVisit) :: pt31
theorem pall32 : SoundPAll Tryd.prog gl pt32 := SoundPAll.cons pall31 okWrVisit
noncomputable def conMPart : Con := { params := [.slc (.arr 32 (.int .u8)), .slc (.bool)], rets := [.deep (.pair (.int .i64) (.pair (.slc (.bool)) (.pair (.slc (.arr 32 (.int .u8))) (.unit)))), .deep (.int .i64)], pre := fun x => MPart.pre x.1 x.2.1, fn := fun x => ((MPart.fn x.1 x.2.1).1, ((MPart.fn x.1 x.2.1).2, ())) }
noncomputable def EMPart : Env := { P := Tryd.prog, ty := fun n => Lc.look n tyT, bytes := fun n => (Lc.look n byT).getD 0, glob := gl, con := fun f => Lc.look f cs32, wr := [], ntm := 38, lock := [], lkd := [(11, [([.fld 1], 100011), ([.fld 2], 101011)]), (16, [([.fld 1], 100016), ([.fld 2], 101016)]), (23, [([.fld 1], 100023), ([.fld 2], 101023)]), (26, [([.fld 1], 100026), ([.fld 2], 101026)]), (30, [])], ptr := fun f => Lc.look f pt32 }
noncomputable def NMPart : Tup conMPart.params → Notes := fun _ => { loops := fun n => Lc.look n [], cuts := fun n => Lc.look n [], frz := fun _ => [] }
theorem tieMPart : fnVC EMPart conMPart NMPart (Tryd.f25.body.getD .skip) Tryd.f25.results.toList = MPart.VC := by kernel_rfl
theorem okMPart : Sound Tryd.prog gl 25 conMPart := fn_sound (E := EMPart) (c := conMPart) (ok_of (envOk_of (E := EMPart) rfl rfl tabOk bytOk) rfl all32 (ptr_of pall32)) follows (fn := Tryd.f25) Tryd.func25 (by kernel_rfl) (body := Tryd.f25.body.getD .skip) (by kernel_rfl) (by kernel_rfl) (of_decide_eq_true (by kernel_rfl)) (Eq.mpr tieMPart MPart.vc)
noncomputable def cs33 : List (Nat × Con) := (25, conMPart) :: cs32
theorem all33 : SoundAll Tryd.prog gl cs33 := SoundAll.cons all32 okMPart
noncomputable def pt33 : List (Nat × ConP) := pt32
theorem pall33 : SoundPAll Tryd.prog gl pt33 := pall32
noncomputable def conMerkleCovers : Con := { params := [.slc (.arr 32 (.int .u8)), .slc (.bool)], rets := [.deep (.bool)], pre := fun x => MerkleCovers.pre x.1 x.2.1, fn := fun x => (MerkleCovers.fn x.1 x.2.1, ()) }
noncomputable def EMerkleCovers : Env := { P := Tryd.prog, ty := fun n => Lc.look n tyT, bytes := fun n => (Lc.look n byT).getD 0, glob := gl, con := fun f => Lc.look f cs33, wr := [], ntm := 91, lock := [], ptr := fun f => Lc.look f pt33 }
noncomputable def NMerkleCovers : Tup conMerkleCovers.params → Notes := fun x => { loops := fun n => Lc.look n [(13, { see := [], ann := fun _ => { frz := [], keep := [0, 9, 59], vars := [(5, .own (.bool) true), (11, .val (.int .i64)), (60, .val (.int .i64))], inv := MerkleCovers.inv13 x.1 x.2.1, mes := MerkleCovers.mes13 x.1 x.2.1 } })], cuts := fun n => Lc.look n [], frz := fun n => (Lc.look n [(7, [5])]).getD [] }
theorem tieMerkleCovers : fnVC EMerkleCovers conMerkleCovers NMerkleCovers (Tryd.f11.body.getD .skip) Tryd.f11.results.toList = MerkleCovers.VC := by kernel_rfl
theorem okMerkleCovers : Sound Tryd.prog gl 11 conMerkleCovers := fn_sound (E := EMerkleCovers) (c := conMerkleCovers) (ok_of (envOk_of (E := EMerkleCovers) rfl rfl tabOk bytOk) rfl all33 (ptr_of pall33)) follows (fn := Tryd.f11) Tryd.func11 (by kernel_rfl) (body := Tryd.f11.body.getD .skip) (by kernel_rfl) (by kernel_rfl) (of_decide_eq_true (by kernel_rfl)) (Eq.mpr tieMerkleCovers MerkleCovers.vc)
noncomputable def cs34 : List (Nat × Con) := (11, conMerkleCovers) :: cs33
theorem all34 : SoundAll Tryd.prog gl cs34 := SoundAll.cons all33 okMerkleCovers
noncomputable def pt34 : List (Nat × ConP) := pt33
theorem pall34 : SoundPAll Tryd.prog gl pt34 := pall33
end Go.Proofs.YteglngofbbpkmaaDoor
