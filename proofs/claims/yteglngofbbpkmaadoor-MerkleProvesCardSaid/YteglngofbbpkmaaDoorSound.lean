/- The ties of the functions of this seat to their conditions, and their contracts. -/
import Derived.Test.YteglngofbbpkmaaDoorChecked
import Derived.Test.YteglngofbbpkmaaDoorLaw07b
namespace Go.Proofs.YteglngofbbpkmaaDoor
open Go Lc
set_option maxRecDepth 1000000
set_option linter.unusedVariables false
noncomputable def tyT : List (Nat × Ty) := [(3, .int .i64), (4, .bool), (5, .int .u8), (22, .slc (.arr 32 (.int .u8))), (24, .arr 32 (.int .u8)), (30, .slc (.int .u8)), (34, .pair (.int .i64) (.pair (.int .i64) (.pair (.slc (.arr 32 (.int .u8))) (.unit)))), (35, .int .i64), (63, .slc (.slc (.arr 32 (.int .u8)))), (82, .int .u64), (83, .int .u32), (84, .arr 8 (.int .u32)), (86, .arr 64 (.int .u8)), (88, .int .u64), (89, .slc (.slc (.int .u8))), (96, .arr 64 (.int .u32))]
noncomputable def byT : List (Nat × Nat) := [(22, 32), (30, 1), (63, 24), (89, 24)]
theorem tabOk : tabB Tryd.prog tyT = true := by kernel_rfl
theorem bytOk : bytB Tryd.prog byT tyT = true := by kernel_rfl
noncomputable def glT : List (Nat × TV) := [(0, ⟨.arr 8 (.int .u32), ShaInitial⟩), (1, ⟨.arr 64 (.int .u32), ShaK⟩)]
noncomputable def gl : Nat → Option TV := fun n => Lc.look n glT
theorem follows : Tryd.prog.follows .mixedOrders = true := by kernel_rfl
noncomputable def cs0 : List (Nat × Con) := []
theorem all0 : SoundAll Tryd.prog gl cs0 := SoundAll.nil
noncomputable def conRotL : Con := { params := [.int .u32, .int .i64], rets := [.deep (.int .u32)], pre := fun x => RotL.pre x.1 x.2.1, fn := fun x => (RotL.fn x.1 x.2.1, ()) }
noncomputable def ERotL : Env := { P := Tryd.prog, ty := fun n => Lc.look n tyT, bytes := fun n => (Lc.look n byT).getD 0, glob := gl, con := fun f => Lc.look f cs0, wr := [], ntm := 17, lock := [] }
noncomputable def NRotL : Tup conRotL.params → Notes := fun _ => { loops := fun n => Lc.look n [], cuts := fun n => Lc.look n [], frz := fun _ => [] }
theorem tieRotL : fnVC ERotL conRotL NRotL (Tryd.f58.body.getD .skip) Tryd.f58.results.toList = RotL.VC := by kernel_rfl
theorem okRotL : Sound Tryd.prog gl 58 conRotL := fn_sound (E := ERotL) (ok_of (envOk_of (E := ERotL) rfl rfl tabOk bytOk) rfl all0) follows (fn := Tryd.f58) Tryd.func58 (by kernel_rfl) (body := Tryd.f58.body.getD .skip) (by kernel_rfl) (by kernel_rfl) (of_decide_eq_true (by kernel_rfl)) (Eq.mpr tieRotL RotL.vc)
noncomputable def cs1 : List (Nat × Con) := (58, conRotL) :: cs0
theorem all1 : SoundAll Tryd.prog gl cs1 := SoundAll.cons all0 okRotL
noncomputable def conShaRotr : Con := { params := [.int .u32, .int .i64], rets := [.deep (.int .u32)], pre := fun x => ShaRotr.pre x.1 x.2.1, fn := fun x => (ShaRotr.fn x.1 x.2.1, ()) }
noncomputable def EShaRotr : Env := { P := Tryd.prog, ty := fun n => Lc.look n tyT, bytes := fun n => (Lc.look n byT).getD 0, glob := gl, con := fun f => Lc.look f cs1, wr := [], ntm := 9, lock := [] }
noncomputable def NShaRotr : Tup conShaRotr.params → Notes := fun _ => { loops := fun n => Lc.look n [], cuts := fun n => Lc.look n [], frz := fun _ => [] }
theorem tieShaRotr : fnVC EShaRotr conShaRotr NShaRotr (Tryd.f52.body.getD .skip) Tryd.f52.results.toList = ShaRotr.VC := by kernel_rfl
theorem okShaRotr : Sound Tryd.prog gl 52 conShaRotr := fn_sound (E := EShaRotr) (ok_of (envOk_of (E := EShaRotr) rfl rfl tabOk bytOk) rfl all1) follows (fn := Tryd.f52) Tryd.func52 (by kernel_rfl) (body := Tryd.f52.body.getD .skip) (by kernel_rfl) (by kernel_rfl) (of_decide_eq_true (by kernel_rfl)) (Eq.mpr tieShaRotr ShaRotr.vc)
noncomputable def cs2 : List (Nat × Con) := (52, conShaRotr) :: cs1
theorem all2 : SoundAll Tryd.prog gl cs2 := SoundAll.cons all1 okShaRotr
noncomputable def conShaSched : Con := { params := [.arr 64 (.int .u8)], rets := [.deep (.arr 64 (.int .u32))], pre := fun x => ShaSched.pre x.1, fn := fun x => (ShaSched.fn x.1, ()) }
noncomputable def EShaSched : Env := { P := Tryd.prog, ty := fun n => Lc.look n tyT, bytes := fun n => (Lc.look n byT).getD 0, glob := gl, con := fun f => Lc.look f cs2, wr := [], ntm := 85, lock := [] }
noncomputable def NShaSched : Tup conShaSched.params → Notes := fun x => { loops := fun n => Lc.look n [(3, { see := [], ann := fun _ => { frz := [1], keep := [1], vars := [(2, .ptr (.arr 64 (.int .u32))), (3, .ptr (.arr 64 (.int .u32))), (9, .val (.int .i64))], inv := ShaSched.inv3 x.1, mes := ShaSched.mes3 x.1 } }), (6, { see := [(4, .val (.int .i64))], ann := fun y => { frz := [], keep := [1, 4, 9], vars := [(2, .ptr (.arr 64 (.int .u32))), (3, .ptr (.arr 64 (.int .u32))), (12, .val (.int .i64))], inv := ShaSched.inv6 x.1 y.1, mes := ShaSched.mes6 x.1 y.1 } }), (12, { see := [], ann := fun _ => { frz := [], keep := [], vars := [(2, .ptr (.arr 64 (.int .u32))), (3, .ptr (.arr 64 (.int .u32))), (6, .val (.int .i64))], inv := ShaSched.inv12 x.1, mes := ShaSched.mes12 x.1 } })], cuts := fun n => Lc.look n [], frz := fun _ => [] }
theorem tieShaSched : fnVC EShaSched conShaSched NShaSched (Tryd.f51.body.getD .skip) Tryd.f51.results.toList = ShaSched.VC := by kernel_rfl
theorem okShaSched : Sound Tryd.prog gl 51 conShaSched := fn_sound (E := EShaSched) (ok_of (envOk_of (E := EShaSched) rfl rfl tabOk bytOk) rfl all2) follows (fn := Tryd.f51) Tryd.func51 (by kernel_rfl) (body := Tryd.f51.body.getD .skip) (by kernel_rfl) (by kernel_rfl) (of_decide_eq_true (by kernel_rfl)) (Eq.mpr tieShaSched ShaSched.vc)
noncomputable def cs3 : List (Nat × Con) := (51, conShaSched) :: cs2
theorem all3 : SoundAll Tryd.prog gl cs3 := SoundAll.cons all2 okShaSched
noncomputable def conShaCompress : Con := { params := [.arr 8 (.int .u32), .arr 64 (.int .u8)], rets := [.deep (.arr 8 (.int .u32))], pre := fun x => ShaCompress.pre x.1 x.2.1, fn := fun x => (ShaCompress.fn x.1 x.2.1, ()) }
noncomputable def EShaCompress : Env := { P := Tryd.prog, ty := fun n => Lc.look n tyT, bytes := fun n => (Lc.look n byT).getD 0, glob := gl, con := fun f => Lc.look f cs3, wr := [], ntm := 131, lock := [] }
noncomputable def NShaCompress : Tup conShaCompress.params → Notes := fun x => { loops := fun n => Lc.look n [(5, { see := [], ann := fun _ => { frz := [2], keep := [2], vars := [(4, .ptr (.arr 8 (.int .u32))), (5, .ptr (.arr 64 (.int .u32))), (6, .val (.int .u32)), (7, .val (.int .u32)), (8, .val (.int .u32)), (9, .val (.int .u32)), (10, .val (.int .u32)), (11, .val (.int .u32)), (12, .val (.int .u32)), (13, .val (.int .u32)), (35, .val (.int .i64))], inv := ShaCompress.inv5 x.1 x.2.1, mes := ShaCompress.mes5 x.1 x.2.1 } })], cuts := fun n => Lc.look n [], frz := fun _ => [] }
theorem tieShaCompress : fnVC EShaCompress conShaCompress NShaCompress (Tryd.f43.body.getD .skip) Tryd.f43.results.toList = ShaCompress.VC := by kernel_rfl
theorem okShaCompress : Sound Tryd.prog gl 43 conShaCompress := fn_sound (E := EShaCompress) (ok_of (envOk_of (E := EShaCompress) rfl rfl tabOk bytOk) rfl all3) follows (fn := Tryd.f43) Tryd.func43 (by kernel_rfl) (body := Tryd.f43.body.getD .skip) (by kernel_rfl) (by kernel_rfl) (of_decide_eq_true (by kernel_rfl)) (Eq.mpr tieShaCompress ShaCompress.vc)
noncomputable def cs4 : List (Nat × Con) := (43, conShaCompress) :: cs3
theorem all4 : SoundAll Tryd.prog gl cs4 := SoundAll.cons all3 okShaCompress
noncomputable def conShaPad : Con := { params := [.int .u64], rets := [.own (.int .u8)], pre := fun x => ShaPad.pre x.1, fn := fun x => (ShaPad.fn x.1, ()) }
noncomputable def EShaPad : Env := { P := Tryd.prog, ty := fun n => Lc.look n tyT, bytes := fun n => (Lc.look n byT).getD 0, glob := gl, con := fun f => Lc.look f cs4, wr := [30], ntm := 33, lock := [] }
noncomputable def NShaPad : Tup conShaPad.params → Notes := fun x => { loops := fun n => Lc.look n [(5, { see := [], ann := fun _ => { frz := [], keep := [0], vars := [(4, .own (.int .u8) false), (18, .val (.int .i64))], inv := ShaPad.inv5 x.1, mes := ShaPad.mes5 x.1 } })], cuts := fun n => Lc.look n [], frz := fun _ => [] }
theorem tieShaPad : fnVC EShaPad conShaPad NShaPad (Tryd.f42.body.getD .skip) Tryd.f42.results.toList = ShaPad.VC := by kernel_rfl
theorem okShaPad : Sound Tryd.prog gl 42 conShaPad := fn_sound (E := EShaPad) (ok_of (envOk_of (E := EShaPad) rfl rfl tabOk bytOk) rfl all4) follows (fn := Tryd.f42) Tryd.func42 (by kernel_rfl) (body := Tryd.f42.body.getD .skip) (by kernel_rfl) (by kernel_rfl) (of_decide_eq_true (by kernel_rfl)) (Eq.mpr tieShaPad ShaPad.vc)
noncomputable def cs5 : List (Nat × Con) := (42, conShaPad) :: cs4
theorem all5 : SoundAll Tryd.prog gl cs5 := SoundAll.cons all4 okShaPad
noncomputable def conShaRow : Con := { params := [.slc (.slc (.int .u8))], rets := [.own (.int .u8)], pre := fun x => ShaRow.pre x.1, fn := fun x => (ShaRow.fn x.1, ()) }
noncomputable def EShaRow : Env := { P := Tryd.prog, ty := fun n => Lc.look n tyT, bytes := fun n => (Lc.look n byT).getD 0, glob := gl, con := fun f => Lc.look f cs5, wr := [], ntm := 17, lock := [] }
noncomputable def NShaRow : Tup conShaRow.params → Notes := fun x => { loops := fun n => Lc.look n [(3, { see := [], ann := fun _ => { frz := [], keep := [6, 7], vars := [(3, .own (.int .u8) true), (8, .val (.int .i64))], inv := ShaRow.inv3 x.1, mes := ShaRow.mes3 x.1 } })], cuts := fun n => Lc.look n [], frz := fun _ => [] }
theorem tieShaRow : fnVC EShaRow conShaRow NShaRow (Tryd.f41.body.getD .skip) Tryd.f41.results.toList = ShaRow.VC := by kernel_rfl
theorem okShaRow : Sound Tryd.prog gl 41 conShaRow := fn_sound (E := EShaRow) (ok_of (envOk_of (E := EShaRow) rfl rfl tabOk bytOk) rfl all5) follows (fn := Tryd.f41) Tryd.func41 (by kernel_rfl) (body := Tryd.f41.body.getD .skip) (by kernel_rfl) (by kernel_rfl) (of_decide_eq_true (by kernel_rfl)) (Eq.mpr tieShaRow ShaRow.vc)
noncomputable def cs6 : List (Nat × Con) := (41, conShaRow) :: cs5
theorem all6 : SoundAll Tryd.prog gl cs6 := SoundAll.cons all5 okShaRow
noncomputable def conShaSum : Con := { params := [.slc (.int .u8)], rets := [.deep (.arr 32 (.int .u8))], pre := fun x => ShaSum.pre x.1, fn := fun x => (ShaSum.fn x.1, ()) }
noncomputable def EShaSum : Env := { P := Tryd.prog, ty := fun n => Lc.look n tyT, bytes := fun n => (Lc.look n byT).getD 0, glob := gl, con := fun f => Lc.look f cs6, wr := [], ntm := 48, lock := [] }
noncomputable def NShaSum : Tup conShaSum.params → Notes := fun x => { loops := fun n => Lc.look n [(4, { see := [], ann := fun _ => { frz := [], keep := [3, 18], vars := [(2, .ptr (.arr 32 (.int .u8))), (4, .ptr (.arr 8 (.int .u32))), (19, .val (.int .i64))], inv := ShaSum.inv4 x.1, mes := ShaSum.mes4 x.1 } }), (10, { see := [], ann := fun _ => { frz := [], keep := [], vars := [(2, .ptr (.arr 32 (.int .u8))), (4, .ptr (.arr 8 (.int .u32))), (6, .ptr (.arr 32 (.int .u8))), (31, .val (.int .i64))], inv := ShaSum.inv10 x.1, mes := ShaSum.mes10 x.1 } })], cuts := fun n => Lc.look n [], frz := fun _ => [] }
theorem tieShaSum : fnVC EShaSum conShaSum NShaSum (Tryd.f30.body.getD .skip) Tryd.f30.results.toList = ShaSum.VC := by kernel_rfl
theorem okShaSum : Sound Tryd.prog gl 30 conShaSum := fn_sound (E := EShaSum) (ok_of (envOk_of (E := EShaSum) rfl rfl tabOk bytOk) rfl all6) follows (fn := Tryd.f30) Tryd.func30 (by kernel_rfl) (body := Tryd.f30.body.getD .skip) (by kernel_rfl) (by kernel_rfl) (of_decide_eq_true (by kernel_rfl)) (Eq.mpr tieShaSum ShaSum.vc)
noncomputable def cs7 : List (Nat × Con) := (30, conShaSum) :: cs6
theorem all7 : SoundAll Tryd.prog gl cs7 := SoundAll.cons all6 okShaSum
noncomputable def conRefRotr : Con := { params := [.int .u32, .int .i64], rets := [.deep (.int .u32)], pre := fun x => RefRotr.pre x.1 x.2.1, fn := fun x => (RefRotr.fn x.1 x.2.1, ()) }
noncomputable def ERefRotr : Env := { P := Tryd.prog, ty := fun n => Lc.look n tyT, bytes := fun n => (Lc.look n byT).getD 0, glob := gl, con := fun f => Lc.look f cs7, wr := [], ntm := 9, lock := [] }
noncomputable def NRefRotr : Tup conRefRotr.params → Notes := fun _ => { loops := fun n => Lc.look n [], cuts := fun n => Lc.look n [], frz := fun _ => [] }
theorem tieRefRotr : fnVC ERefRotr conRefRotr NRefRotr (Tryd.f55.body.getD .skip) Tryd.f55.results.toList = RefRotr.VC := by kernel_rfl
theorem okRefRotr : Sound Tryd.prog gl 55 conRefRotr := fn_sound (E := ERefRotr) (ok_of (envOk_of (E := ERefRotr) rfl rfl tabOk bytOk) rfl all7) follows (fn := Tryd.f55) Tryd.func55 (by kernel_rfl) (body := Tryd.f55.body.getD .skip) (by kernel_rfl) (by kernel_rfl) (of_decide_eq_true (by kernel_rfl)) (Eq.mpr tieRefRotr RefRotr.vc)
noncomputable def cs8 : List (Nat × Con) := (55, conRefRotr) :: cs7
theorem all8 : SoundAll Tryd.prog gl cs8 := SoundAll.cons all7 okRefRotr
noncomputable def conRefConsts : Con := { params := [], rets := [.deep (.arr 64 (.int .u32))], pre := fun _ => RefConsts.pre, fn := fun _ => (RefConsts.fn, ()) }
noncomputable def ERefConsts : Env := { P := Tryd.prog, ty := fun n => Lc.look n tyT, bytes := fun n => (Lc.look n byT).getD 0, glob := gl, con := fun f => Lc.look f cs8, wr := [], ntm := 2, lock := [] }
noncomputable def NRefConsts : Tup conRefConsts.params → Notes := fun _ => { loops := fun n => Lc.look n [], cuts := fun n => Lc.look n [], frz := fun _ => [] }
theorem tieRefConsts : fnVC ERefConsts conRefConsts NRefConsts (Tryd.f54.body.getD .skip) Tryd.f54.results.toList = RefConsts.VC := by kernel_rfl
theorem okRefConsts : Sound Tryd.prog gl 54 conRefConsts := fn_sound (E := ERefConsts) (ok_of (envOk_of (E := ERefConsts) rfl rfl tabOk bytOk) rfl all8) follows (fn := Tryd.f54) Tryd.func54 (by kernel_rfl) (body := Tryd.f54.body.getD .skip) (by kernel_rfl) (by kernel_rfl) (of_decide_eq_true (by kernel_rfl)) (Eq.mpr tieRefConsts RefConsts.vc)
noncomputable def cs9 : List (Nat × Con) := (54, conRefConsts) :: cs8
theorem all9 : SoundAll Tryd.prog gl cs9 := SoundAll.cons all8 okRefConsts
noncomputable def conRefInitial : Con := { params := [], rets := [.deep (.arr 8 (.int .u32))], pre := fun _ => RefInitial.pre, fn := fun _ => (RefInitial.fn, ()) }
noncomputable def ERefInitial : Env := { P := Tryd.prog, ty := fun n => Lc.look n tyT, bytes := fun n => (Lc.look n byT).getD 0, glob := gl, con := fun f => Lc.look f cs9, wr := [], ntm := 2, lock := [] }
noncomputable def NRefInitial : Tup conRefInitial.params → Notes := fun _ => { loops := fun n => Lc.look n [], cuts := fun n => Lc.look n [], frz := fun _ => [] }
theorem tieRefInitial : fnVC ERefInitial conRefInitial NRefInitial (Tryd.f45.body.getD .skip) Tryd.f45.results.toList = RefInitial.VC := by kernel_rfl
theorem okRefInitial : Sound Tryd.prog gl 45 conRefInitial := fn_sound (E := ERefInitial) (ok_of (envOk_of (E := ERefInitial) rfl rfl tabOk bytOk) rfl all9) follows (fn := Tryd.f45) Tryd.func45 (by kernel_rfl) (body := Tryd.f45.body.getD .skip) (by kernel_rfl) (by kernel_rfl) (of_decide_eq_true (by kernel_rfl)) (Eq.mpr tieRefInitial RefInitial.vc)
noncomputable def cs10 : List (Nat × Con) := (45, conRefInitial) :: cs9
theorem all10 : SoundAll Tryd.prog gl cs10 := SoundAll.cons all9 okRefInitial
noncomputable def conRefSched : Con := { params := [.arr 64 (.int .u8)], rets := [.deep (.arr 64 (.int .u32))], pre := fun x => RefSched.pre x.1, fn := fun x => (RefSched.fn x.1, ()) }
noncomputable def ERefSched : Env := { P := Tryd.prog, ty := fun n => Lc.look n tyT, bytes := fun n => (Lc.look n byT).getD 0, glob := gl, con := fun f => Lc.look f cs10, wr := [], ntm := 97, lock := [] }
noncomputable def NRefSched : Tup conRefSched.params → Notes := fun x => { loops := fun n => Lc.look n [(3, { see := [], ann := fun _ => { frz := [1], keep := [1], vars := [(2, .ptr (.arr 64 (.int .u32))), (3, .ptr (.arr 64 (.int .u32))), (4, .val (.int .i64))], inv := RefSched.inv3 x.1, mes := RefSched.mes3 x.1 } }), (7, { see := [], ann := fun _ => { frz := [], keep := [], vars := [(2, .ptr (.arr 64 (.int .u32))), (3, .ptr (.arr 64 (.int .u32))), (5, .val (.int .i64))], inv := RefSched.inv7 x.1, mes := RefSched.mes7 x.1 } })], cuts := fun n => Lc.look n [], frz := fun _ => [] }
theorem tieRefSched : fnVC ERefSched conRefSched NRefSched (Tryd.f53.body.getD .skip) Tryd.f53.results.toList = RefSched.VC := by kernel_rfl
theorem okRefSched : Sound Tryd.prog gl 53 conRefSched := fn_sound (E := ERefSched) (ok_of (envOk_of (E := ERefSched) rfl rfl tabOk bytOk) rfl all10) follows (fn := Tryd.f53) Tryd.func53 (by kernel_rfl) (body := Tryd.f53.body.getD .skip) (by kernel_rfl) (by kernel_rfl) (of_decide_eq_true (by kernel_rfl)) (Eq.mpr tieRefSched RefSched.vc)
noncomputable def cs11 : List (Nat × Con) := (53, conRefSched) :: cs10
theorem all11 : SoundAll Tryd.prog gl cs11 := SoundAll.cons all10 okRefSched
noncomputable def conRefCompress : Con := { params := [.arr 8 (.int .u32), .arr 64 (.int .u8)], rets := [.deep (.arr 8 (.int .u32))], pre := fun x => RefCompress.pre x.1 x.2.1, fn := fun x => (RefCompress.fn x.1 x.2.1, ()) }
noncomputable def ERefCompress : Env := { P := Tryd.prog, ty := fun n => Lc.look n tyT, bytes := fun n => (Lc.look n byT).getD 0, glob := gl, con := fun f => Lc.look f cs11, wr := [], ntm := 133, lock := [] }
noncomputable def NRefCompress : Tup conRefCompress.params → Notes := fun x => { loops := fun n => Lc.look n [(4, { see := [], ann := fun _ => { frz := [2], keep := [2], vars := [(4, .ptr (.arr 8 (.int .u32))), (5, .ptr (.arr 64 (.int .u32))), (6, .ptr (.arr 64 (.int .u32))), (7, .val (.int .u32)), (8, .val (.int .u32)), (9, .val (.int .u32)), (10, .val (.int .u32)), (11, .val (.int .u32)), (12, .val (.int .u32)), (13, .val (.int .u32)), (14, .val (.int .u32)), (15, .val (.int .i64))], inv := RefCompress.inv4 x.1 x.2.1, mes := RefCompress.mes4 x.1 x.2.1 } })], cuts := fun n => Lc.look n [], frz := fun _ => [] }
theorem tieRefCompress : fnVC ERefCompress conRefCompress NRefCompress (Tryd.f46.body.getD .skip) Tryd.f46.results.toList = RefCompress.VC := by kernel_rfl
theorem okRefCompress : Sound Tryd.prog gl 46 conRefCompress := fn_sound (E := ERefCompress) (ok_of (envOk_of (E := ERefCompress) rfl rfl tabOk bytOk) rfl all11) follows (fn := Tryd.f46) Tryd.func46 (by kernel_rfl) (body := Tryd.f46.body.getD .skip) (by kernel_rfl) (by kernel_rfl) (of_decide_eq_true (by kernel_rfl)) (Eq.mpr tieRefCompress RefCompress.vc)
noncomputable def cs12 : List (Nat × Con) := (46, conRefCompress) :: cs11
theorem all12 : SoundAll Tryd.prog gl cs12 := SoundAll.cons all11 okRefCompress
noncomputable def conRefPad : Con := { params := [.int .u64], rets := [.own (.int .u8)], pre := fun x => RefPad.pre x.1, fn := fun x => (RefPad.fn x.1, ()) }
noncomputable def ERefPad : Env := { P := Tryd.prog, ty := fun n => Lc.look n tyT, bytes := fun n => (Lc.look n byT).getD 0, glob := gl, con := fun f => Lc.look f cs12, wr := [], ntm := 31, lock := [] }
noncomputable def NRefPad : Tup conRefPad.params → Notes := fun x => { loops := fun n => Lc.look n [(2, { see := [], ann := fun _ => { frz := [], keep := [0], vars := [(3, .own (.int .u8) true)], inv := RefPad.inv2 x.1, mes := RefPad.mes2 x.1 } }), (5, { see := [], ann := fun _ => { frz := [], keep := [0], vars := [(3, .own (.int .u8) true), (4, .val (.int .i64))], inv := RefPad.inv5 x.1, mes := RefPad.mes5 x.1 } })], cuts := fun n => Lc.look n [], frz := fun _ => [] }
theorem tieRefPad : fnVC ERefPad conRefPad NRefPad (Tryd.f44.body.getD .skip) Tryd.f44.results.toList = RefPad.VC := by kernel_rfl
theorem okRefPad : Sound Tryd.prog gl 44 conRefPad := fn_sound (E := ERefPad) (ok_of (envOk_of (E := ERefPad) rfl rfl tabOk bytOk) rfl all12) follows (fn := Tryd.f44) Tryd.func44 (by kernel_rfl) (body := Tryd.f44.body.getD .skip) (by kernel_rfl) (by kernel_rfl) (of_decide_eq_true (by kernel_rfl)) (Eq.mpr tieRefPad RefPad.vc)
noncomputable def cs13 : List (Nat × Con) := (44, conRefPad) :: cs12
theorem all13 : SoundAll Tryd.prog gl cs13 := SoundAll.cons all12 okRefPad
noncomputable def conRefSum : Con := { params := [.slc (.int .u8)], rets := [.deep (.arr 32 (.int .u8))], pre := fun x => RefSum.pre x.1, fn := fun x => (RefSum.fn x.1, ()) }
noncomputable def ERefSum : Env := { P := Tryd.prog, ty := fun n => Lc.look n tyT, bytes := fun n => (Lc.look n byT).getD 0, glob := gl, con := fun f => Lc.look f cs13, wr := [], ntm := 66, lock := [] }
noncomputable def NRefSum : Tup conRefSum.params → Notes := fun x => { loops := fun n => Lc.look n [(4, { see := [], ann := fun _ => { frz := [], keep := [3], vars := [(2, .ptr (.arr 32 (.int .u8))), (4, .ptr (.arr 8 (.int .u32))), (5, .val (.int .i64))], inv := RefSum.inv4 x.1, mes := RefSum.mes4 x.1 } }), (11, { see := [(33, .val (.arr 8 (.int .u32)))], ann := fun y => { frz := [], keep := [33], vars := [(2, .ptr (.arr 32 (.int .u8))), (7, .ptr (.arr 32 (.int .u8))), (34, .val (.int .i64))], inv := RefSum.inv11 x.1 y.1, mes := RefSum.mes11 x.1 y.1 } })], cuts := fun n => Lc.look n [], frz := fun _ => [] }
theorem tieRefSum : fnVC ERefSum conRefSum NRefSum (Tryd.f31.body.getD .skip) Tryd.f31.results.toList = RefSum.VC := by kernel_rfl
theorem okRefSum : Sound Tryd.prog gl 31 conRefSum := fn_sound (E := ERefSum) (ok_of (envOk_of (E := ERefSum) rfl rfl tabOk bytOk) rfl all13) follows (fn := Tryd.f31) Tryd.func31 (by kernel_rfl) (body := Tryd.f31.body.getD .skip) (by kernel_rfl) (by kernel_rfl) (of_decide_eq_true (by kernel_rfl)) (Eq.mpr tieRefSum RefSum.vc)
noncomputable def cs14 : List (Nat × Con) := (31, conRefSum) :: cs13
theorem all14 : SoundAll Tryd.prog gl cs14 := SoundAll.cons all13 okRefSum
noncomputable def conMNode : Con := { params := [.arr 32 (.int .u8), .arr 32 (.int .u8)], rets := [.deep (.arr 32 (.int .u8))], pre := fun x => MNode.pre x.1 x.2.1, fn := fun x => (MNode.fn x.1 x.2.1, ()) }
noncomputable def EMNode : Env := { P := Tryd.prog, ty := fun n => Lc.look n tyT, bytes := fun n => (Lc.look n byT).getD 0, glob := gl, con := fun f => Lc.look f cs14, wr := [], ntm := 15, lock := [] }
noncomputable def NMNode : Tup conMNode.params → Notes := fun _ => { loops := fun n => Lc.look n [], cuts := fun n => Lc.look n [], frz := fun _ => [] }
theorem tieMNode : fnVC EMNode conMNode NMNode (Tryd.f14.body.getD .skip) Tryd.f14.results.toList = MNode.VC := by kernel_rfl
theorem okMNode : Sound Tryd.prog gl 14 conMNode := fn_sound (E := EMNode) (ok_of (envOk_of (E := EMNode) rfl rfl tabOk bytOk) rfl all14) follows (fn := Tryd.f14) Tryd.func14 (by kernel_rfl) (body := Tryd.f14.body.getD .skip) (by kernel_rfl) (by kernel_rfl) (of_decide_eq_true (by kernel_rfl)) (Eq.mpr tieMNode MNode.vc)
noncomputable def cs15 : List (Nat × Con) := (14, conMNode) :: cs14
theorem all15 : SoundAll Tryd.prog gl cs15 := SoundAll.cons all14 okMNode
noncomputable def conJoined : Con := { params := [.slc (.int .u8), .slc (.int .u8)], rets := [.own (.int .u8)], pre := fun x => Joined.pre x.1 x.2.1, fn := fun x => (Joined.fn x.1 x.2.1, ()) }
noncomputable def EJoined : Env := { P := Tryd.prog, ty := fun n => Lc.look n tyT, bytes := fun n => (Lc.look n byT).getD 0, glob := gl, con := fun f => Lc.look f cs15, wr := [], ntm := 17, lock := [] }
noncomputable def NJoined : Tup conJoined.params → Notes := fun _ => { loops := fun n => Lc.look n [], cuts := fun n => Lc.look n [], frz := fun _ => [] }
theorem tieJoined : fnVC EJoined conJoined NJoined (Tryd.f47.body.getD .skip) Tryd.f47.results.toList = Joined.VC := by kernel_rfl
theorem okJoined : Sound Tryd.prog gl 47 conJoined := fn_sound (E := EJoined) (ok_of (envOk_of (E := EJoined) rfl rfl tabOk bytOk) rfl all15) follows (fn := Tryd.f47) Tryd.func47 (by kernel_rfl) (body := Tryd.f47.body.getD .skip) (by kernel_rfl) (by kernel_rfl) (of_decide_eq_true (by kernel_rfl)) (Eq.mpr tieJoined Joined.vc)
noncomputable def cs16 : List (Nat × Con) := (47, conJoined) :: cs15
theorem all16 : SoundAll Tryd.prog gl cs16 := SoundAll.cons all15 okJoined
noncomputable def conJoin : Con := { params := [.slc (.slc (.int .u8))], rets := [.deep (.slc (.int .u8))], pre := fun x => Join.pre x.1, fn := fun x => (Join.fn x.1, ()) }
noncomputable def EJoin : Env := { P := Tryd.prog, ty := fun n => Lc.look n tyT, bytes := fun n => (Lc.look n byT).getD 0, glob := gl, con := fun f => Lc.look f cs16, wr := [], ntm := 17, lock := [] }
noncomputable def NJoin : Tup conJoin.params → Notes := fun x => { loops := fun n => Lc.look n [(3, { see := [], ann := fun _ => { frz := [], keep := [6, 7], vars := [(3, .own (.int .u8) true), (8, .val (.int .i64))], inv := Join.inv3 x.1, mes := Join.mes3 x.1 } })], cuts := fun n => Lc.look n [], frz := fun _ => [] }
theorem tieJoin : fnVC EJoin conJoin NJoin (Tryd.f32.body.getD .skip) Tryd.f32.results.toList = Join.VC := by kernel_rfl
theorem okJoin : Sound Tryd.prog gl 32 conJoin := fn_sound (E := EJoin) (ok_of (envOk_of (E := EJoin) rfl rfl tabOk bytOk) rfl all16) follows (fn := Tryd.f32) Tryd.func32 (by kernel_rfl) (body := Tryd.f32.body.getD .skip) (by kernel_rfl) (by kernel_rfl) (of_decide_eq_true (by kernel_rfl)) (Eq.mpr tieJoin Join.vc)
noncomputable def cs17 : List (Nat × Con) := (32, conJoin) :: cs16
theorem all17 : SoundAll Tryd.prog gl cs17 := SoundAll.cons all16 okJoin
noncomputable def conRNode : Con := { params := [.arr 32 (.int .u8), .arr 32 (.int .u8)], rets := [.deep (.arr 32 (.int .u8))], pre := fun x => RNode.pre x.1 x.2.1, fn := fun x => (RNode.fn x.1 x.2.1, ()) }
noncomputable def ERNode : Env := { P := Tryd.prog, ty := fun n => Lc.look n tyT, bytes := fun n => (Lc.look n byT).getD 0, glob := gl, con := fun f => Lc.look f cs17, wr := [], ntm := 11, lock := [] }
noncomputable def NRNode : Tup conRNode.params → Notes := fun _ => { loops := fun n => Lc.look n [], cuts := fun n => Lc.look n [], frz := fun n => (Lc.look n [(1, [2, 3])]).getD [] }
theorem tieRNode : fnVC ERNode conRNode NRNode (Tryd.f15.body.getD .skip) Tryd.f15.results.toList = RNode.VC := by kernel_rfl
theorem okRNode : Sound Tryd.prog gl 15 conRNode := fn_sound (E := ERNode) (ok_of (envOk_of (E := ERNode) rfl rfl tabOk bytOk) rfl all17) follows (fn := Tryd.f15) Tryd.func15 (by kernel_rfl) (body := Tryd.f15.body.getD .skip) (by kernel_rfl) (by kernel_rfl) (of_decide_eq_true (by kernel_rfl)) (Eq.mpr tieRNode RNode.vc)
noncomputable def cs18 : List (Nat × Con) := (15, conRNode) :: cs17
theorem all18 : SoundAll Tryd.prog gl cs18 := SoundAll.cons all17 okRNode
noncomputable def conMLevels : Con := { params := [.slc (.arr 32 (.int .u8))], rets := [.deep (.slc (.slc (.arr 32 (.int .u8))))], pre := fun x => MLevels.pre x.1, fn := fun x => (MLevels.fn x.1, ()) }
noncomputable def EMLevels : Env := { P := Tryd.prog, ty := fun n => Lc.look n tyT, bytes := fun n => (Lc.look n byT).getD 0, glob := gl, con := fun f => Lc.look f cs18, wr := [], ntm := 48, lock := [] }
noncomputable def NMLevels : Tup conMLevels.params → Notes := fun x => { loops := fun n => Lc.look n [(2, { see := [], ann := fun _ => { frz := [], keep := [], vars := [(0, .val (.slc (.arr 32 (.int .u8)))), (3, .own (.slc (.arr 32 (.int .u8))) true)], inv := MLevels.inv2 x.1, mes := MLevels.mes2 x.1 } }), (5, { see := [(0, .val (.slc (.arr 32 (.int .u8))))], ann := fun y => { frz := [], keep := [0], vars := [(3, .own (.slc (.arr 32 (.int .u8))) true), (4, .own (.arr 32 (.int .u8)) true), (5, .val (.int .i64))], inv := MLevels.inv5 x.1 y.1, mes := MLevels.mes5 x.1 y.1 } })], cuts := fun n => Lc.look n [], frz := fun _ => [] }
theorem tieMLevels : fnVC EMLevels conMLevels NMLevels (Tryd.f33.body.getD .skip) Tryd.f33.results.toList = MLevels.VC := by kernel_rfl
theorem okMLevels : Sound Tryd.prog gl 33 conMLevels := fn_sound (E := EMLevels) (ok_of (envOk_of (E := EMLevels) rfl rfl tabOk bytOk) rfl all18) follows (fn := Tryd.f33) Tryd.func33 (by kernel_rfl) (body := Tryd.f33.body.getD .skip) (by kernel_rfl) (by kernel_rfl) (of_decide_eq_true (by kernel_rfl)) (Eq.mpr tieMLevels MLevels.vc)
noncomputable def cs19 : List (Nat × Con) := (33, conMLevels) :: cs18
theorem all19 : SoundAll Tryd.prog gl cs19 := SoundAll.cons all18 okMLevels
noncomputable def conRLevels : Con := { params := [.slc (.arr 32 (.int .u8))], rets := [.deep (.slc (.slc (.arr 32 (.int .u8))))], pre := fun x => RLevels.pre x.1, fn := fun x => (RLevels.fn x.1, ()) }
noncomputable def ERLevels : Env := { P := Tryd.prog, ty := fun n => Lc.look n tyT, bytes := fun n => (Lc.look n byT).getD 0, glob := gl, con := fun f => Lc.look f cs19, wr := [], ntm := 48, lock := [] }
noncomputable def NRLevels : Tup conRLevels.params → Notes := fun x => { loops := fun n => Lc.look n [(2, { see := [], ann := fun _ => { frz := [], keep := [], vars := [(0, .val (.slc (.arr 32 (.int .u8)))), (3, .own (.slc (.arr 32 (.int .u8))) true)], inv := RLevels.inv2 x.1, mes := RLevels.mes2 x.1 } }), (5, { see := [(0, .val (.slc (.arr 32 (.int .u8))))], ann := fun y => { frz := [], keep := [0], vars := [(3, .own (.slc (.arr 32 (.int .u8))) true), (4, .own (.arr 32 (.int .u8)) true), (5, .val (.int .i64))], inv := RLevels.inv5 x.1 y.1, mes := RLevels.mes5 x.1 y.1 } })], cuts := fun n => Lc.look n [], frz := fun _ => [] }
theorem tieRLevels : fnVC ERLevels conRLevels NRLevels (Tryd.f34.body.getD .skip) Tryd.f34.results.toList = RLevels.VC := by kernel_rfl
theorem okRLevels : Sound Tryd.prog gl 34 conRLevels := fn_sound (E := ERLevels) (ok_of (envOk_of (E := ERLevels) rfl rfl tabOk bytOk) rfl all19) follows (fn := Tryd.f34) Tryd.func34 (by kernel_rfl) (body := Tryd.f34.body.getD .skip) (by kernel_rfl) (by kernel_rfl) (of_decide_eq_true (by kernel_rfl)) (Eq.mpr tieRLevels RLevels.vc)
noncomputable def cs20 : List (Nat × Con) := (34, conRLevels) :: cs19
theorem all20 : SoundAll Tryd.prog gl cs20 := SoundAll.cons all19 okRLevels
noncomputable def conMRoot : Con := { params := [.slc (.arr 32 (.int .u8))], rets := [.deep (.arr 32 (.int .u8))], pre := fun x => MRoot.pre x.1, fn := fun x => (MRoot.fn x.1, ()) }
noncomputable def EMRoot : Env := { P := Tryd.prog, ty := fun n => Lc.look n tyT, bytes := fun n => (Lc.look n byT).getD 0, glob := gl, con := fun f => Lc.look f cs20, wr := [], ntm := 23, lock := [] }
noncomputable def NMRoot : Tup conMRoot.params → Notes := fun _ => { loops := fun n => Lc.look n [], cuts := fun n => Lc.look n [], frz := fun _ => [] }
theorem tieMRoot : fnVC EMRoot conMRoot NMRoot (Tryd.f16.body.getD .skip) Tryd.f16.results.toList = MRoot.VC := by kernel_rfl
theorem okMRoot : Sound Tryd.prog gl 16 conMRoot := fn_sound (E := EMRoot) (ok_of (envOk_of (E := EMRoot) rfl rfl tabOk bytOk) rfl all20) follows (fn := Tryd.f16) Tryd.func16 (by kernel_rfl) (body := Tryd.f16.body.getD .skip) (by kernel_rfl) (by kernel_rfl) (of_decide_eq_true (by kernel_rfl)) (Eq.mpr tieMRoot MRoot.vc)
noncomputable def cs21 : List (Nat × Con) := (16, conMRoot) :: cs20
theorem all21 : SoundAll Tryd.prog gl cs21 := SoundAll.cons all20 okMRoot
noncomputable def conRRoot : Con := { params := [.slc (.arr 32 (.int .u8))], rets := [.deep (.arr 32 (.int .u8))], pre := fun x => RRoot.pre x.1, fn := fun x => (RRoot.fn x.1, ()) }
noncomputable def ERRoot : Env := { P := Tryd.prog, ty := fun n => Lc.look n tyT, bytes := fun n => (Lc.look n byT).getD 0, glob := gl, con := fun f => Lc.look f cs21, wr := [], ntm := 23, lock := [] }
noncomputable def NRRoot : Tup conRRoot.params → Notes := fun _ => { loops := fun n => Lc.look n [], cuts := fun n => Lc.look n [], frz := fun _ => [] }
theorem tieRRoot : fnVC ERRoot conRRoot NRRoot (Tryd.f17.body.getD .skip) Tryd.f17.results.toList = RRoot.VC := by kernel_rfl
theorem okRRoot : Sound Tryd.prog gl 17 conRRoot := fn_sound (E := ERRoot) (ok_of (envOk_of (E := ERRoot) rfl rfl tabOk bytOk) rfl all21) follows (fn := Tryd.f17) Tryd.func17 (by kernel_rfl) (body := Tryd.f17.body.getD .skip) (by kernel_rfl) (by kernel_rfl) (of_decide_eq_true (by kernel_rfl)) (Eq.mpr tieRRoot RRoot.vc)
noncomputable def cs22 : List (Nat × Con) := (17, conRRoot) :: cs21
theorem all22 : SoundAll Tryd.prog gl cs22 := SoundAll.cons all21 okRRoot
noncomputable def conMOthers : Con := { params := [.int .i64, .int .i64], rets := [.deep (.int .i64)], pre := fun x => MOthers.pre x.1 x.2.1, fn := fun x => (MOthers.fn x.1 x.2.1, ()) }
noncomputable def EMOthers : Env := { P := Tryd.prog, ty := fun n => Lc.look n tyT, bytes := fun n => (Lc.look n byT).getD 0, glob := gl, con := fun f => Lc.look f cs22, wr := [], ntm := 20, lock := [] }
noncomputable def NMOthers : Tup conMOthers.params → Notes := fun x => { loops := fun n => Lc.look n [(2, { see := [], ann := fun _ => { frz := [], keep := [], vars := [(0, .val (.int .i64)), (1, .val (.int .i64)), (5, .val (.int .i64))], inv := MOthers.inv2 x.1 x.2.1, mes := MOthers.mes2 x.1 x.2.1 } })], cuts := fun n => Lc.look n [], frz := fun _ => [] }
theorem tieMOthers : fnVC EMOthers conMOthers NMOthers (Tryd.f35.body.getD .skip) Tryd.f35.results.toList = MOthers.VC := by kernel_rfl
theorem okMOthers : Sound Tryd.prog gl 35 conMOthers := fn_sound (E := EMOthers) (ok_of (envOk_of (E := EMOthers) rfl rfl tabOk bytOk) rfl all22) follows (fn := Tryd.f35) Tryd.func35 (by kernel_rfl) (body := Tryd.f35.body.getD .skip) (by kernel_rfl) (by kernel_rfl) (of_decide_eq_true (by kernel_rfl)) (Eq.mpr tieMOthers MOthers.vc)
noncomputable def cs23 : List (Nat × Con) := (35, conMOthers) :: cs22
theorem all23 : SoundAll Tryd.prog gl cs23 := SoundAll.cons all22 okMOthers
noncomputable def conMFollow : Con := { params := [.pair (.int .i64) (.pair (.int .i64) (.pair (.slc (.arr 32 (.int .u8))) (.unit))), .arr 32 (.int .u8)], rets := [.deep (.arr 32 (.int .u8)), .deep (.int .i64)], pre := fun x => MFollow.pre x.1 x.2.1, fn := fun x => ((MFollow.fn x.1 x.2.1).1, ((MFollow.fn x.1 x.2.1).2, ())) }
noncomputable def EMFollow : Env := { P := Tryd.prog, ty := fun n => Lc.look n tyT, bytes := fun n => (Lc.look n byT).getD 0, glob := gl, con := fun f => Lc.look f cs23, wr := [], ntm := 79, lock := [] }
noncomputable def NMFollow : Tup conMFollow.params → Notes := fun x => { loops := fun n => Lc.look n [(7, { see := [], ann := fun _ => { frz := [], keep := [], vars := [(4, .ptr (.arr 32 (.int .u8))), (6, .ptr (.arr 32 (.int .u8))), (7, .val (.int .i64)), (8, .val (.slc (.arr 32 (.int .u8)))), (9, .val (.int .i64))], inv := MFollow.inv7 x.1 x.2.1, mes := MFollow.mes7 x.1 x.2.1 } })], cuts := fun n => Lc.look n [], frz := fun _ => [] }
theorem tieMFollow : fnVC EMFollow conMFollow NMFollow (Tryd.f22.body.getD .skip) Tryd.f22.results.toList = MFollow.VC := by kernel_rfl
theorem okMFollow : Sound Tryd.prog gl 22 conMFollow := fn_sound (E := EMFollow) (ok_of (envOk_of (E := EMFollow) rfl rfl tabOk bytOk) rfl all23) follows (fn := Tryd.f22) Tryd.func22 (by kernel_rfl) (body := Tryd.f22.body.getD .skip) (by kernel_rfl) (by kernel_rfl) (of_decide_eq_true (by kernel_rfl)) (Eq.mpr tieMFollow MFollow.vc)
noncomputable def cs24 : List (Nat × Con) := (22, conMFollow) :: cs23
theorem all24 : SoundAll Tryd.prog gl cs24 := SoundAll.cons all23 okMFollow
noncomputable def conRFollow : Con := { params := [.pair (.int .i64) (.pair (.int .i64) (.pair (.slc (.arr 32 (.int .u8))) (.unit))), .arr 32 (.int .u8)], rets := [.deep (.arr 32 (.int .u8)), .deep (.int .i64)], pre := fun x => RFollow.pre x.1 x.2.1, fn := fun x => ((RFollow.fn x.1 x.2.1).1, ((RFollow.fn x.1 x.2.1).2, ())) }
noncomputable def ERFollow : Env := { P := Tryd.prog, ty := fun n => Lc.look n tyT, bytes := fun n => (Lc.look n byT).getD 0, glob := gl, con := fun f => Lc.look f cs24, wr := [], ntm := 81, lock := [] }
noncomputable def NRFollow : Tup conRFollow.params → Notes := fun x => { loops := fun n => Lc.look n [(5, { see := [], ann := fun _ => { frz := [2], keep := [2], vars := [(4, .ptr (.arr 32 (.int .u8))), (6, .ptr (.arr 32 (.int .u8))), (7, .val (.int .i64)), (8, .val (.int .i64)), (9, .val (.int .i64))], inv := RFollow.inv5 x.1 x.2.1, mes := RFollow.mes5 x.1 x.2.1 } })], cuts := fun n => Lc.look n [], frz := fun _ => [] }
theorem tieRFollow : fnVC ERFollow conRFollow NRFollow (Tryd.f23.body.getD .skip) Tryd.f23.results.toList = RFollow.VC := by kernel_rfl
theorem okRFollow : Sound Tryd.prog gl 23 conRFollow := fn_sound (E := ERFollow) (ok_of (envOk_of (E := ERFollow) rfl rfl tabOk bytOk) rfl all24) follows (fn := Tryd.f23) Tryd.func23 (by kernel_rfl) (body := Tryd.f23.body.getD .skip) (by kernel_rfl) (by kernel_rfl) (of_decide_eq_true (by kernel_rfl)) (Eq.mpr tieRFollow RFollow.vc)
noncomputable def cs25 : List (Nat × Con) := (23, conRFollow) :: cs24
theorem all25 : SoundAll Tryd.prog gl cs25 := SoundAll.cons all24 okRFollow
noncomputable def conKept : Con := { params := [.slc (.arr 32 (.int .u8))], rets := [.deep (.bool)], pre := fun x => Kept.pre x.1, fn := fun x => (Kept.fn x.1, ()) }
noncomputable def EKept : Env := { P := Tryd.prog, ty := fun n => Lc.look n tyT, bytes := fun n => (Lc.look n byT).getD 0, glob := gl, con := fun f => Lc.look f cs25, wr := [], ntm := 6, lock := [] }
noncomputable def NKept : Tup conKept.params → Notes := fun _ => { loops := fun n => Lc.look n [], cuts := fun n => Lc.look n [], frz := fun _ => [] }
theorem tieKept : fnVC EKept conKept NKept (Tryd.f13.body.getD .skip) Tryd.f13.results.toList = Kept.VC := by kernel_rfl
theorem okKept : Sound Tryd.prog gl 13 conKept := fn_sound (E := EKept) (ok_of (envOk_of (E := EKept) rfl rfl tabOk bytOk) rfl all25) follows (fn := Tryd.f13) Tryd.func13 (by kernel_rfl) (body := Tryd.f13.body.getD .skip) (by kernel_rfl) (by kernel_rfl) (of_decide_eq_true (by kernel_rfl)) (Eq.mpr tieKept Kept.vc)
noncomputable def cs26 : List (Nat × Con) := (13, conKept) :: cs25
theorem all26 : SoundAll Tryd.prog gl cs26 := SoundAll.cons all25 okKept
noncomputable def conMSane : Con := { params := [], rets := [.deep (.bool)], pre := fun _ => MSane.pre, fn := fun _ => (MSane.fn, ()) }
noncomputable def EMSane : Env := { P := Tryd.prog, ty := fun n => Lc.look n tyT, bytes := fun n => (Lc.look n byT).getD 0, glob := gl, con := fun f => Lc.look f cs26, wr := [], ntm := 34, lock := [] }
noncomputable def NMSane : Tup conMSane.params → Notes := fun _ => { loops := fun n => Lc.look n [], cuts := fun n => Lc.look n [], frz := fun _ => [] }
theorem tieMSane : fnVC EMSane conMSane NMSane (Tryd.f12.body.getD .skip) Tryd.f12.results.toList = MSane.VC := by kernel_rfl
theorem okMSane : Sound Tryd.prog gl 12 conMSane := fn_sound (E := EMSane) (ok_of (envOk_of (E := EMSane) rfl rfl tabOk bytOk) rfl all26) follows (fn := Tryd.f12) Tryd.func12 (by kernel_rfl) (body := Tryd.f12.body.getD .skip) (by kernel_rfl) (by kernel_rfl) (of_decide_eq_true (by kernel_rfl)) (Eq.mpr tieMSane MSane.vc)
noncomputable def cs27 : List (Nat × Con) := (12, conMSane) :: cs26
theorem all27 : SoundAll Tryd.prog gl cs27 := SoundAll.cons all26 okMSane
noncomputable def conMPath : Con := { params := [.slc (.arr 32 (.int .u8)), .int .i64], rets := [.deep (.pair (.int .i64) (.pair (.int .i64) (.pair (.slc (.arr 32 (.int .u8))) (.unit)))), .deep (.int .i64)], pre := fun x => MPath.pre x.1 x.2.1, fn := fun x => ((MPath.fn x.1 x.2.1).1, ((MPath.fn x.1 x.2.1).2, ())) }
noncomputable def EMPath : Env := { P := Tryd.prog, ty := fun n => Lc.look n tyT, bytes := fun n => (Lc.look n byT).getD 0, glob := gl, con := fun f => Lc.look f cs27, wr := [], ntm := 59, lock := [], lkd := [(14, [([.fld 2], 100014)]), (23, [([.fld 2], 100023)]), (27, [([.fld 2], 100027)])] }
noncomputable def NMPath : Tup conMPath.params → Notes := fun x => { loops := fun n => Lc.look n [(8, { see := [], ann := fun _ => { frz := [], keep := [34, 35], vars := [(1, .val (.int .i64)), (4, .ptr (.pair (.int .i64) (.pair (.int .i64) (.pair (.slc (.arr 32 (.int .u8))) (.unit))))), (6, .ptrL (.pair (.int .i64) (.pair (.int .i64) (.pair (.slc (.arr 32 (.int .u8))) (.unit)))) [([.fld 2], .arr 32 (.int .u8), 1006)]), (36, .val (.int .i64))], inv := MPath.inv8 x.1 x.2.1, mes := MPath.mes8 x.1 x.2.1 } })], cuts := fun n => Lc.look n [], frz := fun _ => [] }
theorem tieMPath : fnVC EMPath conMPath NMPath (Tryd.f19.body.getD .skip) Tryd.f19.results.toList = MPath.VC := by kernel_rfl
theorem okMPath : Sound Tryd.prog gl 19 conMPath := fn_sound (E := EMPath) (ok_of (envOk_of (E := EMPath) rfl rfl tabOk bytOk) rfl all27) follows (fn := Tryd.f19) Tryd.func19 (by kernel_rfl) (body := Tryd.f19.body.getD .skip) (by kernel_rfl) (by kernel_rfl) (of_decide_eq_true (by kernel_rfl)) (Eq.mpr tieMPath MPath.vc)
noncomputable def cs28 : List (Nat × Con) := (19, conMPath) :: cs27
theorem all28 : SoundAll Tryd.prog gl cs28 := SoundAll.cons all27 okMPath
noncomputable def conRPath : Con := { params := [.slc (.arr 32 (.int .u8)), .int .i64], rets := [.deep (.pair (.int .i64) (.pair (.int .i64) (.pair (.slc (.arr 32 (.int .u8))) (.unit)))), .deep (.int .i64)], pre := fun x => RPath.pre x.1 x.2.1, fn := fun x => ((RPath.fn x.1 x.2.1).1, ((RPath.fn x.1 x.2.1).2, ())) }
noncomputable def ERPath : Env := { P := Tryd.prog, ty := fun n => Lc.look n tyT, bytes := fun n => (Lc.look n byT).getD 0, glob := gl, con := fun f => Lc.look f cs28, wr := [], ntm := 58, lock := [], lkd := [(13, [([.fld 2], 100013)]), (22, [([.fld 2], 100022)]), (26, [([.fld 2], 100026)])] }
noncomputable def NRPath : Tup conRPath.params → Notes := fun x => { loops := fun n => Lc.look n [(7, { see := [], ann := fun _ => { frz := [], keep := [28, 29], vars := [(1, .val (.int .i64)), (4, .ptr (.pair (.int .i64) (.pair (.int .i64) (.pair (.slc (.arr 32 (.int .u8))) (.unit))))), (6, .ptrL (.pair (.int .i64) (.pair (.int .i64) (.pair (.slc (.arr 32 (.int .u8))) (.unit)))) [([.fld 2], .arr 32 (.int .u8), 1006)]), (30, .val (.int .i64))], inv := RPath.inv7 x.1 x.2.1, mes := RPath.mes7 x.1 x.2.1 } })], cuts := fun n => Lc.look n [], frz := fun _ => [] }
theorem tieRPath : fnVC ERPath conRPath NRPath (Tryd.f20.body.getD .skip) Tryd.f20.results.toList = RPath.VC := by kernel_rfl
theorem okRPath : Sound Tryd.prog gl 20 conRPath := fn_sound (E := ERPath) (ok_of (envOk_of (E := ERPath) rfl rfl tabOk bytOk) rfl all28) follows (fn := Tryd.f20) Tryd.func20 (by kernel_rfl) (body := Tryd.f20.body.getD .skip) (by kernel_rfl) (by kernel_rfl) (of_decide_eq_true (by kernel_rfl)) (Eq.mpr tieRPath RPath.vc)
noncomputable def cs29 : List (Nat × Con) := (20, conRPath) :: cs28
theorem all29 : SoundAll Tryd.prog gl cs29 := SoundAll.cons all28 okRPath
noncomputable def conSameHashes : Con := { params := [.slc (.arr 32 (.int .u8)), .slc (.arr 32 (.int .u8))], rets := [.deep (.bool)], pre := fun x => SameHashes.pre x.1 x.2.1, fn := fun x => (SameHashes.fn x.1 x.2.1, ()) }
noncomputable def ESameHashes : Env := { P := Tryd.prog, ty := fun n => Lc.look n tyT, bytes := fun n => (Lc.look n byT).getD 0, glob := gl, con := fun f => Lc.look f cs29, wr := [], ntm := 26, lock := [] }
noncomputable def NSameHashes : Tup conSameHashes.params → Notes := fun x => { loops := fun n => Lc.look n [(4, { see := [], ann := fun _ => { frz := [], keep := [0, 1, 12], vars := [(13, .val (.int .i64))], inv := SameHashes.inv4 x.1 x.2.1, mes := SameHashes.mes4 x.1 x.2.1 } })], cuts := fun n => Lc.look n [], frz := fun _ => [] }
theorem tieSameHashes : fnVC ESameHashes conSameHashes NSameHashes (Tryd.f21.body.getD .skip) Tryd.f21.results.toList = SameHashes.VC := by kernel_rfl
theorem okSameHashes : Sound Tryd.prog gl 21 conSameHashes := fn_sound (E := ESameHashes) (ok_of (envOk_of (E := ESameHashes) rfl rfl tabOk bytOk) rfl all29) follows (fn := Tryd.f21) Tryd.func21 (by kernel_rfl) (body := Tryd.f21.body.getD .skip) (by kernel_rfl) (by kernel_rfl) (of_decide_eq_true (by kernel_rfl)) (Eq.mpr tieSameHashes SameHashes.vc)
noncomputable def cs30 : List (Nat × Con) := (21, conSameHashes) :: cs29
theorem all30 : SoundAll Tryd.prog gl cs30 := SoundAll.cons all29 okSameHashes
noncomputable def conMerklePaths : Con := { params := [.slc (.arr 32 (.int .u8)), .int .i64], rets := [.deep (.bool)], pre := fun x => MerklePaths.pre x.1 x.2.1, fn := fun x => (MerklePaths.fn x.1 x.2.1, ()) }
noncomputable def EMerklePaths : Env := { P := Tryd.prog, ty := fun n => Lc.look n tyT, bytes := fun n => (Lc.look n byT).getD 0, glob := gl, con := fun f => Lc.look f cs30, wr := [], ntm := 50, lock := [] }
noncomputable def NMerklePaths : Tup conMerklePaths.params → Notes := fun _ => { loops := fun n => Lc.look n [], cuts := fun n => Lc.look n [], frz := fun _ => [] }
theorem tieMerklePaths : fnVC EMerklePaths conMerklePaths NMerklePaths (Tryd.f5.body.getD .skip) Tryd.f5.results.toList = MerklePaths.VC := by kernel_rfl
theorem okMerklePaths : Sound Tryd.prog gl 5 conMerklePaths := fn_sound (E := EMerklePaths) (ok_of (envOk_of (E := EMerklePaths) rfl rfl tabOk bytOk) rfl all30) follows (fn := Tryd.f5) Tryd.func5 (by kernel_rfl) (body := Tryd.f5.body.getD .skip) (by kernel_rfl) (by kernel_rfl) (of_decide_eq_true (by kernel_rfl)) (Eq.mpr tieMerklePaths MerklePaths.vc)
noncomputable def cs31 : List (Nat × Con) := (5, conMerklePaths) :: cs30
theorem all31 : SoundAll Tryd.prog gl cs31 := SoundAll.cons all30 okMerklePaths
noncomputable def conMerkleProves : Con := { params := [.slc (.arr 32 (.int .u8)), .int .u8], rets := [.deep (.bool)], pre := fun x => MerkleProves.pre x.1 x.2.1, fn := fun x => (MerkleProves.fn x.1 x.2.1, ()) }
noncomputable def EMerkleProves : Env := { P := Tryd.prog, ty := fun n => Lc.look n tyT, bytes := fun n => (Lc.look n byT).getD 0, glob := gl, con := fun f => Lc.look f cs31, wr := [], ntm := 58, lock := [] }
noncomputable def NMerkleProves : Tup conMerkleProves.params → Notes := fun _ => { loops := fun n => Lc.look n [], cuts := fun n => Lc.look n [], frz := fun _ => [] }
theorem tieMerkleProves : fnVC EMerkleProves conMerkleProves NMerkleProves (Tryd.f9.body.getD .skip) Tryd.f9.results.toList = MerkleProves.VC := by kernel_rfl
theorem okMerkleProves : Sound Tryd.prog gl 9 conMerkleProves := fn_sound (E := EMerkleProves) (ok_of (envOk_of (E := EMerkleProves) rfl rfl tabOk bytOk) rfl all31) follows (fn := Tryd.f9) Tryd.func9 (by kernel_rfl) (body := Tryd.f9.body.getD .skip) (by kernel_rfl) (by kernel_rfl) (of_decide_eq_true (by kernel_rfl)) (Eq.mpr tieMerkleProves MerkleProves.vc)
noncomputable def cs32 : List (Nat × Con) := (9, conMerkleProves) :: cs31
theorem all32 : SoundAll Tryd.prog gl cs32 := SoundAll.cons all31 okMerkleProves
end Go.Proofs.YteglngofbbpkmaaDoor
