/- The ties of the functions of this seat to their conditions, and their contracts. -/
import Derived.Test.YtlennfpjbpjcjaaDoorChecked
import Derived.Test.YtlennfpjbpjcjaaDoorLaw03
namespace Go.Proofs.YtlennfpjbpjcjaaDoor
open Go Lc
set_option maxRecDepth 1000000
set_option linter.unusedVariables false
noncomputable def tyT : List (Nat × Ty) := [(3, .int .i64), (4, .bool), (5, .int .u8), (9, .str), (22, .int .u32), (23, .arr 8 (.int .u32)), (24, .arr 64 (.int .u8)), (28, .int .u64), (29, .slc (.int .u8)), (34, .arr 32 (.int .u8)), (36, .int .u64), (44, .arr 64 (.int .u32)), (49, .slc (.slc (.int .u8)))]
noncomputable def byT : List (Nat × Nat) := [(29, 1), (49, 24)]
theorem tabOk : tabB Tryd.prog tyT = true := by kernel_rfl
theorem bytOk : bytB Tryd.prog byT tyT = true := by kernel_rfl
noncomputable def glT : List (Nat × TV) := [(0, ⟨.arr 64 (.int .u32), ShaK⟩), (1, ⟨.arr 8 (.int .u32), ShaInitial⟩)]
noncomputable def gl : Nat → Option TV := fun n => Lc.look n glT
theorem follows : Tryd.prog.follows .mixedOrders = true := by kernel_rfl
noncomputable def cs0 : List (Nat × Con) := []
theorem all0 : SoundAll Tryd.prog gl cs0 := SoundAll.nil
noncomputable def conRotL : Con := { params := [.int .u32, .int .i64], rets := [.deep (.int .u32)], pre := fun x => RotL.pre x.1 x.2.1, fn := fun x => (RotL.fn x.1 x.2.1, ()) }
noncomputable def ERotL : Env := { P := Tryd.prog, ty := fun n => Lc.look n tyT, bytes := fun n => (Lc.look n byT).getD 0, glob := gl, con := fun f => Lc.look f cs0, wr := [], ntm := 17, lock := [] }
noncomputable def NRotL : Tup conRotL.params → Notes := fun _ => { loops := fun n => Lc.look n [], cuts := fun n => Lc.look n [], frz := fun _ => [] }
theorem tieRotL : fnVC ERotL conRotL NRotL (Tryd.f30.body.getD .skip) Tryd.f30.results.toList = RotL.VC := by kernel_rfl
theorem okRotL : Sound Tryd.prog gl 30 conRotL := fn_sound (E := ERotL) (ok_of (envOk_of (E := ERotL) rfl rfl tabOk bytOk) rfl all0) follows (fn := Tryd.f30) Tryd.func30 (by kernel_rfl) (body := Tryd.f30.body.getD .skip) (by kernel_rfl) (by kernel_rfl) (of_decide_eq_true (by kernel_rfl)) (Eq.mpr tieRotL RotL.vc)
noncomputable def cs1 : List (Nat × Con) := (30, conRotL) :: cs0
theorem all1 : SoundAll Tryd.prog gl cs1 := SoundAll.cons all0 okRotL
noncomputable def conShaRotr : Con := { params := [.int .u32, .int .i64], rets := [.deep (.int .u32)], pre := fun x => ShaRotr.pre x.1 x.2.1, fn := fun x => (ShaRotr.fn x.1 x.2.1, ()) }
noncomputable def EShaRotr : Env := { P := Tryd.prog, ty := fun n => Lc.look n tyT, bytes := fun n => (Lc.look n byT).getD 0, glob := gl, con := fun f => Lc.look f cs1, wr := [], ntm := 9, lock := [] }
noncomputable def NShaRotr : Tup conShaRotr.params → Notes := fun _ => { loops := fun n => Lc.look n [], cuts := fun n => Lc.look n [], frz := fun _ => [] }
theorem tieShaRotr : fnVC EShaRotr conShaRotr NShaRotr (Tryd.f25.body.getD .skip) Tryd.f25.results.toList = ShaRotr.VC := by kernel_rfl
theorem okShaRotr : Sound Tryd.prog gl 25 conShaRotr := fn_sound (E := EShaRotr) (ok_of (envOk_of (E := EShaRotr) rfl rfl tabOk bytOk) rfl all1) follows (fn := Tryd.f25) Tryd.func25 (by kernel_rfl) (body := Tryd.f25.body.getD .skip) (by kernel_rfl) (by kernel_rfl) (of_decide_eq_true (by kernel_rfl)) (Eq.mpr tieShaRotr ShaRotr.vc)
noncomputable def cs2 : List (Nat × Con) := (25, conShaRotr) :: cs1
theorem all2 : SoundAll Tryd.prog gl cs2 := SoundAll.cons all1 okShaRotr
noncomputable def conShaSched : Con := { params := [.arr 64 (.int .u8)], rets := [.deep (.arr 64 (.int .u32))], pre := fun x => ShaSched.pre x.1, fn := fun x => (ShaSched.fn x.1, ()) }
noncomputable def EShaSched : Env := { P := Tryd.prog, ty := fun n => Lc.look n tyT, bytes := fun n => (Lc.look n byT).getD 0, glob := gl, con := fun f => Lc.look f cs2, wr := [], ntm := 85, lock := [] }
noncomputable def NShaSched : Tup conShaSched.params → Notes := fun x => { loops := fun n => Lc.look n [(3, { see := [], ann := fun _ => { frz := [1], keep := [1], vars := [(2, .ptr (.arr 64 (.int .u32))), (3, .ptr (.arr 64 (.int .u32))), (9, .val (.int .i64))], inv := ShaSched.inv3 x.1, mes := ShaSched.mes3 x.1 } }), (6, { see := [(4, .val (.int .i64))], ann := fun y => { frz := [], keep := [1, 4, 9], vars := [(2, .ptr (.arr 64 (.int .u32))), (3, .ptr (.arr 64 (.int .u32))), (12, .val (.int .i64))], inv := ShaSched.inv6 x.1 y.1, mes := ShaSched.mes6 x.1 y.1 } }), (12, { see := [], ann := fun _ => { frz := [], keep := [], vars := [(2, .ptr (.arr 64 (.int .u32))), (3, .ptr (.arr 64 (.int .u32))), (6, .val (.int .i64))], inv := ShaSched.inv12 x.1, mes := ShaSched.mes12 x.1 } })], cuts := fun n => Lc.look n [], frz := fun _ => [] }
theorem tieShaSched : fnVC EShaSched conShaSched NShaSched (Tryd.f24.body.getD .skip) Tryd.f24.results.toList = ShaSched.VC := by kernel_rfl
theorem okShaSched : Sound Tryd.prog gl 24 conShaSched := fn_sound (E := EShaSched) (ok_of (envOk_of (E := EShaSched) rfl rfl tabOk bytOk) rfl all2) follows (fn := Tryd.f24) Tryd.func24 (by kernel_rfl) (body := Tryd.f24.body.getD .skip) (by kernel_rfl) (by kernel_rfl) (of_decide_eq_true (by kernel_rfl)) (Eq.mpr tieShaSched ShaSched.vc)
noncomputable def cs3 : List (Nat × Con) := (24, conShaSched) :: cs2
theorem all3 : SoundAll Tryd.prog gl cs3 := SoundAll.cons all2 okShaSched
noncomputable def conShaCompress : Con := { params := [.arr 8 (.int .u32), .arr 64 (.int .u8)], rets := [.deep (.arr 8 (.int .u32))], pre := fun x => ShaCompress.pre x.1 x.2.1, fn := fun x => (ShaCompress.fn x.1 x.2.1, ()) }
noncomputable def EShaCompress : Env := { P := Tryd.prog, ty := fun n => Lc.look n tyT, bytes := fun n => (Lc.look n byT).getD 0, glob := gl, con := fun f => Lc.look f cs3, wr := [], ntm := 131, lock := [] }
noncomputable def NShaCompress : Tup conShaCompress.params → Notes := fun x => { loops := fun n => Lc.look n [(5, { see := [], ann := fun _ => { frz := [2], keep := [2], vars := [(4, .ptr (.arr 8 (.int .u32))), (5, .ptr (.arr 64 (.int .u32))), (6, .val (.int .u32)), (7, .val (.int .u32)), (8, .val (.int .u32)), (9, .val (.int .u32)), (10, .val (.int .u32)), (11, .val (.int .u32)), (12, .val (.int .u32)), (13, .val (.int .u32)), (35, .val (.int .i64))], inv := ShaCompress.inv5 x.1 x.2.1, mes := ShaCompress.mes5 x.1 x.2.1 } })], cuts := fun n => Lc.look n [], frz := fun _ => [] }
theorem tieShaCompress : fnVC EShaCompress conShaCompress NShaCompress (Tryd.f11.body.getD .skip) Tryd.f11.results.toList = ShaCompress.VC := by kernel_rfl
theorem okShaCompress : Sound Tryd.prog gl 11 conShaCompress := fn_sound (E := EShaCompress) (ok_of (envOk_of (E := EShaCompress) rfl rfl tabOk bytOk) rfl all3) follows (fn := Tryd.f11) Tryd.func11 (by kernel_rfl) (body := Tryd.f11.body.getD .skip) (by kernel_rfl) (by kernel_rfl) (of_decide_eq_true (by kernel_rfl)) (Eq.mpr tieShaCompress ShaCompress.vc)
noncomputable def cs4 : List (Nat × Con) := (11, conShaCompress) :: cs3
theorem all4 : SoundAll Tryd.prog gl cs4 := SoundAll.cons all3 okShaCompress
noncomputable def conShaPad : Con := { params := [.int .u64], rets := [.own (.int .u8)], pre := fun x => ShaPad.pre x.1, fn := fun x => (ShaPad.fn x.1, ()) }
noncomputable def EShaPad : Env := { P := Tryd.prog, ty := fun n => Lc.look n tyT, bytes := fun n => (Lc.look n byT).getD 0, glob := gl, con := fun f => Lc.look f cs4, wr := [30], ntm := 33, lock := [] }
noncomputable def NShaPad : Tup conShaPad.params → Notes := fun x => { loops := fun n => Lc.look n [(5, { see := [], ann := fun _ => { frz := [], keep := [0], vars := [(4, .own (.int .u8) false), (18, .val (.int .i64))], inv := ShaPad.inv5 x.1, mes := ShaPad.mes5 x.1 } })], cuts := fun n => Lc.look n [], frz := fun _ => [] }
theorem tieShaPad : fnVC EShaPad conShaPad NShaPad (Tryd.f13.body.getD .skip) Tryd.f13.results.toList = ShaPad.VC := by kernel_rfl
theorem okShaPad : Sound Tryd.prog gl 13 conShaPad := fn_sound (E := EShaPad) (ok_of (envOk_of (E := EShaPad) rfl rfl tabOk bytOk) rfl all4) follows (fn := Tryd.f13) Tryd.func13 (by kernel_rfl) (body := Tryd.f13.body.getD .skip) (by kernel_rfl) (by kernel_rfl) (of_decide_eq_true (by kernel_rfl)) (Eq.mpr tieShaPad ShaPad.vc)
noncomputable def cs5 : List (Nat × Con) := (13, conShaPad) :: cs4
theorem all5 : SoundAll Tryd.prog gl cs5 := SoundAll.cons all4 okShaPad
noncomputable def conShaRow : Con := { params := [.slc (.slc (.int .u8))], rets := [.own (.int .u8)], pre := fun x => ShaRow.pre x.1, fn := fun x => (ShaRow.fn x.1, ()) }
noncomputable def EShaRow : Env := { P := Tryd.prog, ty := fun n => Lc.look n tyT, bytes := fun n => (Lc.look n byT).getD 0, glob := gl, con := fun f => Lc.look f cs5, wr := [], ntm := 17, lock := [] }
noncomputable def NShaRow : Tup conShaRow.params → Notes := fun x => { loops := fun n => Lc.look n [(3, { see := [], ann := fun _ => { frz := [], keep := [6, 7], vars := [(3, .own (.int .u8) true), (8, .val (.int .i64))], inv := ShaRow.inv3 x.1, mes := ShaRow.mes3 x.1 } })], cuts := fun n => Lc.look n [], frz := fun _ => [] }
theorem tieShaRow : fnVC EShaRow conShaRow NShaRow (Tryd.f29.body.getD .skip) Tryd.f29.results.toList = ShaRow.VC := by kernel_rfl
theorem okShaRow : Sound Tryd.prog gl 29 conShaRow := fn_sound (E := EShaRow) (ok_of (envOk_of (E := EShaRow) rfl rfl tabOk bytOk) rfl all5) follows (fn := Tryd.f29) Tryd.func29 (by kernel_rfl) (body := Tryd.f29.body.getD .skip) (by kernel_rfl) (by kernel_rfl) (of_decide_eq_true (by kernel_rfl)) (Eq.mpr tieShaRow ShaRow.vc)
noncomputable def cs6 : List (Nat × Con) := (29, conShaRow) :: cs5
theorem all6 : SoundAll Tryd.prog gl cs6 := SoundAll.cons all5 okShaRow
noncomputable def conShaSum : Con := { params := [.slc (.int .u8)], rets := [.deep (.arr 32 (.int .u8))], pre := fun x => ShaSum.pre x.1, fn := fun x => (ShaSum.fn x.1, ()) }
noncomputable def EShaSum : Env := { P := Tryd.prog, ty := fun n => Lc.look n tyT, bytes := fun n => (Lc.look n byT).getD 0, glob := gl, con := fun f => Lc.look f cs6, wr := [], ntm := 48, lock := [] }
noncomputable def NShaSum : Tup conShaSum.params → Notes := fun x => { loops := fun n => Lc.look n [(4, { see := [], ann := fun _ => { frz := [], keep := [3, 18], vars := [(2, .ptr (.arr 32 (.int .u8))), (4, .ptr (.arr 8 (.int .u32))), (19, .val (.int .i64))], inv := ShaSum.inv4 x.1, mes := ShaSum.mes4 x.1 } }), (10, { see := [], ann := fun _ => { frz := [], keep := [], vars := [(2, .ptr (.arr 32 (.int .u8))), (4, .ptr (.arr 8 (.int .u32))), (6, .ptr (.arr 32 (.int .u8))), (31, .val (.int .i64))], inv := ShaSum.inv10 x.1, mes := ShaSum.mes10 x.1 } })], cuts := fun n => Lc.look n [], frz := fun _ => [] }
theorem tieShaSum : fnVC EShaSum conShaSum NShaSum (Tryd.f16.body.getD .skip) Tryd.f16.results.toList = ShaSum.VC := by kernel_rfl
theorem okShaSum : Sound Tryd.prog gl 16 conShaSum := fn_sound (E := EShaSum) (ok_of (envOk_of (E := EShaSum) rfl rfl tabOk bytOk) rfl all6) follows (fn := Tryd.f16) Tryd.func16 (by kernel_rfl) (body := Tryd.f16.body.getD .skip) (by kernel_rfl) (by kernel_rfl) (of_decide_eq_true (by kernel_rfl)) (Eq.mpr tieShaSum ShaSum.vc)
noncomputable def cs7 : List (Nat × Con) := (16, conShaSum) :: cs6
theorem all7 : SoundAll Tryd.prog gl cs7 := SoundAll.cons all6 okShaSum
noncomputable def conShaDouble : Con := { params := [.slc (.int .u8)], rets := [.deep (.arr 32 (.int .u8))], pre := fun x => ShaDouble.pre x.1, fn := fun x => (ShaDouble.fn x.1, ()) }
noncomputable def EShaDouble : Env := { P := Tryd.prog, ty := fun n => Lc.look n tyT, bytes := fun n => (Lc.look n byT).getD 0, glob := gl, con := fun f => Lc.look f cs7, wr := [], ntm := 8, lock := [] }
noncomputable def NShaDouble : Tup conShaDouble.params → Notes := fun _ => { loops := fun n => Lc.look n [], cuts := fun n => Lc.look n [], frz := fun _ => [] }
theorem tieShaDouble : fnVC EShaDouble conShaDouble NShaDouble (Tryd.f18.body.getD .skip) Tryd.f18.results.toList = ShaDouble.VC := by kernel_rfl
theorem okShaDouble : Sound Tryd.prog gl 18 conShaDouble := fn_sound (E := EShaDouble) (ok_of (envOk_of (E := EShaDouble) rfl rfl tabOk bytOk) rfl all7) follows (fn := Tryd.f18) Tryd.func18 (by kernel_rfl) (body := Tryd.f18.body.getD .skip) (by kernel_rfl) (by kernel_rfl) (of_decide_eq_true (by kernel_rfl)) (Eq.mpr tieShaDouble ShaDouble.vc)
noncomputable def cs8 : List (Nat × Con) := (18, conShaDouble) :: cs7
theorem all8 : SoundAll Tryd.prog gl cs8 := SoundAll.cons all7 okShaDouble
noncomputable def conShaTagged : Con := { params := [.str, .slc (.int .u8)], rets := [.deep (.arr 32 (.int .u8))], pre := fun x => ShaTagged.pre x.1 x.2.1, fn := fun x => (ShaTagged.fn x.1 x.2.1, ()) }
noncomputable def EShaTagged : Env := { P := Tryd.prog, ty := fun n => Lc.look n tyT, bytes := fun n => (Lc.look n byT).getD 0, glob := gl, con := fun f => Lc.look f cs8, wr := [], ntm := 15, lock := [] }
noncomputable def NShaTagged : Tup conShaTagged.params → Notes := fun _ => { loops := fun n => Lc.look n [], cuts := fun n => Lc.look n [], frz := fun n => (Lc.look n [(2, [5])]).getD [] }
theorem tieShaTagged : fnVC EShaTagged conShaTagged NShaTagged (Tryd.f20.body.getD .skip) Tryd.f20.results.toList = ShaTagged.VC := by kernel_rfl
theorem okShaTagged : Sound Tryd.prog gl 20 conShaTagged := fn_sound (E := EShaTagged) (ok_of (envOk_of (E := EShaTagged) rfl rfl tabOk bytOk) rfl all8) follows (fn := Tryd.f20) Tryd.func20 (by kernel_rfl) (body := Tryd.f20.body.getD .skip) (by kernel_rfl) (by kernel_rfl) (of_decide_eq_true (by kernel_rfl)) (Eq.mpr tieShaTagged ShaTagged.vc)
noncomputable def cs9 : List (Nat × Con) := (20, conShaTagged) :: cs8
theorem all9 : SoundAll Tryd.prog gl cs9 := SoundAll.cons all8 okShaTagged
noncomputable def conShaHmac : Con := { params := [.slc (.int .u8), .slc (.int .u8)], rets := [.deep (.arr 32 (.int .u8))], pre := fun x => ShaHmac.pre x.1 x.2.1, fn := fun x => (ShaHmac.fn x.1 x.2.1, ()) }
noncomputable def EShaHmac : Env := { P := Tryd.prog, ty := fun n => Lc.look n tyT, bytes := fun n => (Lc.look n byT).getD 0, glob := gl, con := fun f => Lc.look f cs9, wr := [], ntm := 46, lock := [] }
noncomputable def NShaHmac : Tup conShaHmac.params → Notes := fun x => { loops := fun n => Lc.look n [(8, { see := [], ann := fun _ => { frz := [], keep := [1], vars := [(4, .ptr (.arr 32 (.int .u8))), (6, .ptr (.arr 64 (.int .u8))), (7, .ptr (.arr 64 (.int .u8))), (22, .val (.int .i64))], inv := ShaHmac.inv8 x.1 x.2.1, mes := ShaHmac.mes8 x.1 x.2.1 } })], cuts := fun n => Lc.look n [], frz := fun n => (Lc.look n [(13, [6]), (14, [7, 9])]).getD [] }
theorem tieShaHmac : fnVC EShaHmac conShaHmac NShaHmac (Tryd.f21.body.getD .skip) Tryd.f21.results.toList = ShaHmac.VC := by kernel_rfl
theorem okShaHmac : Sound Tryd.prog gl 21 conShaHmac := fn_sound (E := EShaHmac) (ok_of (envOk_of (E := EShaHmac) rfl rfl tabOk bytOk) rfl all9) follows (fn := Tryd.f21) Tryd.func21 (by kernel_rfl) (body := Tryd.f21.body.getD .skip) (by kernel_rfl) (by kernel_rfl) (of_decide_eq_true (by kernel_rfl)) (Eq.mpr tieShaHmac ShaHmac.vc)
noncomputable def cs10 : List (Nat × Con) := (21, conShaHmac) :: cs9
theorem all10 : SoundAll Tryd.prog gl cs10 := SoundAll.cons all9 okShaHmac
noncomputable def conRefRotr : Con := { params := [.int .u32, .int .i64], rets := [.deep (.int .u32)], pre := fun x => RefRotr.pre x.1 x.2.1, fn := fun x => (RefRotr.fn x.1 x.2.1, ()) }
noncomputable def ERefRotr : Env := { P := Tryd.prog, ty := fun n => Lc.look n tyT, bytes := fun n => (Lc.look n byT).getD 0, glob := gl, con := fun f => Lc.look f cs10, wr := [], ntm := 9, lock := [] }
noncomputable def NRefRotr : Tup conRefRotr.params → Notes := fun _ => { loops := fun n => Lc.look n [], cuts := fun n => Lc.look n [], frz := fun _ => [] }
theorem tieRefRotr : fnVC ERefRotr conRefRotr NRefRotr (Tryd.f28.body.getD .skip) Tryd.f28.results.toList = RefRotr.VC := by kernel_rfl
theorem okRefRotr : Sound Tryd.prog gl 28 conRefRotr := fn_sound (E := ERefRotr) (ok_of (envOk_of (E := ERefRotr) rfl rfl tabOk bytOk) rfl all10) follows (fn := Tryd.f28) Tryd.func28 (by kernel_rfl) (body := Tryd.f28.body.getD .skip) (by kernel_rfl) (by kernel_rfl) (of_decide_eq_true (by kernel_rfl)) (Eq.mpr tieRefRotr RefRotr.vc)
noncomputable def cs11 : List (Nat × Con) := (28, conRefRotr) :: cs10
theorem all11 : SoundAll Tryd.prog gl cs11 := SoundAll.cons all10 okRefRotr
noncomputable def conRefConsts : Con := { params := [], rets := [.deep (.arr 64 (.int .u32))], pre := fun _ => RefConsts.pre, fn := fun _ => (RefConsts.fn, ()) }
noncomputable def ERefConsts : Env := { P := Tryd.prog, ty := fun n => Lc.look n tyT, bytes := fun n => (Lc.look n byT).getD 0, glob := gl, con := fun f => Lc.look f cs11, wr := [], ntm := 2, lock := [] }
noncomputable def NRefConsts : Tup conRefConsts.params → Notes := fun _ => { loops := fun n => Lc.look n [], cuts := fun n => Lc.look n [], frz := fun _ => [] }
theorem tieRefConsts : fnVC ERefConsts conRefConsts NRefConsts (Tryd.f27.body.getD .skip) Tryd.f27.results.toList = RefConsts.VC := by kernel_rfl
theorem okRefConsts : Sound Tryd.prog gl 27 conRefConsts := fn_sound (E := ERefConsts) (ok_of (envOk_of (E := ERefConsts) rfl rfl tabOk bytOk) rfl all11) follows (fn := Tryd.f27) Tryd.func27 (by kernel_rfl) (body := Tryd.f27.body.getD .skip) (by kernel_rfl) (by kernel_rfl) (of_decide_eq_true (by kernel_rfl)) (Eq.mpr tieRefConsts RefConsts.vc)
noncomputable def cs12 : List (Nat × Con) := (27, conRefConsts) :: cs11
theorem all12 : SoundAll Tryd.prog gl cs12 := SoundAll.cons all11 okRefConsts
noncomputable def conRefInitial : Con := { params := [], rets := [.deep (.arr 8 (.int .u32))], pre := fun _ => RefInitial.pre, fn := fun _ => (RefInitial.fn, ()) }
noncomputable def ERefInitial : Env := { P := Tryd.prog, ty := fun n => Lc.look n tyT, bytes := fun n => (Lc.look n byT).getD 0, glob := gl, con := fun f => Lc.look f cs12, wr := [], ntm := 2, lock := [] }
noncomputable def NRefInitial : Tup conRefInitial.params → Notes := fun _ => { loops := fun n => Lc.look n [], cuts := fun n => Lc.look n [], frz := fun _ => [] }
theorem tieRefInitial : fnVC ERefInitial conRefInitial NRefInitial (Tryd.f15.body.getD .skip) Tryd.f15.results.toList = RefInitial.VC := by kernel_rfl
theorem okRefInitial : Sound Tryd.prog gl 15 conRefInitial := fn_sound (E := ERefInitial) (ok_of (envOk_of (E := ERefInitial) rfl rfl tabOk bytOk) rfl all12) follows (fn := Tryd.f15) Tryd.func15 (by kernel_rfl) (body := Tryd.f15.body.getD .skip) (by kernel_rfl) (by kernel_rfl) (of_decide_eq_true (by kernel_rfl)) (Eq.mpr tieRefInitial RefInitial.vc)
noncomputable def cs13 : List (Nat × Con) := (15, conRefInitial) :: cs12
theorem all13 : SoundAll Tryd.prog gl cs13 := SoundAll.cons all12 okRefInitial
noncomputable def conRefSched : Con := { params := [.arr 64 (.int .u8)], rets := [.deep (.arr 64 (.int .u32))], pre := fun x => RefSched.pre x.1, fn := fun x => (RefSched.fn x.1, ()) }
noncomputable def ERefSched : Env := { P := Tryd.prog, ty := fun n => Lc.look n tyT, bytes := fun n => (Lc.look n byT).getD 0, glob := gl, con := fun f => Lc.look f cs13, wr := [], ntm := 97, lock := [] }
noncomputable def NRefSched : Tup conRefSched.params → Notes := fun x => { loops := fun n => Lc.look n [(3, { see := [], ann := fun _ => { frz := [1], keep := [1], vars := [(2, .ptr (.arr 64 (.int .u32))), (3, .ptr (.arr 64 (.int .u32))), (4, .val (.int .i64))], inv := RefSched.inv3 x.1, mes := RefSched.mes3 x.1 } }), (7, { see := [], ann := fun _ => { frz := [], keep := [], vars := [(2, .ptr (.arr 64 (.int .u32))), (3, .ptr (.arr 64 (.int .u32))), (5, .val (.int .i64))], inv := RefSched.inv7 x.1, mes := RefSched.mes7 x.1 } })], cuts := fun n => Lc.look n [], frz := fun _ => [] }
theorem tieRefSched : fnVC ERefSched conRefSched NRefSched (Tryd.f26.body.getD .skip) Tryd.f26.results.toList = RefSched.VC := by kernel_rfl
theorem okRefSched : Sound Tryd.prog gl 26 conRefSched := fn_sound (E := ERefSched) (ok_of (envOk_of (E := ERefSched) rfl rfl tabOk bytOk) rfl all13) follows (fn := Tryd.f26) Tryd.func26 (by kernel_rfl) (body := Tryd.f26.body.getD .skip) (by kernel_rfl) (by kernel_rfl) (of_decide_eq_true (by kernel_rfl)) (Eq.mpr tieRefSched RefSched.vc)
noncomputable def cs14 : List (Nat × Con) := (26, conRefSched) :: cs13
theorem all14 : SoundAll Tryd.prog gl cs14 := SoundAll.cons all13 okRefSched
noncomputable def conRefCompress : Con := { params := [.arr 8 (.int .u32), .arr 64 (.int .u8)], rets := [.deep (.arr 8 (.int .u32))], pre := fun x => RefCompress.pre x.1 x.2.1, fn := fun x => (RefCompress.fn x.1 x.2.1, ()) }
noncomputable def ERefCompress : Env := { P := Tryd.prog, ty := fun n => Lc.look n tyT, bytes := fun n => (Lc.look n byT).getD 0, glob := gl, con := fun f => Lc.look f cs14, wr := [], ntm := 133, lock := [] }
noncomputable def NRefCompress : Tup conRefCompress.params → Notes := fun x => { loops := fun n => Lc.look n [(4, { see := [], ann := fun _ => { frz := [2], keep := [2], vars := [(4, .ptr (.arr 8 (.int .u32))), (5, .ptr (.arr 64 (.int .u32))), (6, .ptr (.arr 64 (.int .u32))), (7, .val (.int .u32)), (8, .val (.int .u32)), (9, .val (.int .u32)), (10, .val (.int .u32)), (11, .val (.int .u32)), (12, .val (.int .u32)), (13, .val (.int .u32)), (14, .val (.int .u32)), (15, .val (.int .i64))], inv := RefCompress.inv4 x.1 x.2.1, mes := RefCompress.mes4 x.1 x.2.1 } })], cuts := fun n => Lc.look n [], frz := fun _ => [] }
theorem tieRefCompress : fnVC ERefCompress conRefCompress NRefCompress (Tryd.f12.body.getD .skip) Tryd.f12.results.toList = RefCompress.VC := by kernel_rfl
theorem okRefCompress : Sound Tryd.prog gl 12 conRefCompress := fn_sound (E := ERefCompress) (ok_of (envOk_of (E := ERefCompress) rfl rfl tabOk bytOk) rfl all14) follows (fn := Tryd.f12) Tryd.func12 (by kernel_rfl) (body := Tryd.f12.body.getD .skip) (by kernel_rfl) (by kernel_rfl) (of_decide_eq_true (by kernel_rfl)) (Eq.mpr tieRefCompress RefCompress.vc)
noncomputable def cs15 : List (Nat × Con) := (12, conRefCompress) :: cs14
theorem all15 : SoundAll Tryd.prog gl cs15 := SoundAll.cons all14 okRefCompress
noncomputable def conRefPad : Con := { params := [.int .u64], rets := [.own (.int .u8)], pre := fun x => RefPad.pre x.1, fn := fun x => (RefPad.fn x.1, ()) }
noncomputable def ERefPad : Env := { P := Tryd.prog, ty := fun n => Lc.look n tyT, bytes := fun n => (Lc.look n byT).getD 0, glob := gl, con := fun f => Lc.look f cs15, wr := [], ntm := 31, lock := [] }
noncomputable def NRefPad : Tup conRefPad.params → Notes := fun x => { loops := fun n => Lc.look n [(2, { see := [], ann := fun _ => { frz := [], keep := [0], vars := [(3, .own (.int .u8) true)], inv := RefPad.inv2 x.1, mes := RefPad.mes2 x.1 } }), (5, { see := [], ann := fun _ => { frz := [], keep := [0], vars := [(3, .own (.int .u8) true), (4, .val (.int .i64))], inv := RefPad.inv5 x.1, mes := RefPad.mes5 x.1 } })], cuts := fun n => Lc.look n [], frz := fun _ => [] }
theorem tieRefPad : fnVC ERefPad conRefPad NRefPad (Tryd.f14.body.getD .skip) Tryd.f14.results.toList = RefPad.VC := by kernel_rfl
theorem okRefPad : Sound Tryd.prog gl 14 conRefPad := fn_sound (E := ERefPad) (ok_of (envOk_of (E := ERefPad) rfl rfl tabOk bytOk) rfl all15) follows (fn := Tryd.f14) Tryd.func14 (by kernel_rfl) (body := Tryd.f14.body.getD .skip) (by kernel_rfl) (by kernel_rfl) (of_decide_eq_true (by kernel_rfl)) (Eq.mpr tieRefPad RefPad.vc)
noncomputable def cs16 : List (Nat × Con) := (14, conRefPad) :: cs15
theorem all16 : SoundAll Tryd.prog gl cs16 := SoundAll.cons all15 okRefPad
noncomputable def conRefSum : Con := { params := [.slc (.int .u8)], rets := [.deep (.arr 32 (.int .u8))], pre := fun x => RefSum.pre x.1, fn := fun x => (RefSum.fn x.1, ()) }
noncomputable def ERefSum : Env := { P := Tryd.prog, ty := fun n => Lc.look n tyT, bytes := fun n => (Lc.look n byT).getD 0, glob := gl, con := fun f => Lc.look f cs16, wr := [], ntm := 66, lock := [] }
noncomputable def NRefSum : Tup conRefSum.params → Notes := fun x => { loops := fun n => Lc.look n [(4, { see := [], ann := fun _ => { frz := [], keep := [3], vars := [(2, .ptr (.arr 32 (.int .u8))), (4, .ptr (.arr 8 (.int .u32))), (5, .val (.int .i64))], inv := RefSum.inv4 x.1, mes := RefSum.mes4 x.1 } }), (11, { see := [(33, .val (.arr 8 (.int .u32)))], ann := fun y => { frz := [], keep := [33], vars := [(2, .ptr (.arr 32 (.int .u8))), (7, .ptr (.arr 32 (.int .u8))), (34, .val (.int .i64))], inv := RefSum.inv11 x.1 y.1, mes := RefSum.mes11 x.1 y.1 } })], cuts := fun n => Lc.look n [], frz := fun _ => [] }
theorem tieRefSum : fnVC ERefSum conRefSum NRefSum (Tryd.f17.body.getD .skip) Tryd.f17.results.toList = RefSum.VC := by kernel_rfl
theorem okRefSum : Sound Tryd.prog gl 17 conRefSum := fn_sound (E := ERefSum) (ok_of (envOk_of (E := ERefSum) rfl rfl tabOk bytOk) rfl all16) follows (fn := Tryd.f17) Tryd.func17 (by kernel_rfl) (body := Tryd.f17.body.getD .skip) (by kernel_rfl) (by kernel_rfl) (of_decide_eq_true (by kernel_rfl)) (Eq.mpr tieRefSum RefSum.vc)
noncomputable def cs17 : List (Nat × Con) := (17, conRefSum) :: cs16
theorem all17 : SoundAll Tryd.prog gl cs17 := SoundAll.cons all16 okRefSum
noncomputable def conRefDouble : Con := { params := [.slc (.int .u8)], rets := [.deep (.arr 32 (.int .u8))], pre := fun x => RefDouble.pre x.1, fn := fun x => (RefDouble.fn x.1, ()) }
noncomputable def ERefDouble : Env := { P := Tryd.prog, ty := fun n => Lc.look n tyT, bytes := fun n => (Lc.look n byT).getD 0, glob := gl, con := fun f => Lc.look f cs17, wr := [], ntm := 8, lock := [] }
noncomputable def NRefDouble : Tup conRefDouble.params → Notes := fun _ => { loops := fun n => Lc.look n [], cuts := fun n => Lc.look n [], frz := fun _ => [] }
theorem tieRefDouble : fnVC ERefDouble conRefDouble NRefDouble (Tryd.f19.body.getD .skip) Tryd.f19.results.toList = RefDouble.VC := by kernel_rfl
theorem okRefDouble : Sound Tryd.prog gl 19 conRefDouble := fn_sound (E := ERefDouble) (ok_of (envOk_of (E := ERefDouble) rfl rfl tabOk bytOk) rfl all17) follows (fn := Tryd.f19) Tryd.func19 (by kernel_rfl) (body := Tryd.f19.body.getD .skip) (by kernel_rfl) (by kernel_rfl) (of_decide_eq_true (by kernel_rfl)) (Eq.mpr tieRefDouble RefDouble.vc)
noncomputable def cs18 : List (Nat × Con) := (19, conRefDouble) :: cs17
theorem all18 : SoundAll Tryd.prog gl cs18 := SoundAll.cons all17 okRefDouble
noncomputable def conRefTagged : Con := { params := [.str, .slc (.int .u8)], rets := [.deep (.arr 32 (.int .u8))], pre := fun x => RefTagged.pre x.1 x.2.1, fn := fun x => (RefTagged.fn x.1 x.2.1, ()) }
noncomputable def ERefTagged : Env := { P := Tryd.prog, ty := fun n => Lc.look n tyT, bytes := fun n => (Lc.look n byT).getD 0, glob := gl, con := fun f => Lc.look f cs18, wr := [], ntm := 16, lock := [] }
noncomputable def NRefTagged : Tup conRefTagged.params → Notes := fun _ => { loops := fun n => Lc.look n [], cuts := fun n => Lc.look n [], frz := fun _ => [] }
theorem tieRefTagged : fnVC ERefTagged conRefTagged NRefTagged (Tryd.f22.body.getD .skip) Tryd.f22.results.toList = RefTagged.VC := by kernel_rfl
theorem okRefTagged : Sound Tryd.prog gl 22 conRefTagged := fn_sound (E := ERefTagged) (ok_of (envOk_of (E := ERefTagged) rfl rfl tabOk bytOk) rfl all18) follows (fn := Tryd.f22) Tryd.func22 (by kernel_rfl) (body := Tryd.f22.body.getD .skip) (by kernel_rfl) (by kernel_rfl) (of_decide_eq_true (by kernel_rfl)) (Eq.mpr tieRefTagged RefTagged.vc)
noncomputable def cs19 : List (Nat × Con) := (22, conRefTagged) :: cs18
theorem all19 : SoundAll Tryd.prog gl cs19 := SoundAll.cons all18 okRefTagged
noncomputable def conRefHmac : Con := { params := [.slc (.int .u8), .slc (.int .u8)], rets := [.deep (.arr 32 (.int .u8))], pre := fun x => RefHmac.pre x.1 x.2.1, fn := fun x => (RefHmac.fn x.1 x.2.1, ()) }
noncomputable def ERefHmac : Env := { P := Tryd.prog, ty := fun n => Lc.look n tyT, bytes := fun n => (Lc.look n byT).getD 0, glob := gl, con := fun f => Lc.look f cs19, wr := [], ntm := 51, lock := [] }
noncomputable def NRefHmac : Tup conRefHmac.params → Notes := fun x => { loops := fun n => Lc.look n [(6, { see := [], ann := fun _ => { frz := [0], keep := [0, 1, 20], vars := [(4, .ptr (.arr 32 (.int .u8))), (6, .own (.int .u8) false), (7, .own (.int .u8) false), (21, .val (.int .i64))], inv := RefHmac.inv6 x.1 x.2.1, mes := RefHmac.mes6 x.1 x.2.1 } })], cuts := fun n => Lc.look n [], frz := fun _ => [] }
theorem tieRefHmac : fnVC ERefHmac conRefHmac NRefHmac (Tryd.f23.body.getD .skip) Tryd.f23.results.toList = RefHmac.VC := by kernel_rfl
theorem okRefHmac : Sound Tryd.prog gl 23 conRefHmac := fn_sound (E := ERefHmac) (ok_of (envOk_of (E := ERefHmac) rfl rfl tabOk bytOk) rfl all19) follows (fn := Tryd.f23) Tryd.func23 (by kernel_rfl) (body := Tryd.f23.body.getD .skip) (by kernel_rfl) (by kernel_rfl) (of_decide_eq_true (by kernel_rfl)) (Eq.mpr tieRefHmac RefHmac.vc)
noncomputable def cs20 : List (Nat × Con) := (23, conRefHmac) :: cs19
theorem all20 : SoundAll Tryd.prog gl cs20 := SoundAll.cons all19 okRefHmac
noncomputable def conLawSane : Con := { params := [], rets := [.deep (.bool)], pre := fun _ => LawSane.pre, fn := fun _ => (LawSane.fn, ()) }
noncomputable def ELawSane : Env := { P := Tryd.prog, ty := fun n => Lc.look n tyT, bytes := fun n => (Lc.look n byT).getD 0, glob := gl, con := fun f => Lc.look f cs20, wr := [], ntm := 35, lock := [] }
noncomputable def NLawSane : Tup conLawSane.params → Notes := fun _ => { loops := fun n => Lc.look n [], cuts := fun n => Lc.look n [], frz := fun _ => [] }
theorem tieLawSane : fnVC ELawSane conLawSane NLawSane (Tryd.f10.body.getD .skip) Tryd.f10.results.toList = LawSane.VC := by kernel_rfl
theorem okLawSane : Sound Tryd.prog gl 10 conLawSane := fn_sound (E := ELawSane) (ok_of (envOk_of (E := ELawSane) rfl rfl tabOk bytOk) rfl all20) follows (fn := Tryd.f10) Tryd.func10 (by kernel_rfl) (body := Tryd.f10.body.getD .skip) (by kernel_rfl) (by kernel_rfl) (of_decide_eq_true (by kernel_rfl)) (Eq.mpr tieLawSane LawSane.vc)
noncomputable def cs21 : List (Nat × Con) := (10, conLawSane) :: cs20
theorem all21 : SoundAll Tryd.prog gl cs21 := SoundAll.cons all20 okLawSane
noncomputable def conShaCompresses : Con := { params := [.arr 8 (.int .u32), .arr 64 (.int .u8)], rets := [.deep (.bool)], pre := fun x => ShaCompresses.pre x.1 x.2.1, fn := fun x => (ShaCompresses.fn x.1 x.2.1, ()) }
noncomputable def EShaCompresses : Env := { P := Tryd.prog, ty := fun n => Lc.look n tyT, bytes := fun n => (Lc.look n byT).getD 0, glob := gl, con := fun f => Lc.look f cs21, wr := [], ntm := 15, lock := [] }
noncomputable def NShaCompresses : Tup conShaCompresses.params → Notes := fun _ => { loops := fun n => Lc.look n [], cuts := fun n => Lc.look n [], frz := fun _ => [] }
theorem tieShaCompresses : fnVC EShaCompresses conShaCompresses NShaCompresses (Tryd.f3.body.getD .skip) Tryd.f3.results.toList = ShaCompresses.VC := by kernel_rfl
theorem okShaCompresses : Sound Tryd.prog gl 3 conShaCompresses := fn_sound (E := EShaCompresses) (ok_of (envOk_of (E := EShaCompresses) rfl rfl tabOk bytOk) rfl all21) follows (fn := Tryd.f3) Tryd.func3 (by kernel_rfl) (body := Tryd.f3.body.getD .skip) (by kernel_rfl) (by kernel_rfl) (of_decide_eq_true (by kernel_rfl)) (Eq.mpr tieShaCompresses ShaCompresses.vc)
noncomputable def cs22 : List (Nat × Con) := (3, conShaCompresses) :: cs21
theorem all22 : SoundAll Tryd.prog gl cs22 := SoundAll.cons all21 okShaCompresses
noncomputable def conShaPads : Con := { params := [.int .u64], rets := [.deep (.bool)], pre := fun x => ShaPads.pre x.1, fn := fun x => (ShaPads.fn x.1, ()) }
noncomputable def EShaPads : Env := { P := Tryd.prog, ty := fun n => Lc.look n tyT, bytes := fun n => (Lc.look n byT).getD 0, glob := gl, con := fun f => Lc.look f cs22, wr := [], ntm := 26, lock := [] }
noncomputable def NShaPads : Tup conShaPads.params → Notes := fun _ => { loops := fun n => Lc.look n [], cuts := fun n => Lc.look n [], frz := fun _ => [] }
theorem tieShaPads : fnVC EShaPads conShaPads NShaPads (Tryd.f4.body.getD .skip) Tryd.f4.results.toList = ShaPads.VC := by kernel_rfl
theorem okShaPads : Sound Tryd.prog gl 4 conShaPads := fn_sound (E := EShaPads) (ok_of (envOk_of (E := EShaPads) rfl rfl tabOk bytOk) rfl all22) follows (fn := Tryd.f4) Tryd.func4 (by kernel_rfl) (body := Tryd.f4.body.getD .skip) (by kernel_rfl) (by kernel_rfl) (of_decide_eq_true (by kernel_rfl)) (Eq.mpr tieShaPads ShaPads.vc)
noncomputable def cs23 : List (Nat × Con) := (4, conShaPads) :: cs22
theorem all23 : SoundAll Tryd.prog gl cs23 := SoundAll.cons all22 okShaPads
noncomputable def conShaChains : Con := { params := [.slc (.int .u8), .int .u8], rets := [.deep (.bool)], pre := fun x => ShaChains.pre x.1 x.2.1, fn := fun x => (ShaChains.fn x.1 x.2.1, ()) }
noncomputable def EShaChains : Env := { P := Tryd.prog, ty := fun n => Lc.look n tyT, bytes := fun n => (Lc.look n byT).getD 0, glob := gl, con := fun f => Lc.look f cs23, wr := [], ntm := 95, lock := [] }
noncomputable def NShaChains : Tup conShaChains.params → Notes := fun x => { loops := fun n => Lc.look n [(8, { see := [], ann := fun _ => { frz := [], keep := [0, 1], vars := [(5, .val (.slc (.int .u8))), (6, .ptr (.arr 8 (.int .u32))), (7, .val (.int .i64))], inv := ShaChains.inv8 x.1 x.2.1, mes := ShaChains.mes8 x.1 x.2.1 } }), (13, { see := [(7, .val (.int .i64))], ann := fun y => { frz := [], keep := [0, 1, 7], vars := [(5, .val (.slc (.int .u8))), (6, .ptr (.arr 8 (.int .u32))), (8, .val (.int .i64))], inv := ShaChains.inv13 x.1 x.2.1 y.1, mes := ShaChains.mes13 x.1 x.2.1 y.1 } }), (20, { see := [(55, .val (.arr 8 (.int .u32)))], ann := fun y => { frz := [], keep := [55], vars := [(5, .val (.slc (.int .u8))), (10, .ptr (.arr 32 (.int .u8))), (56, .val (.int .i64))], inv := ShaChains.inv20 x.1 x.2.1 y.1, mes := ShaChains.mes20 x.1 x.2.1 y.1 } })], cuts := fun n => Lc.look n [], frz := fun _ => [] }
theorem tieShaChains : fnVC EShaChains conShaChains NShaChains (Tryd.f5.body.getD .skip) Tryd.f5.results.toList = ShaChains.VC := by kernel_rfl
theorem okShaChains : Sound Tryd.prog gl 5 conShaChains := fn_sound (E := EShaChains) (ok_of (envOk_of (E := EShaChains) rfl rfl tabOk bytOk) rfl all23) follows (fn := Tryd.f5) Tryd.func5 (by kernel_rfl) (body := Tryd.f5.body.getD .skip) (by kernel_rfl) (by kernel_rfl) (of_decide_eq_true (by kernel_rfl)) (Eq.mpr tieShaChains ShaChains.vc)
noncomputable def cs24 : List (Nat × Con) := (5, conShaChains) :: cs23
theorem all24 : SoundAll Tryd.prog gl cs24 := SoundAll.cons all23 okShaChains
noncomputable def conShaSums : Con := { params := [.slc (.int .u8)], rets := [.deep (.bool)], pre := fun x => ShaSums.pre x.1, fn := fun x => (ShaSums.fn x.1, ()) }
noncomputable def EShaSums : Env := { P := Tryd.prog, ty := fun n => Lc.look n tyT, bytes := fun n => (Lc.look n byT).getD 0, glob := gl, con := fun f => Lc.look f cs24, wr := [], ntm := 22, lock := [] }
noncomputable def NShaSums : Tup conShaSums.params → Notes := fun _ => { loops := fun n => Lc.look n [], cuts := fun n => Lc.look n [], frz := fun _ => [] }
theorem tieShaSums : fnVC EShaSums conShaSums NShaSums (Tryd.f6.body.getD .skip) Tryd.f6.results.toList = ShaSums.VC := by kernel_rfl
theorem okShaSums : Sound Tryd.prog gl 6 conShaSums := fn_sound (E := EShaSums) (ok_of (envOk_of (E := EShaSums) rfl rfl tabOk bytOk) rfl all24) follows (fn := Tryd.f6) Tryd.func6 (by kernel_rfl) (body := Tryd.f6.body.getD .skip) (by kernel_rfl) (by kernel_rfl) (of_decide_eq_true (by kernel_rfl)) (Eq.mpr tieShaSums ShaSums.vc)
noncomputable def cs25 : List (Nat × Con) := (6, conShaSums) :: cs24
theorem all25 : SoundAll Tryd.prog gl cs25 := SoundAll.cons all24 okShaSums
noncomputable def conShaDoubles : Con := { params := [.str, .slc (.int .u8)], rets := [.deep (.bool)], pre := fun x => ShaDoubles.pre x.1 x.2.1, fn := fun x => (ShaDoubles.fn x.1 x.2.1, ()) }
noncomputable def EShaDoubles : Env := { P := Tryd.prog, ty := fun n => Lc.look n tyT, bytes := fun n => (Lc.look n byT).getD 0, glob := gl, con := fun f => Lc.look f cs25, wr := [], ntm := 42, lock := [] }
noncomputable def NShaDoubles : Tup conShaDoubles.params → Notes := fun _ => { loops := fun n => Lc.look n [], cuts := fun n => Lc.look n [], frz := fun _ => [] }
theorem tieShaDoubles : fnVC EShaDoubles conShaDoubles NShaDoubles (Tryd.f7.body.getD .skip) Tryd.f7.results.toList = ShaDoubles.VC := by kernel_rfl
theorem okShaDoubles : Sound Tryd.prog gl 7 conShaDoubles := fn_sound (E := EShaDoubles) (ok_of (envOk_of (E := EShaDoubles) rfl rfl tabOk bytOk) rfl all25) follows (fn := Tryd.f7) Tryd.func7 (by kernel_rfl) (body := Tryd.f7.body.getD .skip) (by kernel_rfl) (by kernel_rfl) (of_decide_eq_true (by kernel_rfl)) (Eq.mpr tieShaDoubles ShaDoubles.vc)
noncomputable def cs26 : List (Nat × Con) := (7, conShaDoubles) :: cs25
theorem all26 : SoundAll Tryd.prog gl cs26 := SoundAll.cons all25 okShaDoubles
noncomputable def conShaLongKeys : Con := { params := [.slc (.int .u8), .slc (.int .u8)], rets := [.deep (.bool)], pre := fun x => ShaLongKeys.pre x.1 x.2.1, fn := fun x => (ShaLongKeys.fn x.1 x.2.1, ()) }
noncomputable def EShaLongKeys : Env := { P := Tryd.prog, ty := fun n => Lc.look n tyT, bytes := fun n => (Lc.look n byT).getD 0, glob := gl, con := fun f => Lc.look f cs26, wr := [], ntm := 40, lock := [] }
noncomputable def NShaLongKeys : Tup conShaLongKeys.params → Notes := fun _ => { loops := fun n => Lc.look n [], cuts := fun n => Lc.look n [], frz := fun _ => [] }
theorem tieShaLongKeys : fnVC EShaLongKeys conShaLongKeys NShaLongKeys (Tryd.f8.body.getD .skip) Tryd.f8.results.toList = ShaLongKeys.VC := by kernel_rfl
theorem okShaLongKeys : Sound Tryd.prog gl 8 conShaLongKeys := fn_sound (E := EShaLongKeys) (ok_of (envOk_of (E := EShaLongKeys) rfl rfl tabOk bytOk) rfl all26) follows (fn := Tryd.f8) Tryd.func8 (by kernel_rfl) (body := Tryd.f8.body.getD .skip) (by kernel_rfl) (by kernel_rfl) (of_decide_eq_true (by kernel_rfl)) (Eq.mpr tieShaLongKeys ShaLongKeys.vc)
noncomputable def cs27 : List (Nat × Con) := (8, conShaLongKeys) :: cs26
theorem all27 : SoundAll Tryd.prog gl cs27 := SoundAll.cons all26 okShaLongKeys
noncomputable def conShaKeyed : Con := { params := [.str, .slc (.int .u8), .slc (.int .u8)], rets := [.deep (.bool)], pre := fun x => ShaKeyed.pre x.1 x.2.1 x.2.2.1, fn := fun x => (ShaKeyed.fn x.1 x.2.1 x.2.2.1, ()) }
noncomputable def EShaKeyed : Env := { P := Tryd.prog, ty := fun n => Lc.look n tyT, bytes := fun n => (Lc.look n byT).getD 0, glob := gl, con := fun f => Lc.look f cs27, wr := [], ntm := 40, lock := [] }
noncomputable def NShaKeyed : Tup conShaKeyed.params → Notes := fun _ => { loops := fun n => Lc.look n [], cuts := fun n => Lc.look n [], frz := fun _ => [] }
theorem tieShaKeyed : fnVC EShaKeyed conShaKeyed NShaKeyed (Tryd.f9.body.getD .skip) Tryd.f9.results.toList = ShaKeyed.VC := by kernel_rfl
theorem okShaKeyed : Sound Tryd.prog gl 9 conShaKeyed := fn_sound (E := EShaKeyed) (ok_of (envOk_of (E := EShaKeyed) rfl rfl tabOk bytOk) rfl all27) follows (fn := Tryd.f9) Tryd.func9 (by kernel_rfl) (body := Tryd.f9.body.getD .skip) (by kernel_rfl) (by kernel_rfl) (of_decide_eq_true (by kernel_rfl)) (Eq.mpr tieShaKeyed ShaKeyed.vc)
noncomputable def cs28 : List (Nat × Con) := (9, conShaKeyed) :: cs27
theorem all28 : SoundAll Tryd.prog gl cs28 := SoundAll.cons all27 okShaKeyed
end Go.Proofs.YtlennfpjbpjcjaaDoor
