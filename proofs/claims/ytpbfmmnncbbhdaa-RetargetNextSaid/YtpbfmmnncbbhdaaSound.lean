/- The ties of the functions of this seat to their conditions, and their contracts. -/
import Derived.Test.YtpbfmmnncbbhdaaChecked
import Derived.Test.YtpbfmmnncbbhdaaLaw13
import Derived.Test.YtpbfmmnncbbhdaaBits
import Derived.Test.YtpbfmmnncbbhdaaRng13
import Derived.Test.YtpbfmmnncbbhdaaSortw
namespace Go.Proofs.Ytpbfmmnncbbhdaa
open Go Lc
set_option maxRecDepth 1000000
set_option linter.unusedVariables false
noncomputable def tyT : List (Nat × Ty) := [(2, .int .i64), (3, .int .i64), (4, .bool), (5, .int .u8), (9, .str), (22, .int .u32), (26, .pair (.int .u32) (.pair (.arr 32 (.int .u8)) (.pair (.arr 32 (.int .u8)) (.pair (.int .u32) (.pair (.int .u32) (.pair (.int .u32) (.unit))))))), (27, .int .u64), (29, .arr 4 (.int .u64)), (30, .slc (.pair (.int .i64) (.pair (.arr 32 (.int .u8)) (.unit)))), (32, .pair (.pair (.int .u32) (.pair (.arr 32 (.int .u8)) (.pair (.arr 32 (.int .u8)) (.pair (.int .u32) (.pair (.int .u32) (.pair (.int .u32) (.unit))))))) (.pair (.arr 4 (.int .u64)) (.pair (.int .i64) (.pair (.int .u32) (.pair (.int .u32) (.pair (.int .u32) (.pair (.slc (.pair (.int .i64) (.pair (.arr 32 (.int .u8)) (.unit)))) (.pair (.int .i64) (.pair (.int .i64) (.pair (.int .i64) (.unit))))))))))), (35, .slc (.int .u32)), (38, .int .i64), (49, .pair (.int .i64) (.pair (.arr 32 (.int .u8)) (.pair (.int .u32) (.pair (.int .u32) (.pair (.slc (.int .u32)) (.unit)))))), (56, .pair (.int .i64) (.pair (.arr 32 (.int .u8)) (.unit))), (72, .arr 8 (.int .u64)), (76, .slc (.int .u64))]
noncomputable def byT : List (Nat × Nat) := [(30, 40), (35, 4), (76, 8)]
theorem tabOk : tabB Try.prog tyT = true := by kernel_rfl
theorem bytOk : bytB Try.prog byT tyT = true := by kernel_rfl
noncomputable def glT : List (Nat × TV) := []
noncomputable def gl : Nat → Option TV := fun n => Lc.look n glT
theorem follows : Try.prog.follows .mixedOrders = true := by kernel_rfl
noncomputable def mutT : List (Nat × Mut) := [(29, ⟨.int .u32, [30], SortPre, SortFn⟩)]
theorem mutOk : ∀ f m, Lc.look f mutT = some m → SoundM Try.prog f m := by
  intro f m h
  have h := look_mem h
  simp only [mutT, List.mem_cons, List.not_mem_nil, or_false, Prod.mk.injEq] at h
  rcases h with ⟨rfl, rfl⟩
  · exact sortSound
noncomputable def cs0 : List (Nat × Con) := []
theorem all0 : SoundAll Try.prog gl cs0 := SoundAll.nil
noncomputable def conLen64 : Con := { params := [.int .u64], rets := [.deep (.int .i64)], pre := fun x => Len64.pre x.1, fn := fun x => (Len64.fn x.1, ()) }
noncomputable def ELen64 : Env := { P := Try.prog, ty := fun n => Lc.look n tyT, bytes := fun n => (Lc.look n byT).getD 0, glob := gl, con := fun f => Lc.look f cs0, wr := [], ntm := 25, lock := [], turn := fun f => Lc.look f mutT }
noncomputable def NLen64 : Tup conLen64.params → Notes := fun _ => { loops := fun n => Lc.look n [], cuts := fun n => Lc.look n [], frz := fun _ => [] }
theorem tieLen64 : fnVC ELen64 conLen64 NLen64 (Try.f55.body.getD .skip) Try.f55.results.toList = Len64.VC := by kernel_rfl
theorem okLen64 : Sound Try.prog gl 55 conLen64 := fn_sound (E := ELen64) (ok_of (envOk_of (E := ELen64) rfl rfl tabOk bytOk mutOk) rfl all0) follows (fn := Try.f55) Try.func55 (by kernel_rfl) (body := Try.f55.body.getD .skip) (by kernel_rfl) (by kernel_rfl) (of_decide_eq_true (by kernel_rfl)) (Eq.mpr tieLen64 Len64.vc)
noncomputable def cs1 : List (Nat × Con) := (55, conLen64) :: cs0
theorem all1 : SoundAll Try.prog gl cs1 := SoundAll.cons all0 okLen64
noncomputable def conAdd64 : Con := { params := [.int .u64, .int .u64, .int .u64], rets := [.deep (.int .u64), .deep (.int .u64)], pre := fun x => Add64.pre x.1 x.2.1 x.2.2.1, fn := fun x => ((Add64.fn x.1 x.2.1 x.2.2.1).1, ((Add64.fn x.1 x.2.1 x.2.2.1).2, ())) }
theorem okAdd64 : SoundE Try.prog 49 conAdd64 := add64E (fn := Try.f49) (by kernel_rfl) (by kernel_rfl) (by kernel_rfl) (by kernel_rfl) (by kernel_rfl)
noncomputable def cs2 : List (Nat × Con) := (49, conAdd64) :: cs1
theorem all2 : SoundAll Try.prog gl cs2 := SoundAll.consE all1 okAdd64
noncomputable def conSub64 : Con := { params := [.int .u64, .int .u64, .int .u64], rets := [.deep (.int .u64), .deep (.int .u64)], pre := fun x => Sub64.pre x.1 x.2.1 x.2.2.1, fn := fun x => ((Sub64.fn x.1 x.2.1 x.2.2.1).1, ((Sub64.fn x.1 x.2.1 x.2.2.1).2, ())) }
theorem okSub64 : SoundE Try.prog 67 conSub64 := sub64E (fn := Try.f67) (by kernel_rfl) (by kernel_rfl) (by kernel_rfl) (by kernel_rfl) (by kernel_rfl)
noncomputable def cs3 : List (Nat × Con) := (67, conSub64) :: cs2
theorem all3 : SoundAll Try.prog gl cs3 := SoundAll.consE all2 okSub64
noncomputable def conMul64 : Con := { params := [.int .u64, .int .u64], rets := [.deep (.int .u64), .deep (.int .u64)], pre := fun x => Mul64.pre x.1 x.2.1, fn := fun x => ((Mul64.fn x.1 x.2.1).1, ((Mul64.fn x.1 x.2.1).2, ())) }
noncomputable def EMul64 : Env := { P := Try.prog, ty := fun n => Lc.look n tyT, bytes := fun n => (Lc.look n byT).getD 0, glob := gl, con := fun f => Lc.look f cs3, wr := [], ntm := 51, lock := [], turn := fun f => Lc.look f mutT }
noncomputable def NMul64 : Tup conMul64.params → Notes := fun _ => { loops := fun n => Lc.look n [], cuts := fun n => Lc.look n [], frz := fun _ => [] }
theorem tieMul64 : fnVC EMul64 conMul64 NMul64 (Try.f48.body.getD .skip) Try.f48.results.toList = Mul64.VC := by kernel_rfl
theorem okMul64 : Sound Try.prog gl 48 conMul64 := fn_sound (E := EMul64) (ok_of (envOk_of (E := EMul64) rfl rfl tabOk bytOk mutOk) rfl all3) follows (fn := Try.f48) Try.func48 (by kernel_rfl) (body := Try.f48.body.getD .skip) (by kernel_rfl) (by kernel_rfl) (of_decide_eq_true (by kernel_rfl)) (Eq.mpr tieMul64 Mul64.vc)
noncomputable def cs4 : List (Nat × Con) := (48, conMul64) :: cs3
theorem all4 : SoundAll Try.prog gl cs4 := SoundAll.cons all3 okMul64
noncomputable def conWFrom : Con := { params := [.int .u64], rets := [.deep (.arr 4 (.int .u64))], pre := fun x => WFrom.pre x.1, fn := fun x => (WFrom.fn x.1, ()) }
noncomputable def EWFrom : Env := { P := Try.prog, ty := fun n => Lc.look n tyT, bytes := fun n => (Lc.look n byT).getD 0, glob := gl, con := fun f => Lc.look f cs4, wr := [], ntm := 5, lock := [], turn := fun f => Lc.look f mutT }
noncomputable def NWFrom : Tup conWFrom.params → Notes := fun _ => { loops := fun n => Lc.look n [], cuts := fun n => Lc.look n [], frz := fun _ => [] }
theorem tieWFrom : fnVC EWFrom conWFrom NWFrom (Try.f33.body.getD .skip) Try.f33.results.toList = WFrom.VC := by kernel_rfl
theorem okWFrom : Sound Try.prog gl 33 conWFrom := fn_sound (E := EWFrom) (ok_of (envOk_of (E := EWFrom) rfl rfl tabOk bytOk mutOk) rfl all4) follows (fn := Try.f33) Try.func33 (by kernel_rfl) (body := Try.f33.body.getD .skip) (by kernel_rfl) (by kernel_rfl) (of_decide_eq_true (by kernel_rfl)) (Eq.mpr tieWFrom WFrom.vc)
noncomputable def cs5 : List (Nat × Con) := (33, conWFrom) :: cs4
theorem all5 : SoundAll Try.prog gl cs5 := SoundAll.cons all4 okWFrom
noncomputable def conWCmp : Con := { params := [.arr 4 (.int .u64), .arr 4 (.int .u64)], rets := [.deep (.int .i64)], pre := fun x => WCmp.pre x.1 x.2.1, fn := fun x => (WCmp.fn x.1 x.2.1, ()) }
noncomputable def EWCmp : Env := { P := Try.prog, ty := fun n => Lc.look n tyT, bytes := fun n => (Lc.look n byT).getD 0, glob := gl, con := fun f => Lc.look f cs5, wr := [], ntm := 24, lock := [], turn := fun f => Lc.look f mutT }
noncomputable def NWCmp : Tup conWCmp.params → Notes := fun x => { loops := fun n => Lc.look n [(2, { see := [], ann := fun _ => { frz := [2, 3], keep := [2, 3], vars := [(5, .val (.int .i64))], inv := WCmp.inv2 x.1 x.2.1, mes := WCmp.mes2 x.1 x.2.1 } })], cuts := fun n => Lc.look n [], frz := fun _ => [] }
theorem tieWCmp : fnVC EWCmp conWCmp NWCmp (Try.f27.body.getD .skip) Try.f27.results.toList = WCmp.VC := by kernel_rfl
theorem okWCmp : Sound Try.prog gl 27 conWCmp := fn_sound (E := EWCmp) (ok_of (envOk_of (E := EWCmp) rfl rfl tabOk bytOk mutOk) rfl all5) follows (fn := Try.f27) Try.func27 (by kernel_rfl) (body := Try.f27.body.getD .skip) (by kernel_rfl) (by kernel_rfl) (of_decide_eq_true (by kernel_rfl)) (Eq.mpr tieWCmp WCmp.vc)
noncomputable def cs6 : List (Nat × Con) := (27, conWCmp) :: cs5
theorem all6 : SoundAll Try.prog gl cs6 := SoundAll.cons all5 okWCmp
noncomputable def conWLen : Con := { params := [.arr 4 (.int .u64)], rets := [.deep (.int .i64)], pre := fun x => WLen.pre x.1, fn := fun x => (WLen.fn x.1, ()) }
noncomputable def EWLen : Env := { P := Try.prog, ty := fun n => Lc.look n tyT, bytes := fun n => (Lc.look n byT).getD 0, glob := gl, con := fun f => Lc.look f cs6, wr := [], ntm := 19, lock := [], turn := fun f => Lc.look f mutT }
noncomputable def NWLen : Tup conWLen.params → Notes := fun x => { loops := fun n => Lc.look n [(2, { see := [], ann := fun _ => { frz := [1], keep := [1], vars := [(3, .val (.int .i64))], inv := WLen.inv2 x.1, mes := WLen.mes2 x.1 } })], cuts := fun n => Lc.look n [], frz := fun _ => [] }
theorem tieWLen : fnVC EWLen conWLen NWLen (Try.f43.body.getD .skip) Try.f43.results.toList = WLen.VC := by kernel_rfl
theorem okWLen : Sound Try.prog gl 43 conWLen := fn_sound (E := EWLen) (ok_of (envOk_of (E := EWLen) rfl rfl tabOk bytOk mutOk) rfl all6) follows (fn := Try.f43) Try.func43 (by kernel_rfl) (body := Try.f43.body.getD .skip) (by kernel_rfl) (by kernel_rfl) (of_decide_eq_true (by kernel_rfl)) (Eq.mpr tieWLen WLen.vc)
noncomputable def cs7 : List (Nat × Con) := (43, conWLen) :: cs6
theorem all7 : SoundAll Try.prog gl cs7 := SoundAll.cons all6 okWLen
noncomputable def conWSub : Con := { params := [.arr 4 (.int .u64), .arr 4 (.int .u64)], rets := [.deep (.arr 4 (.int .u64)), .deep (.bool)], pre := fun x => WSub.pre x.1 x.2.1, fn := fun x => ((WSub.fn x.1 x.2.1).1, ((WSub.fn x.1 x.2.1).2, ())) }
noncomputable def EWSub : Env := { P := Try.prog, ty := fun n => Lc.look n tyT, bytes := fun n => (Lc.look n byT).getD 0, glob := gl, con := fun f => Lc.look f cs7, wr := [], ntm := 29, lock := [], turn := fun f => Lc.look f mutT }
noncomputable def NWSub : Tup conWSub.params → Notes := fun x => { loops := fun n => Lc.look n [(4, { see := [], ann := fun _ => { frz := [2, 3], keep := [2, 3], vars := [(4, .ptr (.arr 4 (.int .u64))), (6, .ptr (.arr 4 (.int .u64))), (7, .val (.int .u64)), (9, .val (.int .i64))], inv := WSub.inv4 x.1 x.2.1, mes := WSub.mes4 x.1 x.2.1 } })], cuts := fun n => Lc.look n [], frz := fun _ => [] }
theorem tieWSub : fnVC EWSub conWSub NWSub (Try.f51.body.getD .skip) Try.f51.results.toList = WSub.VC := by kernel_rfl
theorem okWSub : Sound Try.prog gl 51 conWSub := fn_sound (E := EWSub) (ok_of (envOk_of (E := EWSub) rfl rfl tabOk bytOk mutOk) rfl all7) follows (fn := Try.f51) Try.func51 (by kernel_rfl) (body := Try.f51.body.getD .skip) (by kernel_rfl) (by kernel_rfl) (of_decide_eq_true (by kernel_rfl)) (Eq.mpr tieWSub WSub.vc)
noncomputable def cs8 : List (Nat × Con) := (51, conWSub) :: cs7
theorem all8 : SoundAll Try.prog gl cs8 := SoundAll.cons all7 okWSub
noncomputable def conWMul : Con := { params := [.arr 4 (.int .u64), .arr 4 (.int .u64)], rets := [.deep (.arr 4 (.int .u64)), .deep (.arr 4 (.int .u64))], pre := fun x => WMul.pre x.1 x.2.1, fn := fun x => ((WMul.fn x.1 x.2.1).1, ((WMul.fn x.1 x.2.1).2, ())) }
noncomputable def EWMul : Env := { P := Try.prog, ty := fun n => Lc.look n tyT, bytes := fun n => (Lc.look n byT).getD 0, glob := gl, con := fun f => Lc.look f cs8, wr := [], ntm := 69, lock := [], turn := fun f => Lc.look f mutT }
noncomputable def NWMul : Tup conWMul.params → Notes := fun x => { loops := fun n => Lc.look n [(3, { see := [], ann := fun _ => { frz := [2, 3], keep := [2, 3], vars := [(4, .ptr (.arr 4 (.int .u64))), (5, .ptr (.arr 4 (.int .u64))), (6, .ptr (.arr 8 (.int .u64))), (14, .val (.int .i64))], inv := WMul.inv3 x.1 x.2.1, mes := WMul.mes3 x.1 x.2.1 } }), (7, { see := [(7, .val (.int .i64))], ann := fun y => { frz := [], keep := [2, 3, 7, 14], vars := [(4, .ptr (.arr 4 (.int .u64))), (5, .ptr (.arr 4 (.int .u64))), (6, .ptr (.arr 8 (.int .u64))), (8, .val (.int .u64)), (17, .val (.int .i64))], inv := WMul.inv7 x.1 x.2.1 y.1, mes := WMul.mes7 x.1 x.2.1 y.1 } })], cuts := fun n => Lc.look n [], frz := fun n => (Lc.look n [(17, [6])]).getD [] }
theorem tieWMul : fnVC EWMul conWMul NWMul (Try.f32.body.getD .skip) Try.f32.results.toList = WMul.VC := by kernel_rfl
theorem okWMul : Sound Try.prog gl 32 conWMul := fn_sound (E := EWMul) (ok_of (envOk_of (E := EWMul) rfl rfl tabOk bytOk mutOk) rfl all8) follows (fn := Try.f32) Try.func32 (by kernel_rfl) (body := Try.f32.body.getD .skip) (by kernel_rfl) (by kernel_rfl) (of_decide_eq_true (by kernel_rfl)) (Eq.mpr tieWMul WMul.vc)
noncomputable def cs9 : List (Nat × Con) := (32, conWMul) :: cs8
theorem all9 : SoundAll Try.prog gl cs9 := SoundAll.cons all8 okWMul
noncomputable def conWDbl : Con := { params := [.arr 4 (.int .u64), .int .u64], rets := [.deep (.arr 4 (.int .u64)), .deep (.int .u64)], pre := fun x => WDbl.pre x.1 x.2.1, fn := fun x => ((WDbl.fn x.1 x.2.1).1, ((WDbl.fn x.1 x.2.1).2, ())) }
noncomputable def EWDbl : Env := { P := Try.prog, ty := fun n => Lc.look n tyT, bytes := fun n => (Lc.look n byT).getD 0, glob := gl, con := fun f => Lc.look f cs9, wr := [], ntm := 25, lock := [], turn := fun f => Lc.look f mutT }
noncomputable def NWDbl : Tup conWDbl.params → Notes := fun x => { loops := fun n => Lc.look n [(2, { see := [], ann := fun _ => { frz := [], keep := [], vars := [(1, .val (.int .u64)), (2, .ptr (.arr 4 (.int .u64))), (4, .ptr (.arr 4 (.int .u64))), (7, .val (.int .i64))], inv := WDbl.inv2 x.1 x.2.1, mes := WDbl.mes2 x.1 x.2.1 } })], cuts := fun n => Lc.look n [], frz := fun _ => [] }
theorem tieWDbl : fnVC EWDbl conWDbl NWDbl (Try.f50.body.getD .skip) Try.f50.results.toList = WDbl.VC := by kernel_rfl
theorem okWDbl : Sound Try.prog gl 50 conWDbl := fn_sound (E := EWDbl) (ok_of (envOk_of (E := EWDbl) rfl rfl tabOk bytOk mutOk) rfl all9) follows (fn := Try.f50) Try.func50 (by kernel_rfl) (body := Try.f50.body.getD .skip) (by kernel_rfl) (by kernel_rfl) (of_decide_eq_true (by kernel_rfl)) (Eq.mpr tieWDbl WDbl.vc)
noncomputable def cs10 : List (Nat × Con) := (50, conWDbl) :: cs9
theorem all10 : SoundAll Try.prog gl cs10 := SoundAll.cons all9 okWDbl
noncomputable def conWDiv : Con := { params := [.arr 4 (.int .u64), .arr 4 (.int .u64), .arr 4 (.int .u64)], rets := [.deep (.arr 4 (.int .u64)), .deep (.arr 4 (.int .u64)), .deep (.bool)], pre := fun x => WDiv.pre x.1 x.2.1 x.2.2.1, fn := fun x => ((WDiv.fn x.1 x.2.1 x.2.2.1).1, ((WDiv.fn x.1 x.2.1 x.2.2.1).2.1, ((WDiv.fn x.1 x.2.1 x.2.2.1).2.2, ()))) }
noncomputable def EWDiv : Env := { P := Try.prog, ty := fun n => Lc.look n tyT, bytes := fun n => (Lc.look n byT).getD 0, glob := gl, con := fun f => Lc.look f cs10, wr := [], ntm := 72, lock := [], turn := fun f => Lc.look f mutT }
noncomputable def NWDiv : Tup conWDiv.params → Notes := fun x => { loops := fun n => Lc.look n [(6, { see := [], ann := fun _ => { frz := [5], keep := [5], vars := [(4, .ptr (.arr 4 (.int .u64))), (6, .ptr (.arr 4 (.int .u64))), (7, .ptr (.arr 4 (.int .u64))), (9, .ptr (.arr 4 (.int .u64))), (10, .val (.int .i64))], inv := WDiv.inv6 x.1 x.2.1 x.2.2.1, mes := WDiv.mes6 x.1 x.2.1 x.2.2.1 } }), (9, { see := [(10, .val (.int .i64))], ann := fun y => { frz := [], keep := [5, 10], vars := [(4, .ptr (.arr 4 (.int .u64))), (6, .ptr (.arr 4 (.int .u64))), (7, .ptr (.arr 4 (.int .u64))), (9, .ptr (.arr 4 (.int .u64))), (11, .val (.int .i64))], inv := WDiv.inv9 x.1 x.2.1 x.2.2.1 y.1, mes := WDiv.mes9 x.1 x.2.1 x.2.2.1 y.1 } })], cuts := fun n => Lc.look n [], frz := fun _ => [] }
theorem tieWDiv : fnVC EWDiv conWDiv NWDiv (Try.f34.body.getD .skip) Try.f34.results.toList = WDiv.VC := by kernel_rfl
theorem okWDiv : Sound Try.prog gl 34 conWDiv := fn_sound (E := EWDiv) (ok_of (envOk_of (E := EWDiv) rfl rfl tabOk bytOk mutOk) rfl all10) follows (fn := Try.f34) Try.func34 (by kernel_rfl) (body := Try.f34.body.getD .skip) (by kernel_rfl) (by kernel_rfl) (of_decide_eq_true (by kernel_rfl)) (Eq.mpr tieWDiv WDiv.vc)
noncomputable def cs11 : List (Nat × Con) := (34, conWDiv) :: cs10
theorem all11 : SoundAll Try.prog gl cs11 := SoundAll.cons all10 okWDiv
noncomputable def conWShl : Con := { params := [.arr 4 (.int .u64), .int .i64], rets := [.deep (.arr 4 (.int .u64))], pre := fun x => WShl.pre x.1 x.2.1, fn := fun x => (WShl.fn x.1 x.2.1, ()) }
noncomputable def EWShl : Env := { P := Try.prog, ty := fun n => Lc.look n tyT, bytes := fun n => (Lc.look n byT).getD 0, glob := gl, con := fun f => Lc.look f cs11, wr := [], ntm := 51, lock := [], turn := fun f => Lc.look f mutT }
noncomputable def NWShl : Tup conWShl.params → Notes := fun x => { loops := fun n => Lc.look n [(8, { see := [], ann := fun _ => { frz := [2], keep := [2, 6, 7], vars := [(4, .ptr (.arr 4 (.int .u64))), (5, .ptr (.arr 4 (.int .u64))), (8, .val (.int .i64))], inv := WShl.inv8 x.1 x.2.1, mes := WShl.mes8 x.1 x.2.1 } })], cuts := fun n => Lc.look n [], frz := fun _ => [] }
theorem tieWShl : fnVC EWShl conWShl NWShl (Try.f57.body.getD .skip) Try.f57.results.toList = WShl.VC := by kernel_rfl
theorem okWShl : Sound Try.prog gl 57 conWShl := fn_sound (E := EWShl) (ok_of (envOk_of (E := EWShl) rfl rfl tabOk bytOk mutOk) rfl all11) follows (fn := Try.f57) Try.func57 (by kernel_rfl) (body := Try.f57.body.getD .skip) (by kernel_rfl) (by kernel_rfl) (of_decide_eq_true (by kernel_rfl)) (Eq.mpr tieWShl WShl.vc)
noncomputable def cs12 : List (Nat × Con) := (57, conWShl) :: cs11
theorem all12 : SoundAll Try.prog gl cs12 := SoundAll.cons all11 okWShl
noncomputable def conWShr : Con := { params := [.arr 4 (.int .u64), .int .i64], rets := [.deep (.arr 4 (.int .u64))], pre := fun x => WShr.pre x.1 x.2.1, fn := fun x => (WShr.fn x.1 x.2.1, ()) }
noncomputable def EWShr : Env := { P := Try.prog, ty := fun n => Lc.look n tyT, bytes := fun n => (Lc.look n byT).getD 0, glob := gl, con := fun f => Lc.look f cs12, wr := [], ntm := 53, lock := [], turn := fun f => Lc.look f mutT }
noncomputable def NWShr : Tup conWShr.params → Notes := fun x => { loops := fun n => Lc.look n [(8, { see := [], ann := fun _ => { frz := [2], keep := [2, 6, 7, 20], vars := [(4, .ptr (.arr 4 (.int .u64))), (5, .ptr (.arr 4 (.int .u64))), (21, .val (.int .i64))], inv := WShr.inv8 x.1 x.2.1, mes := WShr.mes8 x.1 x.2.1 } })], cuts := fun n => Lc.look n [], frz := fun _ => [] }
theorem tieWShr : fnVC EWShr conWShr NWShr (Try.f56.body.getD .skip) Try.f56.results.toList = WShr.VC := by kernel_rfl
theorem okWShr : Sound Try.prog gl 56 conWShr := fn_sound (E := EWShr) (ok_of (envOk_of (E := EWShr) rfl rfl tabOk bytOk mutOk) rfl all12) follows (fn := Try.f56) Try.func56 (by kernel_rfl) (body := Try.f56.body.getD .skip) (by kernel_rfl) (by kernel_rfl) (of_decide_eq_true (by kernel_rfl)) (Eq.mpr tieWShr WShr.vc)
noncomputable def cs13 : List (Nat × Con) := (56, conWShr) :: cs12
theorem all13 : SoundAll Try.prog gl cs13 := SoundAll.cons all12 okWShr
noncomputable def conTShifted : Con := { params := [.arr 4 (.int .u64), .int .i64], rets := [.deep (.arr 4 (.int .u64))], pre := fun x => TShifted.pre x.1 x.2.1, fn := fun x => (TShifted.fn x.1 x.2.1, ()) }
noncomputable def ETShifted : Env := { P := Try.prog, ty := fun n => Lc.look n tyT, bytes := fun n => (Lc.look n byT).getD 0, glob := gl, con := fun f => Lc.look f cs13, wr := [], ntm := 14, lock := [], turn := fun f => Lc.look f mutT }
noncomputable def NTShifted : Tup conTShifted.params → Notes := fun _ => { loops := fun n => Lc.look n [], cuts := fun n => Lc.look n [], frz := fun _ => [] }
theorem tieTShifted : fnVC ETShifted conTShifted NTShifted (Try.f44.body.getD .skip) Try.f44.results.toList = TShifted.VC := by kernel_rfl
theorem okTShifted : Sound Try.prog gl 44 conTShifted := fn_sound (E := ETShifted) (ok_of (envOk_of (E := ETShifted) rfl rfl tabOk bytOk mutOk) rfl all13) follows (fn := Try.f44) Try.func44 (by kernel_rfl) (body := Try.f44.body.getD .skip) (by kernel_rfl) (by kernel_rfl) (of_decide_eq_true (by kernel_rfl)) (Eq.mpr tieTShifted TShifted.vc)
noncomputable def cs14 : List (Nat × Con) := (44, conTShifted) :: cs13
theorem all14 : SoundAll Try.prog gl cs14 := SoundAll.cons all13 okTShifted
noncomputable def conTExpand : Con := { params := [.int .u32], rets := [.deep (.arr 4 (.int .u64)), .deep (.int .i64)], pre := fun x => TExpand.pre x.1, fn := fun x => ((TExpand.fn x.1).1, ((TExpand.fn x.1).2, ())) }
noncomputable def ETExpand : Env := { P := Try.prog, ty := fun n => Lc.look n tyT, bytes := fun n => (Lc.look n byT).getD 0, glob := gl, con := fun f => Lc.look f cs14, wr := [], ntm := 35, lock := [], turn := fun f => Lc.look f mutT }
noncomputable def NTExpand : Tup conTExpand.params → Notes := fun _ => { loops := fun n => Lc.look n [], cuts := fun n => Lc.look n [], frz := fun _ => [] }
theorem tieTExpand : fnVC ETExpand conTExpand NTExpand (Try.f26.body.getD .skip) Try.f26.results.toList = TExpand.VC := by kernel_rfl
theorem okTExpand : Sound Try.prog gl 26 conTExpand := fn_sound (E := ETExpand) (ok_of (envOk_of (E := ETExpand) rfl rfl tabOk bytOk mutOk) rfl all14) follows (fn := Try.f26) Try.func26 (by kernel_rfl) (body := Try.f26.body.getD .skip) (by kernel_rfl) (by kernel_rfl) (of_decide_eq_true (by kernel_rfl)) (Eq.mpr tieTExpand TExpand.vc)
noncomputable def cs15 : List (Nat × Con) := (26, conTExpand) :: cs14
theorem all15 : SoundAll Try.prog gl cs15 := SoundAll.cons all14 okTExpand
noncomputable def conTCompact : Con := { params := [.arr 4 (.int .u64)], rets := [.deep (.int .u32)], pre := fun x => TCompact.pre x.1, fn := fun x => (TCompact.fn x.1, ()) }
noncomputable def ETCompact : Env := { P := Try.prog, ty := fun n => Lc.look n tyT, bytes := fun n => (Lc.look n byT).getD 0, glob := gl, con := fun f => Lc.look f cs15, wr := [], ntm := 24, lock := [], turn := fun f => Lc.look f mutT }
noncomputable def NTCompact : Tup conTCompact.params → Notes := fun _ => { loops := fun n => Lc.look n [], cuts := fun n => Lc.look n [], frz := fun _ => [] }
theorem tieTCompact : fnVC ETCompact conTCompact NTCompact (Try.f35.body.getD .skip) Try.f35.results.toList = TCompact.VC := by kernel_rfl
theorem okTCompact : Sound Try.prog gl 35 conTCompact := fn_sound (E := ETCompact) (ok_of (envOk_of (E := ETCompact) rfl rfl tabOk bytOk mutOk) rfl all15) follows (fn := Try.f35) Try.func35 (by kernel_rfl) (body := Try.f35.body.getD .skip) (by kernel_rfl) (by kernel_rfl) (of_decide_eq_true (by kernel_rfl)) (Eq.mpr tieTCompact TCompact.vc)
noncomputable def cs16 : List (Nat × Con) := (35, conTCompact) :: cs15
theorem all16 : SoundAll Try.prog gl cs16 := SoundAll.cons all15 okTCompact
noncomputable def conRValid : Con := { params := [.pair (.pair (.int .u32) (.pair (.arr 32 (.int .u8)) (.pair (.arr 32 (.int .u8)) (.pair (.int .u32) (.pair (.int .u32) (.pair (.int .u32) (.unit))))))) (.pair (.arr 4 (.int .u64)) (.pair (.int .i64) (.pair (.int .u32) (.pair (.int .u32) (.pair (.int .u32) (.pair (.slc (.pair (.int .i64) (.pair (.arr 32 (.int .u8)) (.unit)))) (.pair (.int .i64) (.pair (.int .i64) (.pair (.int .i64) (.unit))))))))))], rets := [.deep (.bool)], pre := fun x => RValid.pre x.1, fn := fun x => (RValid.fn x.1, ()) }
noncomputable def ERValid : Env := { P := Try.prog, ty := fun n => Lc.look n tyT, bytes := fun n => (Lc.look n byT).getD 0, glob := gl, con := fun f => Lc.look f cs16, wr := [], ntm := 93, lock := [], turn := fun f => Lc.look f mutT }
noncomputable def NRValid : Tup conRValid.params → Notes := fun x => { loops := fun n => Lc.look n [(9, { see := [], ann := fun _ => { frz := [1], keep := [1, 59, 60], vars := [(3, .val (.int .i64)), (61, .val (.int .i64))], inv := RValid.inv9 x.1, mes := RValid.mes9 x.1 } })], cuts := fun n => Lc.look n [], frz := fun _ => [] }
theorem tieRValid : fnVC ERValid conRValid NRValid (Try.f12.body.getD .skip) Try.f12.results.toList = RValid.VC := by kernel_rfl
theorem okRValid : Sound Try.prog gl 12 conRValid := fn_sound (E := ERValid) (ok_of (envOk_of (E := ERValid) rfl rfl tabOk bytOk mutOk) rfl all16) follows (fn := Try.f12) Try.func12 (by kernel_rfl) (body := Try.f12.body.getD .skip) (by kernel_rfl) (by kernel_rfl) (of_decide_eq_true (by kernel_rfl)) (Eq.mpr tieRValid RValid.vc)
noncomputable def cs17 : List (Nat × Con) := (12, conRValid) :: cs16
theorem all17 : SoundAll Try.prog gl cs17 := SoundAll.cons all16 okRValid
noncomputable def conRMedian : Con := { params := [.slc (.int .u32)], rets := [.deep (.int .u32)], pre := fun x => RMedian.pre x.1, fn := fun x => (RMedian.fn x.1, ()) }
noncomputable def ERMedian : Env := { P := Try.prog, ty := fun n => Lc.look n tyT, bytes := fun n => (Lc.look n byT).getD 0, glob := gl, con := fun f => Lc.look f cs17, wr := [], ntm := 21, lock := [], turn := fun f => Lc.look f mutT }
noncomputable def NRMedian : Tup conRMedian.params → Notes := fun _ => { loops := fun n => Lc.look n [], cuts := fun n => Lc.look n [], frz := fun _ => [] }
theorem tieRMedian : fnVC ERMedian conRMedian NRMedian (Try.f14.body.getD .skip) Try.f14.results.toList = RMedian.VC := by kernel_rfl
theorem okRMedian : Sound Try.prog gl 14 conRMedian := fn_sound (E := ERMedian) (ok_of (envOk_of (E := ERMedian) rfl rfl tabOk bytOk mutOk) rfl all17) follows (fn := Try.f14) Try.func14 (by kernel_rfl) (body := Try.f14.body.getD .skip) (by kernel_rfl) (by kernel_rfl) (of_decide_eq_true (by kernel_rfl)) (Eq.mpr tieRMedian RMedian.vc)
noncomputable def cs18 : List (Nat × Con) := (14, conRMedian) :: cs17
theorem all18 : SoundAll Try.prog gl cs18 := SoundAll.cons all17 okRMedian
noncomputable def conRAdjust : Con := { params := [.pair (.pair (.int .u32) (.pair (.arr 32 (.int .u8)) (.pair (.arr 32 (.int .u8)) (.pair (.int .u32) (.pair (.int .u32) (.pair (.int .u32) (.unit))))))) (.pair (.arr 4 (.int .u64)) (.pair (.int .i64) (.pair (.int .u32) (.pair (.int .u32) (.pair (.int .u32) (.pair (.slc (.pair (.int .i64) (.pair (.arr 32 (.int .u8)) (.unit)))) (.pair (.int .i64) (.pair (.int .i64) (.pair (.int .i64) (.unit)))))))))), .int .u32, .int .u32, .int .u32], rets := [.deep (.int .u32), .deep (.int .i64)], pre := fun x => RAdjust.pre x.1 x.2.1 x.2.2.1 x.2.2.2.1, fn := fun x => ((RAdjust.fn x.1 x.2.1 x.2.2.1 x.2.2.2.1).1, ((RAdjust.fn x.1 x.2.1 x.2.2.1 x.2.2.2.1).2, ())) }
noncomputable def ERAdjust : Env := { P := Try.prog, ty := fun n => Lc.look n tyT, bytes := fun n => (Lc.look n byT).getD 0, glob := gl, con := fun f => Lc.look f cs18, wr := [], ntm := 84, lock := [], turn := fun f => Lc.look f mutT }
noncomputable def NRAdjust : Tup conRAdjust.params → Notes := fun _ => { loops := fun n => Lc.look n [], cuts := fun n => Lc.look n [], frz := fun _ => [] }
theorem tieRAdjust : fnVC ERAdjust conRAdjust NRAdjust (Try.f16.body.getD .skip) Try.f16.results.toList = RAdjust.VC := by kernel_rfl
theorem okRAdjust : Sound Try.prog gl 16 conRAdjust := fn_sound (E := ERAdjust) (ok_of (envOk_of (E := ERAdjust) rfl rfl tabOk bytOk mutOk) rfl all18) follows (fn := Try.f16) Try.func16 (by kernel_rfl) (body := Try.f16.body.getD .skip) (by kernel_rfl) (by kernel_rfl) (of_decide_eq_true (by kernel_rfl)) (Eq.mpr tieRAdjust RAdjust.vc)
noncomputable def cs19 : List (Nat × Con) := (16, conRAdjust) :: cs18
theorem all19 : SoundAll Try.prog gl cs19 := SoundAll.cons all18 okRAdjust
noncomputable def conRNext : Con := { params := [.pair (.pair (.int .u32) (.pair (.arr 32 (.int .u8)) (.pair (.arr 32 (.int .u8)) (.pair (.int .u32) (.pair (.int .u32) (.pair (.int .u32) (.unit))))))) (.pair (.arr 4 (.int .u64)) (.pair (.int .i64) (.pair (.int .u32) (.pair (.int .u32) (.pair (.int .u32) (.pair (.slc (.pair (.int .i64) (.pair (.arr 32 (.int .u8)) (.unit)))) (.pair (.int .i64) (.pair (.int .i64) (.pair (.int .i64) (.unit)))))))))), .pair (.int .i64) (.pair (.arr 32 (.int .u8)) (.pair (.int .u32) (.pair (.int .u32) (.pair (.slc (.int .u32)) (.unit)))))], rets := [.deep (.int .u32), .deep (.int .i64)], pre := fun x => RNext.pre x.1 x.2.1, fn := fun x => ((RNext.fn x.1 x.2.1).1, ((RNext.fn x.1 x.2.1).2, ())) }
noncomputable def ERNext : Env := { P := Try.prog, ty := fun n => Lc.look n tyT, bytes := fun n => (Lc.look n byT).getD 0, glob := gl, con := fun f => Lc.look f cs19, wr := [], ntm := 54, lock := [], turn := fun f => Lc.look f mutT }
noncomputable def NRNext : Tup conRNext.params → Notes := fun _ => { loops := fun n => Lc.look n [], cuts := fun n => Lc.look n [], frz := fun _ => [] }
theorem tieRNext : fnVC ERNext conRNext NRNext (Try.f22.body.getD .skip) Try.f22.results.toList = RNext.VC := by kernel_rfl
theorem okRNext : Sound Try.prog gl 22 conRNext := fn_sound (E := ERNext) (ok_of (envOk_of (E := ERNext) rfl rfl tabOk bytOk mutOk) rfl all19) follows (fn := Try.f22) Try.func22 (by kernel_rfl) (body := Try.f22.body.getD .skip) (by kernel_rfl) (by kernel_rfl) (of_decide_eq_true (by kernel_rfl)) (Eq.mpr tieRNext RNext.vc)
noncomputable def cs20 : List (Nat × Con) := (22, conRNext) :: cs19
theorem all20 : SoundAll Try.prog gl cs20 := SoundAll.cons all19 okRNext
noncomputable def conQFromUint : Con := { params := [.int .u64], rets := [.deep (.arr 4 (.int .u64))], pre := fun x => QFromUint.pre x.1, fn := fun x => (QFromUint.fn x.1, ()) }
noncomputable def EQFromUint : Env := { P := Try.prog, ty := fun n => Lc.look n tyT, bytes := fun n => (Lc.look n byT).getD 0, glob := gl, con := fun f => Lc.look f cs20, wr := [], ntm := 5, lock := [], turn := fun f => Lc.look f mutT }
noncomputable def NQFromUint : Tup conQFromUint.params → Notes := fun _ => { loops := fun n => Lc.look n [], cuts := fun n => Lc.look n [], frz := fun _ => [] }
theorem tieQFromUint : fnVC EQFromUint conQFromUint NQFromUint (Try.f37.body.getD .skip) Try.f37.results.toList = QFromUint.VC := by kernel_rfl
theorem okQFromUint : Sound Try.prog gl 37 conQFromUint := fn_sound (E := EQFromUint) (ok_of (envOk_of (E := EQFromUint) rfl rfl tabOk bytOk mutOk) rfl all20) follows (fn := Try.f37) Try.func37 (by kernel_rfl) (body := Try.f37.body.getD .skip) (by kernel_rfl) (by kernel_rfl) (of_decide_eq_true (by kernel_rfl)) (Eq.mpr tieQFromUint QFromUint.vc)
noncomputable def cs21 : List (Nat × Con) := (37, conQFromUint) :: cs20
theorem all21 : SoundAll Try.prog gl cs21 := SoundAll.cons all20 okQFromUint
noncomputable def conQCmp : Con := { params := [.arr 4 (.int .u64), .arr 4 (.int .u64)], rets := [.deep (.int .i64)], pre := fun x => QCmp.pre x.1 x.2.1, fn := fun x => (QCmp.fn x.1 x.2.1, ()) }
noncomputable def EQCmp : Env := { P := Try.prog, ty := fun n => Lc.look n tyT, bytes := fun n => (Lc.look n byT).getD 0, glob := gl, con := fun f => Lc.look f cs21, wr := [], ntm := 24, lock := [], turn := fun f => Lc.look f mutT }
noncomputable def NQCmp : Tup conQCmp.params → Notes := fun x => { loops := fun n => Lc.look n [(2, { see := [], ann := fun _ => { frz := [2, 3], keep := [2, 3], vars := [(5, .val (.int .i64))], inv := QCmp.inv2 x.1 x.2.1, mes := QCmp.mes2 x.1 x.2.1 } })], cuts := fun n => Lc.look n [], frz := fun _ => [] }
theorem tieQCmp : fnVC EQCmp conQCmp NQCmp (Try.f19.body.getD .skip) Try.f19.results.toList = QCmp.VC := by kernel_rfl
theorem okQCmp : Sound Try.prog gl 19 conQCmp := fn_sound (E := EQCmp) (ok_of (envOk_of (E := EQCmp) rfl rfl tabOk bytOk mutOk) rfl all21) follows (fn := Try.f19) Try.func19 (by kernel_rfl) (body := Try.f19.body.getD .skip) (by kernel_rfl) (by kernel_rfl) (of_decide_eq_true (by kernel_rfl)) (Eq.mpr tieQCmp QCmp.vc)
noncomputable def cs22 : List (Nat × Con) := (19, conQCmp) :: cs21
theorem all22 : SoundAll Try.prog gl cs22 := SoundAll.cons all21 okQCmp
noncomputable def conQBit : Con := { params := [.arr 4 (.int .u64), .int .i64], rets := [.deep (.bool)], pre := fun x => QBit.pre x.1 x.2.1, fn := fun x => (QBit.fn x.1 x.2.1, ()) }
noncomputable def EQBit : Env := { P := Try.prog, ty := fun n => Lc.look n tyT, bytes := fun n => (Lc.look n byT).getD 0, glob := gl, con := fun f => Lc.look f cs22, wr := [], ntm := 14, lock := [], turn := fun f => Lc.look f mutT }
noncomputable def NQBit : Tup conQBit.params → Notes := fun _ => { loops := fun n => Lc.look n [], cuts := fun n => Lc.look n [], frz := fun _ => [] }
theorem tieQBit : fnVC EQBit conQBit NQBit (Try.f41.body.getD .skip) Try.f41.results.toList = QBit.VC := by kernel_rfl
theorem okQBit : Sound Try.prog gl 41 conQBit := fn_sound (E := EQBit) (ok_of (envOk_of (E := EQBit) rfl rfl tabOk bytOk mutOk) rfl all22) follows (fn := Try.f41) Try.func41 (by kernel_rfl) (body := Try.f41.body.getD .skip) (by kernel_rfl) (by kernel_rfl) (of_decide_eq_true (by kernel_rfl)) (Eq.mpr tieQBit QBit.vc)
noncomputable def cs23 : List (Nat × Con) := (41, conQBit) :: cs22
theorem all23 : SoundAll Try.prog gl cs23 := SoundAll.cons all22 okQBit
noncomputable def conQLen : Con := { params := [.arr 4 (.int .u64)], rets := [.deep (.int .i64)], pre := fun x => QLen.pre x.1, fn := fun x => (QLen.fn x.1, ()) }
noncomputable def EQLen : Env := { P := Try.prog, ty := fun n => Lc.look n tyT, bytes := fun n => (Lc.look n byT).getD 0, glob := gl, con := fun f => Lc.look f cs23, wr := [], ntm := 13, lock := [], turn := fun f => Lc.look f mutT }
noncomputable def NQLen : Tup conQLen.params → Notes := fun x => { loops := fun n => Lc.look n [(2, { see := [], ann := fun _ => { frz := [1], keep := [1], vars := [(3, .val (.int .i64))], inv := QLen.inv2 x.1, mes := QLen.mes2 x.1 } })], cuts := fun n => Lc.look n [], frz := fun _ => [] }
theorem tieQLen : fnVC EQLen conQLen NQLen (Try.f39.body.getD .skip) Try.f39.results.toList = QLen.VC := by kernel_rfl
theorem okQLen : Sound Try.prog gl 39 conQLen := fn_sound (E := EQLen) (ok_of (envOk_of (E := EQLen) rfl rfl tabOk bytOk mutOk) rfl all23) follows (fn := Try.f39) Try.func39 (by kernel_rfl) (body := Try.f39.body.getD .skip) (by kernel_rfl) (by kernel_rfl) (of_decide_eq_true (by kernel_rfl)) (Eq.mpr tieQLen QLen.vc)
noncomputable def cs24 : List (Nat × Con) := (39, conQLen) :: cs23
theorem all24 : SoundAll Try.prog gl cs24 := SoundAll.cons all23 okQLen
noncomputable def conQAdd : Con := { params := [.arr 4 (.int .u64), .arr 4 (.int .u64)], rets := [.deep (.arr 4 (.int .u64)), .deep (.bool)], pre := fun x => QAdd.pre x.1 x.2.1, fn := fun x => ((QAdd.fn x.1 x.2.1).1, ((QAdd.fn x.1 x.2.1).2, ())) }
noncomputable def EQAdd : Env := { P := Try.prog, ty := fun n => Lc.look n tyT, bytes := fun n => (Lc.look n byT).getD 0, glob := gl, con := fun f => Lc.look f cs24, wr := [], ntm := 29, lock := [], turn := fun f => Lc.look f mutT }
noncomputable def NQAdd : Tup conQAdd.params → Notes := fun x => { loops := fun n => Lc.look n [(4, { see := [], ann := fun _ => { frz := [2, 3], keep := [2, 3], vars := [(4, .ptr (.arr 4 (.int .u64))), (6, .ptr (.arr 4 (.int .u64))), (7, .val (.int .u64)), (9, .val (.int .i64))], inv := QAdd.inv4 x.1 x.2.1, mes := QAdd.mes4 x.1 x.2.1 } })], cuts := fun n => Lc.look n [], frz := fun _ => [] }
theorem tieQAdd : fnVC EQAdd conQAdd NQAdd (Try.f52.body.getD .skip) Try.f52.results.toList = QAdd.VC := by kernel_rfl
theorem okQAdd : Sound Try.prog gl 52 conQAdd := fn_sound (E := EQAdd) (ok_of (envOk_of (E := EQAdd) rfl rfl tabOk bytOk mutOk) rfl all24) follows (fn := Try.f52) Try.func52 (by kernel_rfl) (body := Try.f52.body.getD .skip) (by kernel_rfl) (by kernel_rfl) (of_decide_eq_true (by kernel_rfl)) (Eq.mpr tieQAdd QAdd.vc)
noncomputable def cs25 : List (Nat × Con) := (52, conQAdd) :: cs24
theorem all25 : SoundAll Try.prog gl cs25 := SoundAll.cons all24 okQAdd
noncomputable def conQSub : Con := { params := [.arr 4 (.int .u64), .arr 4 (.int .u64)], rets := [.deep (.arr 4 (.int .u64)), .deep (.bool)], pre := fun x => QSub.pre x.1 x.2.1, fn := fun x => ((QSub.fn x.1 x.2.1).1, ((QSub.fn x.1 x.2.1).2, ())) }
noncomputable def EQSub : Env := { P := Try.prog, ty := fun n => Lc.look n tyT, bytes := fun n => (Lc.look n byT).getD 0, glob := gl, con := fun f => Lc.look f cs25, wr := [], ntm := 29, lock := [], turn := fun f => Lc.look f mutT }
noncomputable def NQSub : Tup conQSub.params → Notes := fun x => { loops := fun n => Lc.look n [(4, { see := [], ann := fun _ => { frz := [2, 3], keep := [2, 3], vars := [(4, .ptr (.arr 4 (.int .u64))), (6, .ptr (.arr 4 (.int .u64))), (7, .val (.int .u64)), (9, .val (.int .i64))], inv := QSub.inv4 x.1 x.2.1, mes := QSub.mes4 x.1 x.2.1 } })], cuts := fun n => Lc.look n [], frz := fun _ => [] }
theorem tieQSub : fnVC EQSub conQSub NQSub (Try.f53.body.getD .skip) Try.f53.results.toList = QSub.VC := by kernel_rfl
theorem okQSub : Sound Try.prog gl 53 conQSub := fn_sound (E := EQSub) (ok_of (envOk_of (E := EQSub) rfl rfl tabOk bytOk mutOk) rfl all25) follows (fn := Try.f53) Try.func53 (by kernel_rfl) (body := Try.f53.body.getD .skip) (by kernel_rfl) (by kernel_rfl) (of_decide_eq_true (by kernel_rfl)) (Eq.mpr tieQSub QSub.vc)
noncomputable def cs26 : List (Nat × Con) := (53, conQSub) :: cs25
theorem all26 : SoundAll Try.prog gl cs26 := SoundAll.cons all25 okQSub
noncomputable def conQMul : Con := { params := [.arr 4 (.int .u64), .arr 4 (.int .u64)], rets := [.deep (.arr 4 (.int .u64)), .deep (.arr 4 (.int .u64))], pre := fun x => QMul.pre x.1 x.2.1, fn := fun x => ((QMul.fn x.1 x.2.1).1, ((QMul.fn x.1 x.2.1).2, ())) }
noncomputable def EQMul : Env := { P := Try.prog, ty := fun n => Lc.look n tyT, bytes := fun n => (Lc.look n byT).getD 0, glob := gl, con := fun f => Lc.look f cs26, wr := [], ntm := 71, lock := [], turn := fun f => Lc.look f mutT }
noncomputable def NQMul : Tup conQMul.params → Notes := fun x => { loops := fun n => Lc.look n [(3, { see := [], ann := fun _ => { frz := [2, 3], keep := [2, 3], vars := [(4, .ptr (.arr 4 (.int .u64))), (5, .ptr (.arr 4 (.int .u64))), (6, .ptr (.arr 8 (.int .u64))), (15, .val (.int .i64))], inv := QMul.inv3 x.1 x.2.1, mes := QMul.mes3 x.1 x.2.1 } }), (7, { see := [(7, .val (.int .i64))], ann := fun y => { frz := [], keep := [2, 3, 7, 15], vars := [(4, .ptr (.arr 4 (.int .u64))), (5, .ptr (.arr 4 (.int .u64))), (6, .ptr (.arr 8 (.int .u64))), (8, .val (.int .u64)), (18, .val (.int .i64))], inv := QMul.inv7 x.1 x.2.1 y.1, mes := QMul.mes7 x.1 x.2.1 y.1 } })], cuts := fun n => Lc.look n [], frz := fun _ => [] }
theorem tieQMul : fnVC EQMul conQMul NQMul (Try.f36.body.getD .skip) Try.f36.results.toList = QMul.VC := by kernel_rfl
theorem okQMul : Sound Try.prog gl 36 conQMul := fn_sound (E := EQMul) (ok_of (envOk_of (E := EQMul) rfl rfl tabOk bytOk mutOk) rfl all26) follows (fn := Try.f36) Try.func36 (by kernel_rfl) (body := Try.f36.body.getD .skip) (by kernel_rfl) (by kernel_rfl) (of_decide_eq_true (by kernel_rfl)) (Eq.mpr tieQMul QMul.vc)
noncomputable def cs27 : List (Nat × Con) := (36, conQMul) :: cs26
theorem all27 : SoundAll Try.prog gl cs27 := SoundAll.cons all26 okQMul
noncomputable def conQDiv : Con := { params := [.arr 4 (.int .u64), .arr 4 (.int .u64), .arr 4 (.int .u64)], rets := [.deep (.arr 4 (.int .u64)), .deep (.arr 4 (.int .u64)), .deep (.bool)], pre := fun x => QDiv.pre x.1 x.2.1 x.2.2.1, fn := fun x => ((QDiv.fn x.1 x.2.1 x.2.2.1).1, ((QDiv.fn x.1 x.2.1 x.2.2.1).2.1, ((QDiv.fn x.1 x.2.1 x.2.2.1).2.2, ()))) }
noncomputable def EQDiv : Env := { P := Try.prog, ty := fun n => Lc.look n tyT, bytes := fun n => (Lc.look n byT).getD 0, glob := gl, con := fun f => Lc.look f cs27, wr := [], ntm := 61, lock := [], turn := fun f => Lc.look f mutT }
noncomputable def NQDiv : Tup conQDiv.params → Notes := fun x => { loops := fun n => Lc.look n [(5, { see := [], ann := fun _ => { frz := [4, 5], keep := [4, 5], vars := [(6, .ptr (.arr 4 (.int .u64))), (7, .ptr (.arr 4 (.int .u64))), (9, .val (.int .i64))], inv := QDiv.inv5 x.1 x.2.1 x.2.2.1, mes := QDiv.mes5 x.1 x.2.1 x.2.2.1 } })], cuts := fun n => Lc.look n [], frz := fun _ => [] }
theorem tieQDiv : fnVC EQDiv conQDiv NQDiv (Try.f38.body.getD .skip) Try.f38.results.toList = QDiv.VC := by kernel_rfl
theorem okQDiv : Sound Try.prog gl 38 conQDiv := fn_sound (E := EQDiv) (ok_of (envOk_of (E := EQDiv) rfl rfl tabOk bytOk mutOk) rfl all27) follows (fn := Try.f38) Try.func38 (by kernel_rfl) (body := Try.f38.body.getD .skip) (by kernel_rfl) (by kernel_rfl) (of_decide_eq_true (by kernel_rfl)) (Eq.mpr tieQDiv QDiv.vc)
noncomputable def cs28 : List (Nat × Con) := (38, conQDiv) :: cs27
theorem all28 : SoundAll Try.prog gl cs28 := SoundAll.cons all27 okQDiv
noncomputable def conQShl : Con := { params := [.arr 4 (.int .u64), .int .i64], rets := [.deep (.arr 4 (.int .u64))], pre := fun x => QShl.pre x.1 x.2.1, fn := fun x => (QShl.fn x.1 x.2.1, ()) }
noncomputable def EQShl : Env := { P := Try.prog, ty := fun n => Lc.look n tyT, bytes := fun n => (Lc.look n byT).getD 0, glob := gl, con := fun f => Lc.look f cs28, wr := [], ntm := 19, lock := [], turn := fun f => Lc.look f mutT }
noncomputable def NQShl : Tup conQShl.params → Notes := fun x => { loops := fun n => Lc.look n [(3, { see := [], ann := fun _ => { frz := [], keep := [], vars := [(1, .val (.int .i64)), (2, .ptr (.arr 4 (.int .u64))), (4, .ptr (.arr 4 (.int .u64)))], inv := QShl.inv3 x.1 x.2.1, mes := QShl.mes3 x.1 x.2.1 } })], cuts := fun n => Lc.look n [], frz := fun _ => [] }
theorem tieQShl : fnVC EQShl conQShl NQShl (Try.f40.body.getD .skip) Try.f40.results.toList = QShl.VC := by kernel_rfl
theorem okQShl : Sound Try.prog gl 40 conQShl := fn_sound (E := EQShl) (ok_of (envOk_of (E := EQShl) rfl rfl tabOk bytOk mutOk) rfl all28) follows (fn := Try.f40) Try.func40 (by kernel_rfl) (body := Try.f40.body.getD .skip) (by kernel_rfl) (by kernel_rfl) (of_decide_eq_true (by kernel_rfl)) (Eq.mpr tieQShl QShl.vc)
noncomputable def cs29 : List (Nat × Con) := (40, conQShl) :: cs28
theorem all29 : SoundAll Try.prog gl cs29 := SoundAll.cons all28 okQShl
noncomputable def conQShr : Con := { params := [.arr 4 (.int .u64), .int .i64], rets := [.deep (.arr 4 (.int .u64))], pre := fun x => QShr.pre x.1 x.2.1, fn := fun x => (QShr.fn x.1 x.2.1, ()) }
noncomputable def EQShr : Env := { P := Try.prog, ty := fun n => Lc.look n tyT, bytes := fun n => (Lc.look n byT).getD 0, glob := gl, con := fun f => Lc.look f cs29, wr := [], ntm := 34, lock := [], turn := fun f => Lc.look f mutT }
noncomputable def NQShr : Tup conQShr.params → Notes := fun x => { loops := fun n => Lc.look n [(7, { see := [], ann := fun _ => { frz := [2], keep := [1, 2], vars := [(4, .ptr (.arr 4 (.int .u64))), (5, .ptr (.arr 4 (.int .u64))), (6, .val (.int .i64))], inv := QShr.inv7 x.1 x.2.1, mes := QShr.mes7 x.1 x.2.1 } })], cuts := fun n => Lc.look n [], frz := fun _ => [] }
theorem tieQShr : fnVC EQShr conQShr NQShr (Try.f20.body.getD .skip) Try.f20.results.toList = QShr.VC := by kernel_rfl
theorem okQShr : Sound Try.prog gl 20 conQShr := fn_sound (E := EQShr) (ok_of (envOk_of (E := EQShr) rfl rfl tabOk bytOk mutOk) rfl all29) follows (fn := Try.f20) Try.func20 (by kernel_rfl) (body := Try.f20.body.getD .skip) (by kernel_rfl) (by kernel_rfl) (of_decide_eq_true (by kernel_rfl)) (Eq.mpr tieQShr QShr.vc)
noncomputable def cs30 : List (Nat × Con) := (20, conQShr) :: cs29
theorem all30 : SoundAll Try.prog gl cs30 := SoundAll.cons all29 okQShr
noncomputable def conQNot : Con := { params := [.arr 4 (.int .u64)], rets := [.deep (.arr 4 (.int .u64))], pre := fun x => QNot.pre x.1, fn := fun x => (QNot.fn x.1, ()) }
noncomputable def EQNot : Env := { P := Try.prog, ty := fun n => Lc.look n tyT, bytes := fun n => (Lc.look n byT).getD 0, glob := gl, con := fun f => Lc.look f cs30, wr := [], ntm := 16, lock := [], turn := fun f => Lc.look f mutT }
noncomputable def NQNot : Tup conQNot.params → Notes := fun _ => { loops := fun n => Lc.look n [], cuts := fun n => Lc.look n [], frz := fun _ => [] }
theorem tieQNot : fnVC EQNot conQNot NQNot (Try.f54.body.getD .skip) Try.f54.results.toList = QNot.VC := by kernel_rfl
theorem okQNot : Sound Try.prog gl 54 conQNot := fn_sound (E := EQNot) (ok_of (envOk_of (E := EQNot) rfl rfl tabOk bytOk mutOk) rfl all30) follows (fn := Try.f54) Try.func54 (by kernel_rfl) (body := Try.f54.body.getD .skip) (by kernel_rfl) (by kernel_rfl) (of_decide_eq_true (by kernel_rfl)) (Eq.mpr tieQNot QNot.vc)
noncomputable def cs31 : List (Nat × Con) := (54, conQNot) :: cs30
theorem all31 : SoundAll Try.prog gl cs31 := SoundAll.cons all30 okQNot
noncomputable def conQZero : Con := { params := [.arr 4 (.int .u64)], rets := [.deep (.bool)], pre := fun x => QZero.pre x.1, fn := fun x => (QZero.fn x.1, ()) }
noncomputable def EQZero : Env := { P := Try.prog, ty := fun n => Lc.look n tyT, bytes := fun n => (Lc.look n byT).getD 0, glob := gl, con := fun f => Lc.look f cs31, wr := [], ntm := 6, lock := [], turn := fun f => Lc.look f mutT }
noncomputable def NQZero : Tup conQZero.params → Notes := fun _ => { loops := fun n => Lc.look n [], cuts := fun n => Lc.look n [], frz := fun _ => [] }
theorem tieQZero : fnVC EQZero conQZero NQZero (Try.f28.body.getD .skip) Try.f28.results.toList = QZero.VC := by kernel_rfl
theorem okQZero : Sound Try.prog gl 28 conQZero := fn_sound (E := EQZero) (ok_of (envOk_of (E := EQZero) rfl rfl tabOk bytOk mutOk) rfl all31) follows (fn := Try.f28) Try.func28 (by kernel_rfl) (body := Try.f28.body.getD .skip) (by kernel_rfl) (by kernel_rfl) (of_decide_eq_true (by kernel_rfl)) (Eq.mpr tieQZero QZero.vc)
noncomputable def cs32 : List (Nat × Con) := (28, conQZero) :: cs31
theorem all32 : SoundAll Try.prog gl cs32 := SoundAll.cons all31 okQZero
noncomputable def conQExpand : Con := { params := [.int .u32], rets := [.deep (.arr 4 (.int .u64)), .deep (.int .i64)], pre := fun x => QExpand.pre x.1, fn := fun x => ((QExpand.fn x.1).1, ((QExpand.fn x.1).2, ())) }
noncomputable def EQExpand : Env := { P := Try.prog, ty := fun n => Lc.look n tyT, bytes := fun n => (Lc.look n byT).getD 0, glob := gl, con := fun f => Lc.look f cs32, wr := [], ntm := 48, lock := [], turn := fun f => Lc.look f mutT }
noncomputable def NQExpand : Tup conQExpand.params → Notes := fun _ => { loops := fun n => Lc.look n [], cuts := fun n => Lc.look n [], frz := fun _ => [] }
theorem tieQExpand : fnVC EQExpand conQExpand NQExpand (Try.f18.body.getD .skip) Try.f18.results.toList = QExpand.VC := by kernel_rfl
theorem okQExpand : Sound Try.prog gl 18 conQExpand := fn_sound (E := EQExpand) (ok_of (envOk_of (E := EQExpand) rfl rfl tabOk bytOk mutOk) rfl all32) follows (fn := Try.f18) Try.func18 (by kernel_rfl) (body := Try.f18.body.getD .skip) (by kernel_rfl) (by kernel_rfl) (of_decide_eq_true (by kernel_rfl)) (Eq.mpr tieQExpand QExpand.vc)
noncomputable def cs33 : List (Nat × Con) := (18, conQExpand) :: cs32
theorem all33 : SoundAll Try.prog gl cs33 := SoundAll.cons all32 okQExpand
noncomputable def conQCompact : Con := { params := [.arr 4 (.int .u64)], rets := [.deep (.int .u32)], pre := fun x => QCompact.pre x.1, fn := fun x => (QCompact.fn x.1, ()) }
noncomputable def EQCompact : Env := { P := Try.prog, ty := fun n => Lc.look n tyT, bytes := fun n => (Lc.look n byT).getD 0, glob := gl, con := fun f => Lc.look f cs33, wr := [], ntm := 40, lock := [], turn := fun f => Lc.look f mutT }
noncomputable def NQCompact : Tup conQCompact.params → Notes := fun x => { loops := fun n => Lc.look n [(5, { see := [], ann := fun _ => { frz := [1], keep := [1], vars := [(3, .val (.int .i64))], inv := QCompact.inv5 x.1, mes := QCompact.mes5 x.1 } })], cuts := fun n => Lc.look n [], frz := fun _ => [] }
theorem tieQCompact : fnVC EQCompact conQCompact NQCompact (Try.f24.body.getD .skip) Try.f24.results.toList = QCompact.VC := by kernel_rfl
theorem okQCompact : Sound Try.prog gl 24 conQCompact := fn_sound (E := EQCompact) (ok_of (envOk_of (E := EQCompact) rfl rfl tabOk bytOk mutOk) rfl all33) follows (fn := Try.f24) Try.func24 (by kernel_rfl) (body := Try.f24.body.getD .skip) (by kernel_rfl) (by kernel_rfl) (of_decide_eq_true (by kernel_rfl)) (Eq.mpr tieQCompact QCompact.vc)
noncomputable def cs34 : List (Nat × Con) := (24, conQCompact) :: cs33
theorem all34 : SoundAll Try.prog gl cs34 := SoundAll.cons all33 okQCompact
noncomputable def conQValid : Con := { params := [.pair (.pair (.int .u32) (.pair (.arr 32 (.int .u8)) (.pair (.arr 32 (.int .u8)) (.pair (.int .u32) (.pair (.int .u32) (.pair (.int .u32) (.unit))))))) (.pair (.arr 4 (.int .u64)) (.pair (.int .i64) (.pair (.int .u32) (.pair (.int .u32) (.pair (.int .u32) (.pair (.slc (.pair (.int .i64) (.pair (.arr 32 (.int .u8)) (.unit)))) (.pair (.int .i64) (.pair (.int .i64) (.pair (.int .i64) (.unit))))))))))], rets := [.deep (.bool)], pre := fun x => QValid.pre x.1, fn := fun x => (QValid.fn x.1, ()) }
noncomputable def EQValid : Env := { P := Try.prog, ty := fun n => Lc.look n tyT, bytes := fun n => (Lc.look n byT).getD 0, glob := gl, con := fun f => Lc.look f cs34, wr := [], ntm := 107, lock := [], turn := fun f => Lc.look f mutT }
noncomputable def NQValid : Tup conQValid.params → Notes := fun x => { loops := fun n => Lc.look n [(6, { see := [], ann := fun _ => { frz := [1], keep := [1, 59, 60], vars := [(61, .val (.int .i64))], inv := QValid.inv6 x.1, mes := QValid.mes6 x.1 } })], cuts := fun n => Lc.look n [], frz := fun _ => [] }
theorem tieQValid : fnVC EQValid conQValid NQValid (Try.f13.body.getD .skip) Try.f13.results.toList = QValid.VC := by kernel_rfl
theorem okQValid : Sound Try.prog gl 13 conQValid := fn_sound (E := EQValid) (ok_of (envOk_of (E := EQValid) rfl rfl tabOk bytOk mutOk) rfl all34) follows (fn := Try.f13) Try.func13 (by kernel_rfl) (body := Try.f13.body.getD .skip) (by kernel_rfl) (by kernel_rfl) (of_decide_eq_true (by kernel_rfl)) (Eq.mpr tieQValid QValid.vc)
noncomputable def cs35 : List (Nat × Con) := (13, conQValid) :: cs34
theorem all35 : SoundAll Try.prog gl cs35 := SoundAll.cons all34 okQValid
noncomputable def conQMedian : Con := { params := [.slc (.int .u32)], rets := [.deep (.int .u32)], pre := fun x => QMedian.pre x.1, fn := fun x => (QMedian.fn x.1, ()) }
noncomputable def EQMedian : Env := { P := Try.prog, ty := fun n => Lc.look n tyT, bytes := fun n => (Lc.look n byT).getD 0, glob := gl, con := fun f => Lc.look f cs35, wr := [], ntm := 48, lock := [], turn := fun f => Lc.look f mutT }
noncomputable def NQMedian : Tup conQMedian.params → Notes := fun x => { loops := fun n => Lc.look n [(3, { see := [], ann := fun _ => { frz := [], keep := [7, 8], vars := [(3, .val (.slc (.int .u32))), (9, .val (.int .i64))], inv := QMedian.inv3 x.1, mes := QMedian.mes3 x.1 } }), (6, { see := [(3, .val (.slc (.int .u32))), (5, .val (.int .u32)), (9, .val (.int .i64))], ann := fun y => { frz := [], keep := [3, 5, 7, 8, 9], vars := [(6, .val (.int .i64))], inv := QMedian.inv6 x.1 y.1 y.2.1 y.2.2.1, mes := QMedian.mes6 x.1 y.1 y.2.1 y.2.2.1 } })], cuts := fun n => Lc.look n [], frz := fun _ => [] }
theorem tieQMedian : fnVC EQMedian conQMedian NQMedian (Try.f15.body.getD .skip) Try.f15.results.toList = QMedian.VC := by kernel_rfl
theorem okQMedian : Sound Try.prog gl 15 conQMedian := fn_sound (E := EQMedian) (ok_of (envOk_of (E := EQMedian) rfl rfl tabOk bytOk mutOk) rfl all35) follows (fn := Try.f15) Try.func15 (by kernel_rfl) (body := Try.f15.body.getD .skip) (by kernel_rfl) (by kernel_rfl) (of_decide_eq_true (by kernel_rfl)) (Eq.mpr tieQMedian QMedian.vc)
noncomputable def cs36 : List (Nat × Con) := (15, conQMedian) :: cs35
theorem all36 : SoundAll Try.prog gl cs36 := SoundAll.cons all35 okQMedian
noncomputable def conQAdjust : Con := { params := [.pair (.pair (.int .u32) (.pair (.arr 32 (.int .u8)) (.pair (.arr 32 (.int .u8)) (.pair (.int .u32) (.pair (.int .u32) (.pair (.int .u32) (.unit))))))) (.pair (.arr 4 (.int .u64)) (.pair (.int .i64) (.pair (.int .u32) (.pair (.int .u32) (.pair (.int .u32) (.pair (.slc (.pair (.int .i64) (.pair (.arr 32 (.int .u8)) (.unit)))) (.pair (.int .i64) (.pair (.int .i64) (.pair (.int .i64) (.unit)))))))))), .int .u32, .int .u32, .int .u32], rets := [.deep (.int .u32), .deep (.int .i64)], pre := fun x => QAdjust.pre x.1 x.2.1 x.2.2.1 x.2.2.2.1, fn := fun x => ((QAdjust.fn x.1 x.2.1 x.2.2.1 x.2.2.2.1).1, ((QAdjust.fn x.1 x.2.1 x.2.2.1 x.2.2.2.1).2, ())) }
noncomputable def EQAdjust : Env := { P := Try.prog, ty := fun n => Lc.look n tyT, bytes := fun n => (Lc.look n byT).getD 0, glob := gl, con := fun f => Lc.look f cs36, wr := [], ntm := 83, lock := [], turn := fun f => Lc.look f mutT }
noncomputable def NQAdjust : Tup conQAdjust.params → Notes := fun _ => { loops := fun n => Lc.look n [], cuts := fun n => Lc.look n [], frz := fun _ => [] }
theorem tieQAdjust : fnVC EQAdjust conQAdjust NQAdjust (Try.f17.body.getD .skip) Try.f17.results.toList = QAdjust.VC := by kernel_rfl
theorem okQAdjust : Sound Try.prog gl 17 conQAdjust := fn_sound (E := EQAdjust) (ok_of (envOk_of (E := EQAdjust) rfl rfl tabOk bytOk mutOk) rfl all36) follows (fn := Try.f17) Try.func17 (by kernel_rfl) (body := Try.f17.body.getD .skip) (by kernel_rfl) (by kernel_rfl) (of_decide_eq_true (by kernel_rfl)) (Eq.mpr tieQAdjust QAdjust.vc)
noncomputable def cs37 : List (Nat × Con) := (17, conQAdjust) :: cs36
theorem all37 : SoundAll Try.prog gl cs37 := SoundAll.cons all36 okQAdjust
noncomputable def conQNext : Con := { params := [.pair (.pair (.int .u32) (.pair (.arr 32 (.int .u8)) (.pair (.arr 32 (.int .u8)) (.pair (.int .u32) (.pair (.int .u32) (.pair (.int .u32) (.unit))))))) (.pair (.arr 4 (.int .u64)) (.pair (.int .i64) (.pair (.int .u32) (.pair (.int .u32) (.pair (.int .u32) (.pair (.slc (.pair (.int .i64) (.pair (.arr 32 (.int .u8)) (.unit)))) (.pair (.int .i64) (.pair (.int .i64) (.pair (.int .i64) (.unit)))))))))), .pair (.int .i64) (.pair (.arr 32 (.int .u8)) (.pair (.int .u32) (.pair (.int .u32) (.pair (.slc (.int .u32)) (.unit)))))], rets := [.deep (.int .u32), .deep (.int .i64)], pre := fun x => QNext.pre x.1 x.2.1, fn := fun x => ((QNext.fn x.1 x.2.1).1, ((QNext.fn x.1 x.2.1).2, ())) }
noncomputable def EQNext : Env := { P := Try.prog, ty := fun n => Lc.look n tyT, bytes := fun n => (Lc.look n byT).getD 0, glob := gl, con := fun f => Lc.look f cs37, wr := [], ntm := 56, lock := [], turn := fun f => Lc.look f mutT }
noncomputable def NQNext : Tup conQNext.params → Notes := fun _ => { loops := fun n => Lc.look n [], cuts := fun n => Lc.look n [], frz := fun _ => [] }
theorem tieQNext : fnVC EQNext conQNext NQNext (Try.f23.body.getD .skip) Try.f23.results.toList = QNext.VC := by kernel_rfl
theorem okQNext : Sound Try.prog gl 23 conQNext := fn_sound (E := EQNext) (ok_of (envOk_of (E := EQNext) rfl rfl tabOk bytOk mutOk) rfl all37) follows (fn := Try.f23) Try.func23 (by kernel_rfl) (body := Try.f23.body.getD .skip) (by kernel_rfl) (by kernel_rfl) (of_decide_eq_true (by kernel_rfl)) (Eq.mpr tieQNext QNext.vc)
noncomputable def cs38 : List (Nat × Con) := (23, conQNext) :: cs37
theorem all38 : SoundAll Try.prog gl cs38 := SoundAll.cons all37 okQNext
noncomputable def conMParams : Con := { params := [.int .u8], rets := [.deep (.pair (.pair (.int .u32) (.pair (.arr 32 (.int .u8)) (.pair (.arr 32 (.int .u8)) (.pair (.int .u32) (.pair (.int .u32) (.pair (.int .u32) (.unit))))))) (.pair (.arr 4 (.int .u64)) (.pair (.int .i64) (.pair (.int .u32) (.pair (.int .u32) (.pair (.int .u32) (.pair (.slc (.pair (.int .i64) (.pair (.arr 32 (.int .u8)) (.unit)))) (.pair (.int .i64) (.pair (.int .i64) (.pair (.int .i64) (.unit)))))))))))], pre := fun x => MParams.pre x.1, fn := fun x => (MParams.fn x.1, ()) }
noncomputable def EMParams : Env := { P := Try.prog, ty := fun n => Lc.look n tyT, bytes := fun n => (Lc.look n byT).getD 0, glob := gl, con := fun f => Lc.look f cs38, wr := [], ntm := 22, lock := [], turn := fun f => Lc.look f mutT }
noncomputable def NMParams : Tup conMParams.params → Notes := fun _ => { loops := fun n => Lc.look n [], cuts := fun n => Lc.look n [], frz := fun _ => [] }
theorem tieMParams : fnVC EMParams conMParams NMParams (Try.f42.body.getD .skip) Try.f42.results.toList = MParams.VC := by kernel_rfl
theorem okMParams : Sound Try.prog gl 42 conMParams := fn_sound (E := EMParams) (ok_of (envOk_of (E := EMParams) rfl rfl tabOk bytOk mutOk) rfl all38) follows (fn := Try.f42) Try.func42 (by kernel_rfl) (body := Try.f42.body.getD .skip) (by kernel_rfl) (by kernel_rfl) (of_decide_eq_true (by kernel_rfl)) (Eq.mpr tieMParams MParams.vc)
noncomputable def cs39 : List (Nat × Con) := (42, conMParams) :: cs38
theorem all39 : SoundAll Try.prog gl cs39 := SoundAll.cons all38 okMParams
noncomputable def conKParams : Con := { params := [.pair (.pair (.int .u32) (.pair (.arr 32 (.int .u8)) (.pair (.arr 32 (.int .u8)) (.pair (.int .u32) (.pair (.int .u32) (.pair (.int .u32) (.unit))))))) (.pair (.arr 4 (.int .u64)) (.pair (.int .i64) (.pair (.int .u32) (.pair (.int .u32) (.pair (.int .u32) (.pair (.slc (.pair (.int .i64) (.pair (.arr 32 (.int .u8)) (.unit)))) (.pair (.int .i64) (.pair (.int .i64) (.pair (.int .i64) (.unit))))))))))], rets := [.deep (.bool)], pre := fun x => KParams.pre x.1, fn := fun x => (KParams.fn x.1, ()) }
noncomputable def EKParams : Env := { P := Try.prog, ty := fun n => Lc.look n tyT, bytes := fun n => (Lc.look n byT).getD 0, glob := gl, con := fun f => Lc.look f cs39, wr := [], ntm := 7, lock := [], turn := fun f => Lc.look f mutT }
noncomputable def NKParams : Tup conKParams.params → Notes := fun _ => { loops := fun n => Lc.look n [], cuts := fun n => Lc.look n [], frz := fun _ => [] }
theorem tieKParams : fnVC EKParams conKParams NKParams (Try.f11.body.getD .skip) Try.f11.results.toList = KParams.VC := by kernel_rfl
theorem okKParams : Sound Try.prog gl 11 conKParams := fn_sound (E := EKParams) (ok_of (envOk_of (E := EKParams) rfl rfl tabOk bytOk mutOk) rfl all39) follows (fn := Try.f11) Try.func11 (by kernel_rfl) (body := Try.f11.body.getD .skip) (by kernel_rfl) (by kernel_rfl) (of_decide_eq_true (by kernel_rfl)) (Eq.mpr tieKParams KParams.vc)
noncomputable def cs40 : List (Nat × Con) := (11, conKParams) :: cs39
theorem all40 : SoundAll Try.prog gl cs40 := SoundAll.cons all39 okKParams
noncomputable def conKContext : Con := { params := [.pair (.int .i64) (.pair (.arr 32 (.int .u8)) (.pair (.int .u32) (.pair (.int .u32) (.pair (.slc (.int .u32)) (.unit)))))], rets := [.deep (.bool)], pre := fun x => KContext.pre x.1, fn := fun x => (KContext.fn x.1, ()) }
noncomputable def EKContext : Env := { P := Try.prog, ty := fun n => Lc.look n tyT, bytes := fun n => (Lc.look n byT).getD 0, glob := gl, con := fun f => Lc.look f cs40, wr := [], ntm := 7, lock := [], turn := fun f => Lc.look f mutT }
noncomputable def NKContext : Tup conKContext.params → Notes := fun _ => { loops := fun n => Lc.look n [], cuts := fun n => Lc.look n [], frz := fun _ => [] }
theorem tieKContext : fnVC EKContext conKContext NKContext (Try.f21.body.getD .skip) Try.f21.results.toList = KContext.VC := by kernel_rfl
theorem okKContext : Sound Try.prog gl 21 conKContext := fn_sound (E := EKContext) (ok_of (envOk_of (E := EKContext) rfl rfl tabOk bytOk mutOk) rfl all40) follows (fn := Try.f21) Try.func21 (by kernel_rfl) (body := Try.f21.body.getD .skip) (by kernel_rfl) (by kernel_rfl) (of_decide_eq_true (by kernel_rfl)) (Eq.mpr tieKContext KContext.vc)
noncomputable def cs41 : List (Nat × Con) := (21, conKContext) :: cs40
theorem all41 : SoundAll Try.prog gl cs41 := SoundAll.cons all40 okKContext
noncomputable def conLParams : Con := { params := [], rets := [.deep (.pair (.pair (.int .u32) (.pair (.arr 32 (.int .u8)) (.pair (.arr 32 (.int .u8)) (.pair (.int .u32) (.pair (.int .u32) (.pair (.int .u32) (.unit))))))) (.pair (.arr 4 (.int .u64)) (.pair (.int .i64) (.pair (.int .u32) (.pair (.int .u32) (.pair (.int .u32) (.pair (.slc (.pair (.int .i64) (.pair (.arr 32 (.int .u8)) (.unit)))) (.pair (.int .i64) (.pair (.int .i64) (.pair (.int .i64) (.unit)))))))))))], pre := fun _ => LParams.pre, fn := fun _ => (LParams.fn, ()) }
noncomputable def ELParams : Env := { P := Try.prog, ty := fun n => Lc.look n tyT, bytes := fun n => (Lc.look n byT).getD 0, glob := gl, con := fun f => Lc.look f cs41, wr := [], ntm := 6, lock := [], turn := fun f => Lc.look f mutT }
noncomputable def NLParams : Tup conLParams.params → Notes := fun _ => { loops := fun n => Lc.look n [], cuts := fun n => Lc.look n [], frz := fun _ => [] }
theorem tieLParams : fnVC ELParams conLParams NLParams (Try.f25.body.getD .skip) Try.f25.results.toList = LParams.VC := by kernel_rfl
theorem okLParams : Sound Try.prog gl 25 conLParams := fn_sound (E := ELParams) (ok_of (envOk_of (E := ELParams) rfl rfl tabOk bytOk mutOk) rfl all41) follows (fn := Try.f25) Try.func25 (by kernel_rfl) (body := Try.f25.body.getD .skip) (by kernel_rfl) (by kernel_rfl) (of_decide_eq_true (by kernel_rfl)) (Eq.mpr tieLParams LParams.vc)
noncomputable def cs42 : List (Nat × Con) := (25, conLParams) :: cs41
theorem all42 : SoundAll Try.prog gl cs42 := SoundAll.cons all41 okLParams
noncomputable def conLSane : Con := { params := [], rets := [.deep (.bool)], pre := fun _ => LSane.pre, fn := fun _ => (LSane.fn, ()) }
noncomputable def ELSane : Env := { P := Try.prog, ty := fun n => Lc.look n tyT, bytes := fun n => (Lc.look n byT).getD 0, glob := gl, con := fun f => Lc.look f cs42, wr := [], ntm := 43, lock := [], turn := fun f => Lc.look f mutT }
noncomputable def NLSane : Tup conLSane.params → Notes := fun _ => { loops := fun n => Lc.look n [], cuts := fun n => Lc.look n [], frz := fun _ => [] }
theorem tieLSane : fnVC ELSane conLSane NLSane (Try.f10.body.getD .skip) Try.f10.results.toList = LSane.VC := by kernel_rfl
theorem okLSane : Sound Try.prog gl 10 conLSane := fn_sound (E := ELSane) (ok_of (envOk_of (E := ELSane) rfl rfl tabOk bytOk mutOk) rfl all42) follows (fn := Try.f10) Try.func10 (by kernel_rfl) (body := Try.f10.body.getD .skip) (by kernel_rfl) (by kernel_rfl) (of_decide_eq_true (by kernel_rfl)) (Eq.mpr tieLSane LSane.vc)
noncomputable def cs43 : List (Nat × Con) := (10, conLSane) :: cs42
theorem all43 : SoundAll Try.prog gl cs43 := SoundAll.cons all42 okLSane
noncomputable def conRetargetValid : Con := { params := [.pair (.pair (.int .u32) (.pair (.arr 32 (.int .u8)) (.pair (.arr 32 (.int .u8)) (.pair (.int .u32) (.pair (.int .u32) (.pair (.int .u32) (.unit))))))) (.pair (.arr 4 (.int .u64)) (.pair (.int .i64) (.pair (.int .u32) (.pair (.int .u32) (.pair (.int .u32) (.pair (.slc (.pair (.int .i64) (.pair (.arr 32 (.int .u8)) (.unit)))) (.pair (.int .i64) (.pair (.int .i64) (.pair (.int .i64) (.unit))))))))))], rets := [.deep (.bool)], pre := fun x => RetargetValid.pre x.1, fn := fun x => (RetargetValid.fn x.1, ()) }
noncomputable def ERetargetValid : Env := { P := Try.prog, ty := fun n => Lc.look n tyT, bytes := fun n => (Lc.look n byT).getD 0, glob := gl, con := fun f => Lc.look f cs43, wr := [], ntm := 15, lock := [], turn := fun f => Lc.look f mutT }
noncomputable def NRetargetValid : Tup conRetargetValid.params → Notes := fun _ => { loops := fun n => Lc.look n [], cuts := fun n => Lc.look n [], frz := fun _ => [] }
theorem tieRetargetValid : fnVC ERetargetValid conRetargetValid NRetargetValid (Try.f3.body.getD .skip) Try.f3.results.toList = RetargetValid.VC := by kernel_rfl
theorem okRetargetValid : Sound Try.prog gl 3 conRetargetValid := fn_sound (E := ERetargetValid) (ok_of (envOk_of (E := ERetargetValid) rfl rfl tabOk bytOk mutOk) rfl all43) follows (fn := Try.f3) Try.func3 (by kernel_rfl) (body := Try.f3.body.getD .skip) (by kernel_rfl) (by kernel_rfl) (of_decide_eq_true (by kernel_rfl)) (Eq.mpr tieRetargetValid RetargetValid.vc)
noncomputable def cs44 : List (Nat × Con) := (3, conRetargetValid) :: cs43
theorem all44 : SoundAll Try.prog gl cs44 := SoundAll.cons all43 okRetargetValid
noncomputable def conRetargetMedians : Con := { params := [.slc (.int .u32)], rets := [.deep (.bool)], pre := fun x => RetargetMedians.pre x.1, fn := fun x => (RetargetMedians.fn x.1, ()) }
noncomputable def ERetargetMedians : Env := { P := Try.prog, ty := fun n => Lc.look n tyT, bytes := fun n => (Lc.look n byT).getD 0, glob := gl, con := fun f => Lc.look f cs44, wr := [], ntm := 15, lock := [], turn := fun f => Lc.look f mutT }
noncomputable def NRetargetMedians : Tup conRetargetMedians.params → Notes := fun _ => { loops := fun n => Lc.look n [], cuts := fun n => Lc.look n [], frz := fun _ => [] }
theorem tieRetargetMedians : fnVC ERetargetMedians conRetargetMedians NRetargetMedians (Try.f4.body.getD .skip) Try.f4.results.toList = RetargetMedians.VC := by kernel_rfl
theorem okRetargetMedians : Sound Try.prog gl 4 conRetargetMedians := fn_sound (E := ERetargetMedians) (ok_of (envOk_of (E := ERetargetMedians) rfl rfl tabOk bytOk mutOk) rfl all44) follows (fn := Try.f4) Try.func4 (by kernel_rfl) (body := Try.f4.body.getD .skip) (by kernel_rfl) (by kernel_rfl) (of_decide_eq_true (by kernel_rfl)) (Eq.mpr tieRetargetMedians RetargetMedians.vc)
noncomputable def cs45 : List (Nat × Con) := (4, conRetargetMedians) :: cs44
theorem all45 : SoundAll Try.prog gl cs45 := SoundAll.cons all44 okRetargetMedians
noncomputable def conRetargetAdjusts : Con := { params := [.pair (.pair (.int .u32) (.pair (.arr 32 (.int .u8)) (.pair (.arr 32 (.int .u8)) (.pair (.int .u32) (.pair (.int .u32) (.pair (.int .u32) (.unit))))))) (.pair (.arr 4 (.int .u64)) (.pair (.int .i64) (.pair (.int .u32) (.pair (.int .u32) (.pair (.int .u32) (.pair (.slc (.pair (.int .i64) (.pair (.arr 32 (.int .u8)) (.unit)))) (.pair (.int .i64) (.pair (.int .i64) (.pair (.int .i64) (.unit)))))))))), .int .u32, .int .u32, .int .u32], rets := [.deep (.bool)], pre := fun x => RetargetAdjusts.pre x.1 x.2.1 x.2.2.1 x.2.2.2.1, fn := fun x => (RetargetAdjusts.fn x.1 x.2.1 x.2.2.1 x.2.2.2.1, ()) }
noncomputable def ERetargetAdjusts : Env := { P := Try.prog, ty := fun n => Lc.look n tyT, bytes := fun n => (Lc.look n byT).getD 0, glob := gl, con := fun f => Lc.look f cs45, wr := [], ntm := 42, lock := [], turn := fun f => Lc.look f mutT }
noncomputable def NRetargetAdjusts : Tup conRetargetAdjusts.params → Notes := fun _ => { loops := fun n => Lc.look n [], cuts := fun n => Lc.look n [], frz := fun _ => [] }
theorem tieRetargetAdjusts : fnVC ERetargetAdjusts conRetargetAdjusts NRetargetAdjusts (Try.f5.body.getD .skip) Try.f5.results.toList = RetargetAdjusts.VC := by kernel_rfl
theorem okRetargetAdjusts : Sound Try.prog gl 5 conRetargetAdjusts := fn_sound (E := ERetargetAdjusts) (ok_of (envOk_of (E := ERetargetAdjusts) rfl rfl tabOk bytOk mutOk) rfl all45) follows (fn := Try.f5) Try.func5 (by kernel_rfl) (body := Try.f5.body.getD .skip) (by kernel_rfl) (by kernel_rfl) (of_decide_eq_true (by kernel_rfl)) (Eq.mpr tieRetargetAdjusts RetargetAdjusts.vc)
noncomputable def cs46 : List (Nat × Con) := (5, conRetargetAdjusts) :: cs45
theorem all46 : SoundAll Try.prog gl cs46 := SoundAll.cons all45 okRetargetAdjusts
noncomputable def conRetargetClamped : Con := { params := [.pair (.pair (.int .u32) (.pair (.arr 32 (.int .u8)) (.pair (.arr 32 (.int .u8)) (.pair (.int .u32) (.pair (.int .u32) (.pair (.int .u32) (.unit))))))) (.pair (.arr 4 (.int .u64)) (.pair (.int .i64) (.pair (.int .u32) (.pair (.int .u32) (.pair (.int .u32) (.pair (.slc (.pair (.int .i64) (.pair (.arr 32 (.int .u8)) (.unit)))) (.pair (.int .i64) (.pair (.int .i64) (.pair (.int .i64) (.unit)))))))))), .int .u32, .int .u32, .int .u32], rets := [.deep (.bool)], pre := fun x => RetargetClamped.pre x.1 x.2.1 x.2.2.1 x.2.2.2.1, fn := fun x => (RetargetClamped.fn x.1 x.2.1 x.2.2.1 x.2.2.2.1, ()) }
noncomputable def ERetargetClamped : Env := { P := Try.prog, ty := fun n => Lc.look n tyT, bytes := fun n => (Lc.look n byT).getD 0, glob := gl, con := fun f => Lc.look f cs46, wr := [], ntm := 83, lock := [], turn := fun f => Lc.look f mutT }
noncomputable def NRetargetClamped : Tup conRetargetClamped.params → Notes := fun _ => { loops := fun n => Lc.look n [], cuts := fun n => Lc.look n [], frz := fun _ => [] }
theorem tieRetargetClamped : fnVC ERetargetClamped conRetargetClamped NRetargetClamped (Try.f6.body.getD .skip) Try.f6.results.toList = RetargetClamped.VC := by kernel_rfl
theorem okRetargetClamped : Sound Try.prog gl 6 conRetargetClamped := fn_sound (E := ERetargetClamped) (ok_of (envOk_of (E := ERetargetClamped) rfl rfl tabOk bytOk mutOk) rfl all46) follows (fn := Try.f6) Try.func6 (by kernel_rfl) (body := Try.f6.body.getD .skip) (by kernel_rfl) (by kernel_rfl) (of_decide_eq_true (by kernel_rfl)) (Eq.mpr tieRetargetClamped RetargetClamped.vc)
noncomputable def cs47 : List (Nat × Con) := (6, conRetargetClamped) :: cs46
theorem all47 : SoundAll Try.prog gl cs47 := SoundAll.cons all46 okRetargetClamped
noncomputable def conRetargetMonotone : Con := { params := [.pair (.pair (.int .u32) (.pair (.arr 32 (.int .u8)) (.pair (.arr 32 (.int .u8)) (.pair (.int .u32) (.pair (.int .u32) (.pair (.int .u32) (.unit))))))) (.pair (.arr 4 (.int .u64)) (.pair (.int .i64) (.pair (.int .u32) (.pair (.int .u32) (.pair (.int .u32) (.pair (.slc (.pair (.int .i64) (.pair (.arr 32 (.int .u8)) (.unit)))) (.pair (.int .i64) (.pair (.int .i64) (.pair (.int .i64) (.unit)))))))))), .int .u32, .int .u32, .int .u32, .int .u32], rets := [.deep (.bool)], pre := fun x => RetargetMonotone.pre x.1 x.2.1 x.2.2.1 x.2.2.2.1 x.2.2.2.2.1, fn := fun x => (RetargetMonotone.fn x.1 x.2.1 x.2.2.1 x.2.2.2.1 x.2.2.2.2.1, ()) }
noncomputable def ERetargetMonotone : Env := { P := Try.prog, ty := fun n => Lc.look n tyT, bytes := fun n => (Lc.look n byT).getD 0, glob := gl, con := fun f => Lc.look f cs47, wr := [], ntm := 68, lock := [], turn := fun f => Lc.look f mutT }
noncomputable def NRetargetMonotone : Tup conRetargetMonotone.params → Notes := fun _ => { loops := fun n => Lc.look n [], cuts := fun n => Lc.look n [], frz := fun _ => [] }
theorem tieRetargetMonotone : fnVC ERetargetMonotone conRetargetMonotone NRetargetMonotone (Try.f7.body.getD .skip) Try.f7.results.toList = RetargetMonotone.VC := by kernel_rfl
theorem okRetargetMonotone : Sound Try.prog gl 7 conRetargetMonotone := fn_sound (E := ERetargetMonotone) (ok_of (envOk_of (E := ERetargetMonotone) rfl rfl tabOk bytOk mutOk) rfl all47) follows (fn := Try.f7) Try.func7 (by kernel_rfl) (body := Try.f7.body.getD .skip) (by kernel_rfl) (by kernel_rfl) (of_decide_eq_true (by kernel_rfl)) (Eq.mpr tieRetargetMonotone RetargetMonotone.vc)
noncomputable def cs48 : List (Nat × Con) := (7, conRetargetMonotone) :: cs47
theorem all48 : SoundAll Try.prog gl cs48 := SoundAll.cons all47 okRetargetMonotone
noncomputable def conRetargetMiddle : Con := { params := [.slc (.int .u32), .int .u8], rets := [.deep (.bool)], pre := fun x => RetargetMiddle.pre x.1 x.2.1, fn := fun x => (RetargetMiddle.fn x.1 x.2.1, ()) }
noncomputable def ERetargetMiddle : Env := { P := Try.prog, ty := fun n => Lc.look n tyT, bytes := fun n => (Lc.look n byT).getD 0, glob := gl, con := fun f => Lc.look f cs48, wr := [], ntm := 82, lock := [], turn := fun f => Lc.look f mutT }
noncomputable def NRetargetMiddle : Tup conRetargetMiddle.params → Notes := fun x => { loops := fun n => Lc.look n [(10, { see := [], ann := fun _ => { frz := [], keep := [0, 5, 7, 38, 39], vars := [(8, .val (.int .i64)), (9, .val (.int .i64)), (10, .val (.bool)), (40, .val (.int .i64))], inv := RetargetMiddle.inv10 x.1 x.2.1, mes := RetargetMiddle.mes10 x.1 x.2.1 } })], cuts := fun n => Lc.look n [], frz := fun _ => [] }
theorem tieRetargetMiddle : fnVC ERetargetMiddle conRetargetMiddle NRetargetMiddle (Try.f8.body.getD .skip) Try.f8.results.toList = RetargetMiddle.VC := by kernel_rfl
theorem okRetargetMiddle : Sound Try.prog gl 8 conRetargetMiddle := fn_sound (E := ERetargetMiddle) (ok_of (envOk_of (E := ERetargetMiddle) rfl rfl tabOk bytOk mutOk) rfl all48) follows (fn := Try.f8) Try.func8 (by kernel_rfl) (body := Try.f8.body.getD .skip) (by kernel_rfl) (by kernel_rfl) (of_decide_eq_true (by kernel_rfl)) (Eq.mpr tieRetargetMiddle RetargetMiddle.vc)
noncomputable def cs49 : List (Nat × Con) := (8, conRetargetMiddle) :: cs48
theorem all49 : SoundAll Try.prog gl cs49 := SoundAll.cons all48 okRetargetMiddle
noncomputable def conRetargetNext : Con := { params := [.pair (.pair (.int .u32) (.pair (.arr 32 (.int .u8)) (.pair (.arr 32 (.int .u8)) (.pair (.int .u32) (.pair (.int .u32) (.pair (.int .u32) (.unit))))))) (.pair (.arr 4 (.int .u64)) (.pair (.int .i64) (.pair (.int .u32) (.pair (.int .u32) (.pair (.int .u32) (.pair (.slc (.pair (.int .i64) (.pair (.arr 32 (.int .u8)) (.unit)))) (.pair (.int .i64) (.pair (.int .i64) (.pair (.int .i64) (.unit)))))))))), .pair (.int .i64) (.pair (.arr 32 (.int .u8)) (.pair (.int .u32) (.pair (.int .u32) (.pair (.slc (.int .u32)) (.unit)))))], rets := [.deep (.bool)], pre := fun x => RetargetNext.pre x.1 x.2.1, fn := fun x => (RetargetNext.fn x.1 x.2.1, ()) }
noncomputable def ERetargetNext : Env := { P := Try.prog, ty := fun n => Lc.look n tyT, bytes := fun n => (Lc.look n byT).getD 0, glob := gl, con := fun f => Lc.look f cs49, wr := [], ntm := 39, lock := [], turn := fun f => Lc.look f mutT }
noncomputable def NRetargetNext : Tup conRetargetNext.params → Notes := fun _ => { loops := fun n => Lc.look n [], cuts := fun n => Lc.look n [], frz := fun _ => [] }
theorem tieRetargetNext : fnVC ERetargetNext conRetargetNext NRetargetNext (Try.f9.body.getD .skip) Try.f9.results.toList = RetargetNext.VC := by kernel_rfl
theorem okRetargetNext : Sound Try.prog gl 9 conRetargetNext := fn_sound (E := ERetargetNext) (ok_of (envOk_of (E := ERetargetNext) rfl rfl tabOk bytOk mutOk) rfl all49) follows (fn := Try.f9) Try.func9 (by kernel_rfl) (body := Try.f9.body.getD .skip) (by kernel_rfl) (by kernel_rfl) (of_decide_eq_true (by kernel_rfl)) (Eq.mpr tieRetargetNext RetargetNext.vc)
noncomputable def cs50 : List (Nat × Con) := (9, conRetargetNext) :: cs49
theorem all50 : SoundAll Try.prog gl cs50 := SoundAll.cons all49 okRetargetNext
end Go.Proofs.Ytpbfmmnncbbhdaa
