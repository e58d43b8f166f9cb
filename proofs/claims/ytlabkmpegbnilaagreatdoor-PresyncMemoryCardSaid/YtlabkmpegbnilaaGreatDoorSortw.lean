/- The sort of the seat: the comparison is walked, the library's sort, clone and grow are taken from the kit's shelf. -/
import Derived.Test.YtlabkmpegbnilaaGreatDoorChecked
import Derived.Test.YtlabkmpegbnilaaGreatDoorLay
import Derived.Test.YtlabkmpegbnilaaGreatDoorClones
import Derived.Test.YtlabkmpegbnilaaGreatDoorTargets
import Derived.Test.YtlabkmpegbnilaaGreatDoorPres
import Derived.WalkKit
set_option linter.unusedVariables false
set_option linter.unusedSimpArgs false
namespace Go.Proofs.YtlabkmpegbnilaaGreatDoor
open Go Go.Shelf Go.RowKit Go.Lib Go.Sort Lc
theorem isNaNW (x:Int)(w:World):Calls Tryz.prog 172 #[.int .u32 x] w fun e w'=>e= .returned (.bool false)∧w'=w:=by
 go_enter Tryz.func172,Tryz.ntmps172
 go_wp2
 go_ret
 exact⟨by simp,rfl⟩
set_option maxHeartbeats 1000000 in
theorem compareW (x y:Int)(w:World):Calls Tryz.prog 150 #[.int .u32 x,.int .u32 y] w fun e w'=>e= .returned (.int .i64 (Lib.compareInt x y))∧w'=w:=by
 go_enter Tryz.func150,Tryz.ntmps150
 go_wp2_with (go_at_call 172;refine(isNaNW _ _).mono ?_;rintro e w' ⟨rfl,hw⟩;rw[hw])
 all_goals (go_ret;refine⟨?_,rfl⟩;unfold Lib.compareInt;(repeat' split)<;>first|rfl|(exfalso;omega))
set_option maxHeartbeats 1000000 in
theorem closureW (x y:Int)(W:World):Calls Tryz.prog 149 #[.int .u32 x,.int .u32 y] W fun e w'=>e= .returned (.int .i64 (Lib.compareInt x y))∧∃q,w'=W.drewN q:=by
 have hcon:=compareW x y W
 generalize Lib.compareInt x y=r at hcon⊢
 go_enter Tryz.func149,Tryz.ntmps149
 go_wp2_with (go_at_call 150;refine hcon.mono ?_;rintro e w' ⟨rfl,rfl⟩)
 go_ret
 exact⟨rfl,0,rfl⟩
theorem sortSound :SoundM Tryz.prog 148 ⟨.int .u32,[149],SortPre,SortFn,false⟩:=by
 have h:=sortM Tryz.sortL .u32 149 148 (by kernel_rfl) (fun x y W=>closureW x y W) (enters_of Tryz.func149 (by kernel_rfl) rfl) ⟨Tryz.f148,Tryz.func148,by kernel_rfl,by kernel_rfl⟩
 have e:sortMut .u32 149=⟨.int .u32,[149],SortPre,SortFn,false⟩:=by
  unfold sortMut
  congr 1
  funext xs
  exact merge_isort xs
 rw[e] at h
 exact h
theorem cloneSound (G:Nat→Option TV):Sound Tryz.prog G 84 {params:=[.slc (.int .u32)],rets:=[.deep (.slc (.int .u32))],pre:=fun x=>Clone.pre x.1,fn:=fun x=>(Clone.fn x.1,())}:=
 cloneS Tryz.cloneL G .u32 84 (by kernel_rfl) 4 (by kernel_rfl) (by omega) Tryz.sizeOf22 ⟨Tryz.f84,Tryz.func84,by kernel_rfl,by kernel_rfl⟩
theorem bts_of {P:Program}{id n:Nat}(h:(P.info? id).map (fun i=>decide (i.bytes≤n))=some true):∀i,P.info? id=some i→i.bytes≤n:=by
 intro i hi
 rw[hi] at h
 exact of_decide_eq_true (Option.some.inj h)
theorem cloneBSound (G:Nat→Option TV):Sound Tryz.prog G 124 {params:=[.slc (.bool)],rets:=[.own (.bool)],pre:=fun x=>CloneB.pre x.1,fn:=fun x=>(CloneB.fn x.1,())}:=
 cloneG Tryz.cloneBL G .bool (by decide) 2000 8 (by decide) (by decide) 124 (by kernel_rfl) (by unfold TyOk;kernel_rfl) (bts_of (by kernel_rfl)) ⟨Tryz.f124,Tryz.func124,by kernel_rfl,by kernel_rfl⟩
theorem cloneHSound (G:Nat→Option TV):Sound Tryz.prog G 125 {params:=[.slc (.pair (.int .u32) (.pair (.arr 32 (.int .u8)) (.pair (.arr 32 (.int .u8)) (.pair (.int .u32) (.pair (.int .u32) (.pair (.int .u32) (.unit)))))))],rets:=[.own (.pair (.int .u32) (.pair (.arr 32 (.int .u8)) (.pair (.arr 32 (.int .u8)) (.pair (.int .u32) (.pair (.int .u32) (.pair (.int .u32) (.unit)))))))],pre:=fun x=>CloneH.pre x.1,fn:=fun x=>(CloneH.fn x.1,())}:=
 cloneG Tryz.cloneHL G (.pair (.int .u32) (.pair (.arr 32 (.int .u8)) (.pair (.arr 32 (.int .u8)) (.pair (.int .u32) (.pair (.int .u32) (.pair (.int .u32) (.unit))))))) (by decide) 2000 1000 (by decide) (by decide) 125 (by kernel_rfl) (by unfold TyOk;kernel_rfl) (bts_of (by kernel_rfl)) ⟨Tryz.f125,Tryz.func125,by kernel_rfl,by kernel_rfl⟩
theorem growSound :SoundG Tryz.prog 119 (.int .u8):=
 growG Tryz.growL (.int .u8) (by decide) 8 (by decide) 119 (by kernel_rfl) (by unfold TyOk;kernel_rfl) (bts_of (by kernel_rfl)) ⟨Tryz.f119,Tryz.func119,by kernel_rfl,by kernel_rfl⟩
end Go.Proofs.YtlabkmpegbnilaaGreatDoor
