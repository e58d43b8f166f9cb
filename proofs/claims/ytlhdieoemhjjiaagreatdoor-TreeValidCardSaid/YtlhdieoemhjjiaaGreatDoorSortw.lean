/- The sort of the seat: the comparison is walked, the library's sort and clone are taken from the kit's shelf. -/
import Derived.Test.YtlhdieoemhjjiaaGreatDoorChecked
import Derived.Test.YtlhdieoemhjjiaaGreatDoorLay
import Derived.Test.YtlhdieoemhjjiaaGreatDoorClones
import Derived.Test.YtlhdieoemhjjiaaGreatDoorTargets
import Derived.Test.YtlhdieoemhjjiaaGreatDoorTrees
import Derived.WalkKit
set_option linter.unusedVariables false
set_option linter.unusedSimpArgs false
namespace Go.Proofs.YtlhdieoemhjjiaaGreatDoor
open Go Go.Shelf Go.RowKit Go.Lib Go.Sort Lc
theorem isNaNW (x:Int)(w:World):Calls Tryz.prog 129 #[.int .u32 x] w fun e w'=>e= .returned (.bool false)∧w'=w:=by
 go_enter Tryz.func129,Tryz.ntmps129
 go_wp2
 go_ret
 exact⟨by simp,rfl⟩
set_option maxHeartbeats 1000000 in
theorem compareW (x y:Int)(w:World):Calls Tryz.prog 116 #[.int .u32 x,.int .u32 y] w fun e w'=>e= .returned (.int .i64 (Lib.compareInt x y))∧w'=w:=by
 go_enter Tryz.func116,Tryz.ntmps116
 go_wp2_with (go_at_call 129;refine(isNaNW _ _).mono ?_;rintro e w' ⟨rfl,hw⟩;rw[hw])
 all_goals (go_ret;refine⟨?_,rfl⟩;unfold Lib.compareInt;(repeat' split)<;>first|rfl|(exfalso;omega))
set_option maxHeartbeats 1000000 in
theorem closureW (x y:Int)(W:World):Calls Tryz.prog 115 #[.int .u32 x,.int .u32 y] W fun e w'=>e= .returned (.int .i64 (Lib.compareInt x y))∧∃q,w'=W.drewN q:=by
 have hcon:=compareW x y W
 generalize Lib.compareInt x y=r at hcon⊢
 go_enter Tryz.func115,Tryz.ntmps115
 go_wp2_with (go_at_call 116;refine hcon.mono ?_;rintro e w' ⟨rfl,rfl⟩)
 go_ret
 exact⟨rfl,0,rfl⟩
theorem sortSound :SoundM Tryz.prog 114 ⟨.int .u32,[115],SortPre,SortFn,false⟩:=by
 have h:=sortM Tryz.sortL .u32 115 114 (by kernel_rfl) (fun x y W=>closureW x y W) (enters_of Tryz.func115 (by kernel_rfl) rfl) ⟨Tryz.f114,Tryz.func114,by kernel_rfl,by kernel_rfl⟩
 have e:sortMut .u32 115=⟨.int .u32,[115],SortPre,SortFn,false⟩:=by
  unfold sortMut
  congr 1
  funext xs
  exact merge_isort xs
 rw[e] at h
 exact h
theorem bts_of {P:Program}{id n:Nat}(h:(P.info? id).map (fun i=>decide (i.bytes≤n))=some true):∀i,P.info? id=some i→i.bytes≤n:=by
 intro i hi
 rw[hi] at h
 exact of_decide_eq_true (Option.some.inj h)
theorem cloneNSound (G:Nat→Option TV):Sound Tryz.prog G 68 {params:=[.slc (.pair (.pair (.int .u32) (.pair (.arr 32 (.int .u8)) (.pair (.arr 32 (.int .u8)) (.pair (.int .u32) (.pair (.int .u32) (.pair (.int .u32) (.unit))))))) (.pair (.arr 32 (.int .u8)) (.pair (.int .i64) (.pair (.int .i64) (.pair (.arr 4 (.int .u64)) (.unit))))))],rets:=[.own (.pair (.pair (.int .u32) (.pair (.arr 32 (.int .u8)) (.pair (.arr 32 (.int .u8)) (.pair (.int .u32) (.pair (.int .u32) (.pair (.int .u32) (.unit))))))) (.pair (.arr 32 (.int .u8)) (.pair (.int .i64) (.pair (.int .i64) (.pair (.arr 4 (.int .u64)) (.unit))))))],pre:=fun x=>CloneN.pre x.1,fn:=fun x=>(CloneN.fn x.1,())}:=
 cloneG Tryz.cloneNL G (.pair (.pair (.int .u32) (.pair (.arr 32 (.int .u8)) (.pair (.arr 32 (.int .u8)) (.pair (.int .u32) (.pair (.int .u32) (.pair (.int .u32) (.unit))))))) (.pair (.arr 32 (.int .u8)) (.pair (.int .i64) (.pair (.int .i64) (.pair (.arr 4 (.int .u64)) (.unit)))))) (by decide) 5000 1000 (by decide) (by decide) 68 (by kernel_rfl) (by unfold TyOk;kernel_rfl) (bts_of (by kernel_rfl)) ⟨Tryz.f68,Tryz.func68,by kernel_rfl,by kernel_rfl⟩
end Go.Proofs.YtlhdieoemhjjiaaGreatDoor
