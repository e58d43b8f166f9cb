/- The sort of the seat: the comparison is walked, the library's sort is taken from the kit's shelf. -/
import Derived.Test.YtpbfmmnncbbhdaaGreatDoorChecked
import Derived.Test.YtpbfmmnncbbhdaaGreatDoorSort
import Derived.Test.YtpbfmmnncbbhdaaGreatDoorRetarget
import Derived.Test.YtpbfmmnncbbhdaaGreatDoorClone
import Derived.WalkKit
namespace Go.Proofs
open Go.Shelf
def Tryz.sortL_ren : Go.Shelf.Ren := ⟨fun | 6 => 52 | 15 => 74 | 14 => 73 | 28 => 105 | 29 => 79 | 20 => 97 | 21 => 98 | 22 => 99 | 23 => 100 | 24 => 101 | 25 => 102 | 26 => 103 | 27 => 104 | 46 => 113 | 47 => 114 | 48 => 115 | 49 => 116 | 50 => 117 | 57 => 119 | n => n, fun | 22 => 33 | 24 => 22 | 25 => 80 | 3 => 3 | 39 => 83 | 0 => 0 | 53 => 22 | 55 => 27 | 4 => 4 | 46 => 116 | 45 => 115 | 50 => 120 | 5 => 5 | 9 => 9 | 66 => 128 | 70 => 132 | 76 => 134 | 77 => 135 | n => n, fun | n => n⟩
theorem Tryz.sortL : Go.Proofs.SlLaysF.n6 Tryz.prog Tryz.sortL_ren := {
  mixed := by kernel_rfl
  f6 := ⟨Tryz.f52.name, by decide, Tryz.func52.trans (congrArg some (by kernel_rfl))⟩
  f14 := ⟨Tryz.f73.name, by decide, Tryz.func73.trans (congrArg some (by kernel_rfl))⟩
  f15 := Tryz.func74.trans (congrArg some (by kernel_rfl))
  f20 := ⟨Tryz.f97.name, by decide, Tryz.func97.trans (congrArg some (by kernel_rfl))⟩
  f21 := ⟨Tryz.f98.name, by decide, Tryz.func98.trans (congrArg some (by kernel_rfl))⟩
  f22 := ⟨Tryz.f99.name, by decide, Tryz.func99.trans (congrArg some (by kernel_rfl))⟩
  f23 := ⟨Tryz.f100.name, by decide, Tryz.func100.trans (congrArg some (by kernel_rfl))⟩
  f24 := ⟨Tryz.f101.name, by decide, Tryz.func101.trans (congrArg some (by kernel_rfl))⟩
  f25 := ⟨Tryz.f102.name, by decide, Tryz.func102.trans (congrArg some (by kernel_rfl))⟩
  f26 := ⟨Tryz.f103.name, by decide, Tryz.func103.trans (congrArg some (by kernel_rfl))⟩
  f27 := ⟨Tryz.f104.name, by decide, Tryz.func104.trans (congrArg some (by kernel_rfl))⟩
  f28 := Tryz.func105.trans (congrArg some (by kernel_rfl))
  f29 := Tryz.func79.trans (congrArg some (by kernel_rfl))
  f46 := ⟨Tryz.f113.name, by decide, Tryz.func113.trans (congrArg some (by kernel_rfl))⟩
  f47 := Tryz.func114.trans (congrArg some (by kernel_rfl))
  f48 := Tryz.func115.trans (congrArg some (by kernel_rfl))
  f49 := ⟨Tryz.f116.name, by decide, Tryz.func116.trans (congrArg some (by kernel_rfl))⟩
  f50 := ⟨Tryz.f117.name, by decide, Tryz.func117.trans (congrArg some (by kernel_rfl))⟩
  f57 := ⟨Tryz.f119.name, by decide, Tryz.func119.trans (congrArg some (by kernel_rfl))⟩
  t0 := Tryz.underlying0
  a0 := Tryz.isAgg0
  z0 := Tryz.sizeOf0
  v0 := Tryz.zeroValue0
  t3 := Tryz.underlying3
  a3 := Tryz.isAgg3
  z3 := Tryz.sizeOf3
  v3 := Tryz.zeroValue3
  t4 := Tryz.underlying4
  a4 := Tryz.isAgg4
  z4 := Tryz.sizeOf4
  v4 := Tryz.zeroValue4
  t5 := Tryz.underlying5
  a5 := Tryz.isAgg5
  z5 := Tryz.sizeOf5
  v5 := Tryz.zeroValue5
  t9 := Tryz.underlying9
  a9 := Tryz.isAgg9
  z9 := Tryz.sizeOf9
  v9 := Tryz.zeroValue9
  t22 := Tryz.underlying33
  a22 := Tryz.isAgg33
  z22 := Tryz.sizeOf33
  v22 := Tryz.zeroValue33
  a24 := Tryz.isAgg22
  z24 := Tryz.sizeOf22
  t25 := Tryz.underlying80
  a25 := Tryz.isAgg80
  z25 := Tryz.sizeOf80
  v25 := Tryz.zeroValue80
  t39 := Tryz.underlying83
  a39 := Tryz.isAgg83
  z39 := Tryz.sizeOf83
  v39 := Tryz.zeroValue83
  t45 := Tryz.underlying115
  a45 := Tryz.isAgg115
  z45 := Tryz.sizeOf115
  v45 := Tryz.zeroValue115
  t46 := Tryz.underlying116
  a46 := Tryz.isAgg116
  z46 := Tryz.sizeOf116
  v46 := Tryz.zeroValue116
  t50 := Tryz.underlying120
  a50 := Tryz.isAgg120
  z50 := Tryz.sizeOf120
  v50 := Tryz.zeroValue120
  t53 := Tryz.underlying22
  a53 := Tryz.isAgg22
  z53 := Tryz.sizeOf22
  v53 := Tryz.zeroValue22
  t55 := Tryz.underlying27
  a55 := Tryz.isAgg27
  z55 := Tryz.sizeOf27
  v55 := Tryz.zeroValue27
  t66 := Tryz.underlying128
  a66 := Tryz.isAgg128
  z66 := Tryz.sizeOf128
  v66 := Tryz.zeroValue128
  t70 := Tryz.underlying132
  a70 := Tryz.isAgg132
  z70 := Tryz.sizeOf132
  v70 := Tryz.zeroValue132
  t76 := Tryz.underlying134
  a76 := Tryz.isAgg134
  z76 := Tryz.sizeOf134
  v76 := Tryz.zeroValue134
  t77 := Tryz.underlying135
  a77 := Tryz.isAgg135
  z77 := Tryz.sizeOf135
  v77 := Tryz.zeroValue135 }
def Tryz.cloneL_ren : Go.Shelf.Ren := ⟨fun | 41 => 40 | n => n, fun | 22 => 33 | 23 => 22 | 4 => 4 | n => n, fun | n => n⟩
theorem Tryz.cloneL : Go.Proofs.SlLaysE0.n41 Tryz.prog Tryz.cloneL_ren := {
  mixed := by kernel_rfl
  f41 := ⟨Tryz.f40.name, by decide, Tryz.func40.trans (congrArg some (by kernel_rfl))⟩
  t4 := Tryz.underlying4
  a4 := Tryz.isAgg4
  z4 := Tryz.sizeOf4
  v4 := Tryz.zeroValue4
  t22 := Tryz.underlying33
  a22 := Tryz.isAgg33
  z22 := Tryz.sizeOf33
  v22 := Tryz.zeroValue33 }
end Go.Proofs
namespace Go.Proofs.YtpbfmmnncbbhdaaGreatDoor
open Go Go.Shelf Go.RowKit Go.Lib Go.Sort Lc
theorem isNaNW (x : Int) (w : World) : Calls Tryz.prog 75 #[.int .u32 x] w fun e w' => e = .returned (.bool false) ∧ w' = w := by
  go_enter Tryz.func75, Tryz.ntmps75
  go_wp2
  go_ret
  exact ⟨by simp, rfl⟩
set_option maxHeartbeats 1000000 in
theorem compareW (x y : Int) (w : World) : Calls Tryz.prog 54 #[.int .u32 x, .int .u32 y] w fun e w' => e = .returned (.int .i64 (Lib.compareInt x y)) ∧ w' = w := by
  go_enter Tryz.func54, Tryz.ntmps54
  go_wp2_with (go_at_call 75; refine (isNaNW _ _).mono ?_; rintro e w' ⟨rfl, hw⟩; rw [hw])
  all_goals (go_ret; refine ⟨?_, rfl⟩; unfold Lib.compareInt; (repeat' split) <;> first | rfl | (exfalso; omega))
set_option maxHeartbeats 1000000 in
theorem closureW (x y : Int) (W : World) : Calls Tryz.prog 53 #[.int .u32 x, .int .u32 y] W fun e w' => e = .returned (.int .i64 (Lib.compareInt x y)) ∧ ∃ q, w' = W.drewN q := by
  have hcon := compareW x y W
  generalize Lib.compareInt x y = r at hcon ⊢
  go_enter Tryz.func53, Tryz.ntmps53
  go_wp2_with (go_at_call 54; refine hcon.mono ?_; rintro e w' ⟨rfl, rfl⟩)
  go_ret
  exact ⟨rfl, 0, rfl⟩
theorem sortSound : SoundM Tryz.prog 52 ⟨.int .u32, [53], SortPre, SortFn⟩ := by
  have h := sortM Tryz.sortL .u32 53 52 (by kernel_rfl) (fun x y W => closureW x y W) (enters_of Tryz.func53 (by kernel_rfl) rfl) ⟨Tryz.f52, Tryz.func52, by kernel_rfl, by kernel_rfl⟩
  have e : sortMut .u32 53 = ⟨.int .u32, [53], SortPre, SortFn⟩ := by
    unfold sortMut
    congr 1
    funext xs
    exact merge_isort xs
  rw [e] at h
  exact h
theorem cloneSound (G : Nat → Option TV) : Sound Tryz.prog G 40 { params := [.slc (.int .u32)], rets := [.deep (.slc (.int .u32))], pre := fun x => Clone.pre x.1, fn := fun x => (Clone.fn x.1, ()) } :=
  cloneS Tryz.cloneL G .u32 40 (by kernel_rfl) 4 (by kernel_rfl) (by omega) Tryz.sizeOf22 ⟨Tryz.f40, Tryz.func40, by kernel_rfl, by kernel_rfl⟩
end Go.Proofs.YtpbfmmnncbbhdaaGreatDoor
