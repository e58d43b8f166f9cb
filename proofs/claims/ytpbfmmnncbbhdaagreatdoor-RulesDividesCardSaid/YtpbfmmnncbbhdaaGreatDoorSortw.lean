/- The sort of the seat: the comparison is walked, the library's sort is taken from the kit's shelf. -/
import Derived.Test.YtpbfmmnncbbhdaaGreatDoorChecked
import Derived.Test.YtpbfmmnncbbhdaaGreatDoorSort
import Derived.Test.YtpbfmmnncbbhdaaGreatDoorRetarget
import Derived.Shelf.Lay
import Derived.Ground.SlsfProg
import Derived.Ground.SlgnProg
import Derived.Shelf.SlGeneric
import Derived.Test.YtpbfmmnncbbhdaaGreatDoorClone
import Derived.WalkKit
namespace Go.Proofs
open Go.Shelf
shelf_lay_g SlLaysF.n6 Slsf 6 at Tryz 52 as Tryz.sortL
shelf_lay_g SlLaysE0.n41 Slgn 41 at Tryz 40 as Tryz.cloneL
end Go.Proofs
namespace Go.Proofs.YtpbfmmnncbbhdaaGreatDoor
open Go Go.Shelf Go.RowKit Go.Lib Go.Sort Lc
theorem isNaNW (x : Int) (w : World) : Calls Tryz.prog 75 #[.int .u32 x] w fun e w' => e = .returned (.bool false) ∧ w' = w := by
  go_enter Tryz.func75, Tryz.ntmps75
  go_wp2
  go_ret
  exact ⟨by simp, rfl⟩
set_option maxHeartbeats 1000000 in
theorem compareW (x y : Int) (w : World) : Calls Tryz.prog 54 #[.int .u32 x, .int .u32 y] w fun e w' => e = .returned (.int .i64 (Lib.compareInt x y)) ∧ w' = w := by
  go_enter Tryz.func54, Tryz.ntmps54
  go_wp2_with (go_at_call 75; refine (isNaNW _ _).mono ?_; rintro e w' ⟨rfl, hw⟩; rw [hw])
  all_goals (go_ret; refine ⟨?_, rfl⟩; unfold Lib.compareInt; (repeat' split) <;> first | rfl | (exfalso; omega))
set_option maxHeartbeats 1000000 in
theorem closureW (x y : Int) (W : World) : Calls Tryz.prog 53 #[.int .u32 x, .int .u32 y] W fun e w' => e = .returned (.int .i64 (Lib.compareInt x y)) ∧ ∃ q, w' = W.drewN q := by
  have hcon := compareW x y W
  generalize Lib.compareInt x y = r at hcon ⊢
  go_enter Tryz.func53, Tryz.ntmps53
  go_wp2_with (go_at_call 54; refine hcon.mono ?_; rintro e w' ⟨rfl, rfl⟩)
  go_ret
  exact ⟨rfl, 0, rfl⟩
theorem sortSound : SoundM Tryz.prog 52 ⟨.int .u32, [53], SortPre, SortFn⟩ := by
  have h := sortM Tryz.sortL .u32 53 52 (by kernel_rfl) (fun x y W => closureW x y W) (enters_of Tryz.func53 (by kernel_rfl) rfl) ⟨Tryz.f52, Tryz.func52, by kernel_rfl, by kernel_rfl⟩
  have e : sortMut .u32 53 = ⟨.int .u32, [53], SortPre, SortFn⟩ := by
    unfold sortMut
    congr 1
    funext xs
    exact merge_isort xs
  rw [e] at h
  exact h
theorem cloneSound (G : Nat → Option TV) : Sound Tryz.prog G 40 { params := [.slc (.int .u32)], rets := [.deep (.slc (.int .u32))], pre := fun x => Clone.pre x.1, fn := fun x => (Clone.fn x.1, ()) } :=
  cloneS Tryz.cloneL G .u32 40 (by kernel_rfl) 4 (by kernel_rfl) (by omega) Tryz.sizeOf22 ⟨Tryz.f40, Tryz.func40, by kernel_rfl, by kernel_rfl⟩
end Go.Proofs.YtpbfmmnncbbhdaaGreatDoor
