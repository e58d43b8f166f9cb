/- The sort of the seat: the comparison is walked, the library's sort is taken from the kit's shelf. -/
import Derived.Test.YtpbfmmnncbbhdabGreatDoorChecked
import Derived.Test.YtpbfmmnncbbhdabGreatDoorSort
import Derived.Test.YtpbfmmnncbbhdabGreatDoorRetarget
import Derived.Shelf.Lay
import Derived.Ground.SlsfProg
import Derived.Ground.SlgnProg
import Derived.Shelf.SlGeneric
import Derived.Test.YtpbfmmnncbbhdabGreatDoorClone
import Derived.WalkKit
namespace Go.Proofs
open Go.Shelf
shelf_lay_g SlLaysF.n6 Slsf 6 at Tryz 39 as Tryz.sortL
shelf_lay_g SlLaysE0.n41 Slgn 41 at Tryz 22 as Tryz.cloneL
end Go.Proofs
namespace Go.Proofs.YtpbfmmnncbbhdabGreatDoor
open Go Go.Shelf Go.RowKit Go.Lib Go.Sort Lc
theorem isNaNW (x : Int) (w : World) : Calls Tryz.prog 60 #[.int .u32 x] w fun e w' => e = .returned (.bool false) ∧ w' = w := by
  go_enter Tryz.func60, Tryz.ntmps60
  go_wp2
  go_ret
  exact ⟨by simp, rfl⟩
set_option maxHeartbeats 1000000 in
theorem compareW (x y : Int) (w : World) : Calls Tryz.prog 41 #[.int .u32 x, .int .u32 y] w fun e w' => e = .returned (.int .i64 (Lib.compareInt x y)) ∧ w' = w := by
  go_enter Tryz.func41, Tryz.ntmps41
  go_wp2_with (go_at_call 60; refine (isNaNW _ _).mono ?_; rintro e w' ⟨rfl, hw⟩; rw [hw])
  all_goals (go_ret; refine ⟨?_, rfl⟩; unfold Lib.compareInt; (repeat' split) <;> first | rfl | (exfalso; omega))
set_option maxHeartbeats 1000000 in
theorem closureW (x y : Int) (W : World) : Calls Tryz.prog 40 #[.int .u32 x, .int .u32 y] W fun e w' => e = .returned (.int .i64 (Lib.compareInt x y)) ∧ ∃ q, w' = W.drewN q := by
  have hcon := compareW x y W
  generalize Lib.compareInt x y = r at hcon ⊢
  go_enter Tryz.func40, Tryz.ntmps40
  go_wp2_with (go_at_call 41; refine hcon.mono ?_; rintro e w' ⟨rfl, rfl⟩)
  go_ret
  exact ⟨rfl, 0, rfl⟩
theorem sortSound : SoundM Tryz.prog 39 ⟨.int .u32, [40], SortPre, SortFn⟩ := by
  have h := sortM Tryz.sortL .u32 40 39 (by kernel_rfl) (fun x y W => closureW x y W) (enters_of Tryz.func40 (by kernel_rfl) rfl) ⟨Tryz.f39, Tryz.func39, by kernel_rfl, by kernel_rfl⟩
  have e : sortMut .u32 40 = ⟨.int .u32, [40], SortPre, SortFn⟩ := by
    unfold sortMut
    congr 1
    funext xs
    exact merge_isort xs
  rw [e] at h
  exact h
theorem cloneSound (G : Nat → Option TV) : Sound Tryz.prog G 22 { params := [.slc (.int .u32)], rets := [.deep (.slc (.int .u32))], pre := fun x => Clone.pre x.1, fn := fun x => (Clone.fn x.1, ()) } :=
  cloneS Tryz.cloneL G .u32 22 (by kernel_rfl) 4 (by kernel_rfl) (by omega) Tryz.sizeOf23 ⟨Tryz.f22, Tryz.func22, by kernel_rfl, by kernel_rfl⟩
end Go.Proofs.YtpbfmmnncbbhdabGreatDoor
