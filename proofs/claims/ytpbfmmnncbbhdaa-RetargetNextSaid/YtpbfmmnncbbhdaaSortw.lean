/- The sort of the seat: the comparison is walked, the library's sort is taken from the kit's shelf. -/
import Derived.Test.YtpbfmmnncbbhdaaChecked
import Derived.Test.YtpbfmmnncbbhdaaSort
import Derived.Test.YtpbfmmnncbbhdaaRetarget
import Derived.Shelf.Lay
import Derived.Ground.SlsfProg
import Derived.WalkKit
namespace Go.Proofs
open Go.Shelf
shelf_lay_g SlLaysF.n6 Slsf 6 at Try 29 as Try.sortL
end Go.Proofs
namespace Go.Proofs.Ytpbfmmnncbbhdaa
open Go Go.Shelf Go.RowKit Go.Lib Go.Sort Lc
theorem isNaNW (x : Int) (w : World) : Calls Try.prog 47 #[.int .u32 x] w fun e w' => e = .returned (.bool false) ∧ w' = w := by
  go_enter Try.func47, Try.ntmps47
  go_wp2
  go_ret
  exact ⟨by simp, rfl⟩
set_option maxHeartbeats 1000000 in
theorem compareW (x y : Int) (w : World) : Calls Try.prog 31 #[.int .u32 x, .int .u32 y] w fun e w' => e = .returned (.int .i64 (Lib.compareInt x y)) ∧ w' = w := by
  go_enter Try.func31, Try.ntmps31
  go_wp2_with (go_at_call 47; refine (isNaNW _ _).mono ?_; rintro e w' ⟨rfl, hw⟩; rw [hw])
  all_goals (go_ret; refine ⟨?_, rfl⟩; unfold Lib.compareInt; (repeat' split) <;> first | rfl | (exfalso; omega))
set_option maxHeartbeats 1000000 in
theorem closureW (x y : Int) (W : World) : Calls Try.prog 30 #[.int .u32 x, .int .u32 y] W fun e w' => e = .returned (.int .i64 (Lib.compareInt x y)) ∧ ∃ q, w' = W.drewN q := by
  have hcon := compareW x y W
  generalize Lib.compareInt x y = r at hcon ⊢
  go_enter Try.func30, Try.ntmps30
  go_wp2_with (go_at_call 31; refine hcon.mono ?_; rintro e w' ⟨rfl, rfl⟩)
  go_ret
  exact ⟨rfl, 0, rfl⟩
theorem sortSound : SoundM Try.prog 29 ⟨.int .u32, [30], SortPre, SortFn⟩ := by
  have h := sortM Try.sortL .u32 30 29 (by kernel_rfl) (fun x y W => closureW x y W) (enters_of Try.func30 (by kernel_rfl) rfl) ⟨Try.f29, Try.func29, by kernel_rfl, by kernel_rfl⟩
  have e : sortMut .u32 30 = ⟨.int .u32, [30], SortPre, SortFn⟩ := by
    unfold sortMut
    congr 1
    funext xs
    exact merge_isort xs
  rw [e] at h
  exact h
end Go.Proofs.Ytpbfmmnncbbhdaa
