/- From the ranges of arguments to the conditions of the laws. -/
import Derived.Test.YtlabkmpegbnilaaGreatDoorTargets
import Derived.Test.YtlabkmpegbnilaaGreatDoorEngSV
import Derived.Test.YtlabkmpegbnilaaGreatDoorRulings
namespace Lc
open Go
theorem rngU8 {x : Int} (h : Rng (.int .u8) x) : 0 ≤ x ∧ x ≤ 255 := by
  have h : IntKind.u8.min ≤ x ∧ x ≤ IntKind.u8.max := h
  simpa [IntKind.min, IntKind.max, IntKind.signed, IntKind.bits] using h
end Lc

/- From the ranges of arguments to the conditions of the laws of chapter 14. -/
namespace Lc
open Go
theorem rngBytes14 {xs : List Int} (h : ∀ x, x ∈ xs → Rng (.int .u8) x) : Bytes xs := fun x hx => rngU8 (h x hx)
theorem rngHash14 {h : List Int} (hr : Rng (.arr 32 (.int .u8)) h) : HOk h := ⟨hr.1, rngBytes14 hr.2⟩
end Lc

/- From the ranges of arguments to the conditions of the laws of chapter 17. -/
namespace Lc
open Go
end Lc
