/- From the ranges of arguments to the conditions of the laws of chapter 16. -/
import Derived.Test.YtbaiojghpadffaaLaw16
import Derived.Test.YtbaiojghpadffaaEngV
namespace Lc
open Go
theorem rngU8 {x : Int} (h : Rng (.int .u8) x) : 0 ≤ x ∧ x ≤ 255 := by
  have h : IntKind.u8.min ≤ x ∧ x ≤ IntKind.u8.max := h
  simpa [IntKind.min, IntKind.max, IntKind.signed, IntKind.bits] using h
theorem rngU8s {l : List Int} (h : Rng (.slc (.int .u8)) l) : U8s l := fun x hx => rngU8 (h.2 x hx)
end Lc
