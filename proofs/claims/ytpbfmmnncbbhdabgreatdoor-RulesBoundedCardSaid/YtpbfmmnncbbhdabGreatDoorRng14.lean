/- From the ranges of arguments to the conditions of the laws of chapter 14. -/
import Derived.Test.YtpbfmmnncbbhdabGreatDoorRng13
import Derived.Test.YtpbfmmnncbbhdabGreatDoorRuns
namespace Lc
open Go
theorem rngBytes14 {xs : List Int} (h : ∀ x, x ∈ xs → Rng (.int .u8) x) : Bytes xs := fun x hx => rngU8 (h x hx)
theorem rngHash14 {h : List Int} (hr : Rng (.arr 32 (.int .u8)) h) : HOk h := ⟨hr.1, rngBytes14 hr.2⟩
theorem rngHdr {h : Hdr} (hr : Rng hdrTy h) : HdrOk h := ⟨rngU32 hr.1, rngHash14 hr.2.1, rngHash14 hr.2.2.1, rngU32 hr.2.2.2.1, rngU32 hr.2.2.2.2.1, rngU32 hr.2.2.2.2.2.1⟩
theorem rngPar14 {p : Par} (h : Rng parTy p) : PRng p := ⟨rngU256 h.2.1, rngHdr h.1, rngU32 h.2.2.2.2.1, rngU32 h.2.2.2.2.2.1⟩
theorem rngCx14 {c : Cx} (h : Rng cxTy c) : CRng c := ⟨rngCx h, rngHash14 h.2.1⟩
end Lc
