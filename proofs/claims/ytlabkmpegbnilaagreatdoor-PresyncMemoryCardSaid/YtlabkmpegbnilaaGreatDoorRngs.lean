/- From the ranges of arguments to the conditions of the laws. -/
import Derived.Test.YtlabkmpegbnilaaGreatDoorTargets
import Derived.Test.YtlabkmpegbnilaaGreatDoorEngSV
import Derived.Test.YtlabkmpegbnilaaGreatDoorRulings
set_option linter.unusedVariables false
set_option linter.unusedSimpArgs false
namespace Lc
open Go
theorem rngU32 {x:Int}(h:Rng (.int .u32) x):U32 x:=by
 unfold U32
 have h:IntKind.u32.min≤x∧x≤IntKind.u32.max:=h
 simpa[IntKind.min,IntKind.max,IntKind.signed,IntKind.bits] using h
theorem rngU8 {x:Int}(h:Rng (.int .u8) x):0≤x∧x≤255:=by
 have h:IntKind.u8.min≤x∧x≤IntKind.u8.max:=h
 simpa[IntKind.min,IntKind.max,IntKind.signed,IntKind.bits] using h
abbrev hdrTy :Ty:= .pair (.int .u32) (.pair (.arr 32 (.int .u8)) (.pair (.arr 32 (.int .u8)) (.pair (.int .u32) (.pair (.int .u32) (.pair (.int .u32) .unit)))))
end Lc
namespace Lc
open Go
theorem rngBytes14 {xs:List Int}(h:∀x,x∈xs→Rng (.int .u8) x):Bytes xs:=fun x hx=>rngU8 (h x hx)
theorem rngHash14 {h:List Int}(hr:Rng (.arr 32 (.int .u8)) h):HOk h:=⟨hr.1,rngBytes14 hr.2⟩
theorem rngHdr {h:Hdr}(hr:Rng hdrTy h):HdrOk h:=⟨rngU32 hr.1,rngHash14 hr.2.1,rngHash14 hr.2.2.1,rngU32 hr.2.2.2.1,rngU32 hr.2.2.2.2.1,rngU32 hr.2.2.2.2.2.1⟩
end Lc
namespace Lc
open Go
theorem rngHdrs {l:List Hdr}(h:Rng (.slc hdrTy) l):∀x,x∈l→HdrOk x:=fun x hx=>rngHdr (h.2 x hx)
end Lc
