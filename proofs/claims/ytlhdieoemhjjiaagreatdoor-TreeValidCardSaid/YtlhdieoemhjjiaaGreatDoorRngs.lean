/- From the ranges of arguments to the conditions of the laws. -/
import Derived.Test.YtlhdieoemhjjiaaGreatDoorTargets
import Derived.Test.YtlhdieoemhjjiaaGreatDoorEngSV
import Derived.Test.YtlhdieoemhjjiaaGreatDoorRulings
set_option linter.unusedVariables false
set_option linter.unusedSimpArgs false
namespace Lc
open Go
theorem rngU32 {x:Int}(h:Rng (.int .u32) x):U32 x:=by
 unfold U32
 have h:IntKind.u32.min≤x∧x≤IntKind.u32.max:=h
 simpa[IntKind.min,IntKind.max,IntKind.signed,IntKind.bits] using h
theorem rngU8 {x:Int}(h:Rng (.int .u8) x):0≤x∧x≤255:=by
 have h:IntKind.u8.min≤x∧x≤IntKind.u8.max:=h
 simpa[IntKind.min,IntKind.max,IntKind.signed,IntKind.bits] using h
theorem rngU256 {a:List Int}(h:Rng (.arr 4 (.int .u64)) a):Ok4 a:=by
 refine Ok4.of h.1 (fun x hx=> ?_)
 have h2:IntKind.u64.min≤x∧x≤IntKind.u64.max:=h.2 x hx
 simpa[IntKind.min,IntKind.max,IntKind.signed,IntKind.bits] using h2
abbrev hdrTy :Ty:= .pair (.int .u32) (.pair (.arr 32 (.int .u8)) (.pair (.arr 32 (.int .u8)) (.pair (.int .u32) (.pair (.int .u32) (.pair (.int .u32) .unit)))))
abbrev cpTy :Ty:= .pair (.int .i64) (.pair (.arr 32 (.int .u8)) .unit)
abbrev parTy :Ty:= .pair hdrTy (.pair (.arr 4 (.int .u64)) (.pair (.int .i64) (.pair (.int .u32) (.pair (.int .u32) (.pair (.int .u32) (.pair (.slc cpTy) (.pair (.int .i64) (.pair (.int .i64) (.pair (.int .i64) .unit)))))))))
end Lc
namespace Lc
open Go
theorem rngBytes14 {xs:List Int}(h:∀x,x∈xs→Rng (.int .u8) x):Bytes xs:=fun x hx=>rngU8 (h x hx)
theorem rngHash14 {h:List Int}(hr:Rng (.arr 32 (.int .u8)) h):HOk h:=⟨hr.1,rngBytes14 hr.2⟩
theorem rngHdr {h:Hdr}(hr:Rng hdrTy h):HdrOk h:=⟨rngU32 hr.1,rngHash14 hr.2.1,rngHash14 hr.2.2.1,rngU32 hr.2.2.2.1,rngU32 hr.2.2.2.2.1,rngU32 hr.2.2.2.2.2.1⟩
theorem rngPar14 {p:Par}(h:Rng parTy p):PRng p:=⟨rngU256 h.2.1,rngHdr h.1,rngU32 h.2.2.2.2.1,rngU32 h.2.2.2.2.2.1⟩
end Lc
namespace Lc
open Go
end Lc
