/- From the ranges of arguments to the conditions of the laws. -/
import Derived.Test.YtkbnmdjmjjfdmaaTargets
import Derived.Test.YtkbnmdjmjjfdmaaEngSV
import Derived.Test.YtkbnmdjmjjfdmaaRulings
set_option linter.unusedVariables false
set_option linter.unusedSimpArgs false
namespace Lc
open Go
theorem rngU8 {x:Int}(h:Rng (.int .u8) x):0≤x∧x≤255:=by
 have h:IntKind.u8.min≤x∧x≤IntKind.u8.max:=h
 simpa[IntKind.min,IntKind.max,IntKind.signed,IntKind.bits] using h
end Lc
namespace Lc
open Go
theorem rngBytes14 {xs:List Int}(h:∀x,x∈xs→Rng (.int .u8) x):Bytes xs:=fun x hx=>rngU8 (h x hx)
end Lc
namespace Lc
open Go
end Lc
