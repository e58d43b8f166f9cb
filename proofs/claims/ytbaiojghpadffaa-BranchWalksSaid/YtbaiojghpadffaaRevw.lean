/- slices.Reverse at this seat, by its contract on the kit's shelf. -/
import Derived.Test.YtbaiojghpadffaaLay
import Derived.Test.YtbaiojghpadffaaRev
namespace Go.Proofs.Ytbaiojghpadffaa
open Go Go.Shelf Lc
theorem revSound : SoundM Try.prog 37 ⟨.int .i64, [], RevPre, RevFn, true⟩ :=
  revM Try.laysReverse 37 (by kernel_rfl) ⟨Try.f37, Try.func37, by kernel_rfl, by kernel_rfl⟩
end Go.Proofs.Ytbaiojghpadffaa
