/- WordKnown: the words by hand have the expected values. No condition. -/
import Derived.Test.YtojlafkiaibeeaaPWordKnownx1
import Derived.KernelRfl
namespace Go.Proofs.Ytojlafkiaibeeaa.Pure
open Go.RowKit Go.Proofs.Ytojlafkiaibeeaa.PWordKnown Go.Proofs.YtojlafkiaibeeaaW.PrintWords Go.Proofs.YtojlafkiaibeeaaW.PrintLast

theorem WordKnown : concentriclaw1_WordKnown.Pure := ⟨20, by kernel_rfl⟩

end Go.Proofs.Ytojlafkiaibeeaa.Pure
