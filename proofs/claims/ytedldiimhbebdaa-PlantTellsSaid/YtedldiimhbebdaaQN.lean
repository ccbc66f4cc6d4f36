/- The numbers of the ideal shape, as the document's functions tell them: all of them. -/
import Derived.Test.YtedldiimhbebdaaQN2
import Derived.Test.YtedldiimhbebdaaQN3
namespace Go.Proofs.Ytedldiimhbebdaa.Ai
open Go.Proofs.Ytedldiimhbebdaa
noncomputable section
theorem numR : NumR Try.prog := ⟨rdeg_fact, rsiz_fact, rcel_fact⟩
end
end Go.Proofs.Ytedldiimhbebdaa.Ai
