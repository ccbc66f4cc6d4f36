/- The numbers of the ideal shape: all of them. -/
import Derived.Test.YtedldiimhbebdaaPN2
import Derived.Test.YtedldiimhbebdaaPN3
import Derived.Test.YtedldiimhbebdaaPN4
namespace Go.Proofs.Ytedldiimhbebdaa.Ai
open Go.Proofs.Ytedldiimhbebdaa
noncomputable section
theorem num : Num Try.prog := ⟨deg_fact, frm_fact, siz_fact, cel_fact⟩
end
end Go.Proofs.Ytedldiimhbebdaa.Ai
