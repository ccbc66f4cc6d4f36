/- The numbers of the ideal shape: all of them. -/
import Derived.Test.YtpeihcpclcibgaaGreatPN2
import Derived.Test.YtpeihcpclcibgaaGreatPN3
import Derived.Test.YtpeihcpclcibgaaGreatPN4
namespace Go.Proofs.YtpeihcpclcibgaaGreat.Ai
open Go.Proofs.YtpeihcpclcibgaaGreat
noncomputable section
theorem num : Num Tryz.prog := ⟨Asu, A01, Azv, A0y⟩
end
end Go.Proofs.YtpeihcpclcibgaaGreat.Ai
