/- The numbers of the ideal shape: all of them. -/
import Derived.Test.YtnonihjoimobmaaGreatPN2
import Derived.Test.YtnonihjoimobmaaGreatPN3
import Derived.Test.YtnonihjoimobmaaGreatPN4
namespace Go.Proofs.YtnonihjoimobmaaGreat.Ai
open Go.Proofs.YtnonihjoimobmaaGreat
noncomputable section
theorem num : Num Tryz.prog := ⟨At4, A1w, A1q, A1n⟩
end
end Go.Proofs.YtnonihjoimobmaaGreat.Ai
