/- The numbers of the ideal shape, and chapter 21's examples: all of them, the program's and the document's. -/
import Derived.Test.YtedldiimhbebdaaGreatPN3
import Derived.Test.YtedldiimhbebdaaGreatPN4
import Derived.Test.YtedldiimhbebdaaGreatQN2
import Derived.Test.YtedldiimhbebdaaGreatGN
import Derived.Test.YtedldiimhbebdaaGreatRH
namespace Go.Proofs.YtedldiimhbebdaaGreat.Ai
open Go.Proofs.YtedldiimhbebdaaGreat
noncomputable section
open Go.RowKit
set_option maxRecDepth 100000
theorem num : Num Tryz.prog := ⟨deg_fact, frm_fact, siz_fact⟩
theorem numF : NumF Tryz.prog := ⟨rdeg_fact, rfrom_fact tabOk hasW rdeg_fact rsiz_fact, rsiz_fact⟩
theorem hasF2 : HasF2 tabT.get := { toHasF := hasF, m62 := by kernel_rfl }
theorem hasF3 : HasF3 tabT.get := { toHasF2 := hasF2, m10 := by kernel_rfl, m15 := by kernel_rfl, m23 := by kernel_rfl, m26 := by kernel_rfl, m27 := by kernel_rfl, m41 := by kernel_rfl }
end
end Go.Proofs.YtedldiimhbebdaaGreat.Ai
