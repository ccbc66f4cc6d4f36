/- Chapter 21's examples: asked of the kernel. -/
import Derived.Test.YtedldiimhbebdaaGreatPN1
import Derived.KernelRfl
namespace Go.Proofs.YtedldiimhbebdaaGreat.Ai
open Go.Proofs.YtedldiimhbebdaaGreat
noncomputable section
open Go.RowKit
set_option maxRecDepth 100000
theorem kn19All : okV (.bool true) (callF (fun _ _ _ => none) tabT.get (exec (fun _ _ _ => none) tabT.get 100000) (.fn 5) [] heap0) = true := by kernel_rfl
theorem kn19_fact (h : Heap) : Fact Tryz.prog 5 [] h (.bool true) h := num_of (memo0 _) kn19All rfl rfl h
end
end Go.Proofs.YtedldiimhbebdaaGreat.Ai
