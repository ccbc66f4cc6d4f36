/- Chapter 21's examples: asked of the kernel. -/
import Derived.Test.YtedldiimhbebdaaPN1
import Derived.KernelRfl
namespace Go.Proofs.Ytedldiimhbebdaa.Ai
open Go.Proofs.Ytedldiimhbebdaa
noncomputable section
open Go.RowKit
set_option maxRecDepth 100000
theorem kn19All : okV (.bool true) (callF (fun _ _ _ => none) tabT.get (exec (fun _ _ _ => none) tabT.get 100000) (.fn 19) [] heap0) = true := by kernel_rfl
theorem kn19_fact (h : Heap) : Fact Try.prog 19 [] h (.bool true) h := num_of (memo0 _) kn19All rfl rfl h
end
end Go.Proofs.Ytedldiimhbebdaa.Ai
