/- Chapter 23's examples: asked of the kernel. -/
import Derived.Test.YtpeihcpclcibgaaGreatPN1
import Derived.KernelRfl
namespace Go.Proofs.YtpeihcpclcibgaaGreat.Ai
open Go.Proofs.YtpeihcpclcibgaaGreat
noncomputable section
open Go.RowKit
set_option maxRecDepth 100000
theorem kn23All : okV (.bool true) (callF (fun _ _ _ => none) tabT.get (exec (fun _ _ _ => none) tabT.get 100000) (.fn 22) [] heap0) = true := by kernel_rfl
theorem kn23_fact (h : Heap) : Fact Tryz.prog 22 [] h (.bool true) h := num_of (memo0 _) kn23All rfl rfl h
end
end Go.Proofs.YtpeihcpclcibgaaGreat.Ai
