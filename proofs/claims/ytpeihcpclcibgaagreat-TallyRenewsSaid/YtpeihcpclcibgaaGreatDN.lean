/- Chapter 23's examples: asked of the kernel. -/
import Derived.Test.YtpeihcpclcibgaaGreatPN1
import Derived.KernelRfl
namespace Go.Proofs.YtpeihcpclcibgaaGreat.Ai
open Go.Proofs.YtpeihcpclcibgaaGreat
noncomputable section
open Go.RowKit
set_option maxRecDepth 100000
theorem A2c : okV (.bool true) (Ack (fun _ _ _ => none) tabT.get (Agv (fun _ _ _ => none) tabT.get 100000) (.fn 22) [] Af3) = true := by kernel_rfl
theorem Awk (h : Aac) : Aa0 Tryz.prog 22 [] h (.bool true) h := Amt (A0a _) A2c rfl rfl h
end
end Go.Proofs.YtpeihcpclcibgaaGreat.Ai
