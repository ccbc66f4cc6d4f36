/- Chapter 22's example: asked of the kernel. -/
import Derived.Test.YtnonihjoimobmaaGreatPN1
import Derived.KernelRfl
namespace Go.Proofs.YtnonihjoimobmaaGreat.Ai
open Go.Proofs.YtnonihjoimobmaaGreat
noncomputable section
open Go.RowKit
set_option maxRecDepth 100000
theorem A3o : okV (.bool true) (Acn (fun _ _ _ => none) tabT.get (Ahc (fun _ _ _ => none) tabT.get 100000) (.fn 14) [] Af1) = true := by kernel_rfl
theorem Ay9 (h : Aac) : Aa3 Tryz.prog 14 [] h (.bool true) h := Amw (A13 _) A3o rfl rfl h
end
end Go.Proofs.YtnonihjoimobmaaGreat.Ai
