/- A piece of ordinate's RenewKnown's run, asked of the kernel. -/
import Derived.Test.YtikakpoiknjjiaaGreatRenewKnownS0
import Derived.KernelRfl
namespace Go.Proofs.YtikakpoiknjjiaaGreat.RenewKnownC
open Go.Proofs.YtikakpoiknjjiaaGreat Go.Proofs.YtikakpoiknjjiaaGreat.Ai
set_option maxRecDepth 100000
noncomputable section
theorem rA : comesC af3.n .normal S1 (exec (fun _ _ _ => none) tabT.get 100000 none cA S0.ts S0.h) = true := by kernel_rfl
theorem rB : comesC af3.n .normal S3 (exec (fun _ _ _ => none) tabT.get 100000 none cB S1.ts S1.h) = true := by kernel_rfl
end
end Go.Proofs.YtikakpoiknjjiaaGreat.RenewKnownC
