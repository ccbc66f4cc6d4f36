/- A piece of ordinate's RenewKnown's run, asked of the kernel. -/
import Derived.Test.YtikakpoiknjjiaaGreatRenewKnownS0
import Derived.KernelRfl
namespace Go.Proofs.YtikakpoiknjjiaaGreat.RenewKnownC
open Go.Proofs.YtikakpoiknjjiaaGreat Go.Proofs.YtikakpoiknjjiaaGreat.Ai
set_option maxRecDepth 100000
noncomputable section
theorem r4 : comesI af3.n S444 (iter (exec (fun _ _ _ => none) tabT.get 100000) cI 3 S321.ts S321.h) = true := by kernel_rfl
end
end Go.Proofs.YtikakpoiknjjiaaGreat.RenewKnownC
