/- A piece of ordinate's RenewKnown's run, asked of the kernel. -/
import Derived.Test.YtikakpoiknjjiaaGreatRenewKnownS0
import Derived.KernelRfl
namespace Go.Proofs.YtikakpoiknjjiaaGreat.RenewKnownC
open Go.Proofs.YtikakpoiknjjiaaGreat Go.Proofs.YtikakpoiknjjiaaGreat.Ai
set_option maxRecDepth 100000
noncomputable section
theorem r16 : comesC af3.n (.exit 0) S2004 (fin (exec (fun _ _ _ => none) tabT.get 100000) cI 1 S1957.ts S1957.h) = true := by kernel_rfl
end
end Go.Proofs.YtikakpoiknjjiaaGreat.RenewKnownC
