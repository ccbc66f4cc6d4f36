/- A piece of ordinate's RenewKnown's run, asked of the kernel. -/
import Derived.Test.YtikakpoiknjjiaaGreatRenewKnownS0
import Derived.KernelRfl
namespace Go.Proofs.YtikakpoiknjjiaaGreat.RenewKnownC
open Go.Proofs.YtikakpoiknjjiaaGreat Go.Proofs.YtikakpoiknjjiaaGreat.Ai
set_option maxRecDepth 100000
noncomputable section
theorem rR : comesC af3.n .ret S2078 (exec (fun _ _ _ => none) tabT.get 100000 none cR S2004.ts S2004.h) = true := by kernel_rfl
theorem rV : resAll S2078.ts S2078.h af3.res = some [.bool true] := by kernel_rfl
theorem start0 : S0.ts = .nil ∧ S0.h = heap0 := ⟨by kernel_rfl, by kernel_rfl⟩
end
end Go.Proofs.YtikakpoiknjjiaaGreat.RenewKnownC
