/- The pieces of ordinate's RenewKnown's run, put together. -/
import Derived.Test.YtikakpoiknjjiaaGreatRenewKnownR0
import Derived.Test.YtikakpoiknjjiaaGreatRenewKnownR1
import Derived.Test.YtikakpoiknjjiaaGreatRenewKnownR2
import Derived.Test.YtikakpoiknjjiaaGreatRenewKnownR3
import Derived.Test.YtikakpoiknjjiaaGreatRenewKnownR4
import Derived.Test.YtikakpoiknjjiaaGreatRenewKnownR5
import Derived.Test.YtikakpoiknjjiaaGreatRenewKnownR6
import Derived.Test.YtikakpoiknjjiaaGreatRenewKnownR7
import Derived.Test.YtikakpoiknjjiaaGreatRenewKnownR8
import Derived.Test.YtikakpoiknjjiaaGreatRenewKnownR9
import Derived.Test.YtikakpoiknjjiaaGreatRenewKnownR10
import Derived.Test.YtikakpoiknjjiaaGreatRenewKnownR11
import Derived.Test.YtikakpoiknjjiaaGreatRenewKnownR12
import Derived.Test.YtikakpoiknjjiaaGreatRenewKnownR13
import Derived.Test.YtikakpoiknjjiaaGreatRenewKnownR14
import Derived.Test.YtikakpoiknjjiaaGreatRenewKnownR15
import Derived.Test.YtikakpoiknjjiaaGreatRenewKnownR16
import Derived.Test.YtikakpoiknjjiaaGreatRenewKnownR17
import Derived.Test.YtikakpoiknjjiaaGreatRenewKnownR18
import Derived.KernelRfl
namespace Go.Proofs.YtikakpoiknjjiaaGreat.RenewKnownC
open Go.Proofs.YtikakpoiknjjiaaGreat Go.Proofs.YtikakpoiknjjiaaGreat.Ai
set_option maxRecDepth 100000
noncomputable section
theorem rounds : ∃ m, LRun Tryz.prog af3.n cI (.exit 0) S2004.ts S2004.h S3.ts S3.h m := lr_of tabOk (memo0 Tryz.prog) r0 (lr_of tabOk (memo0 Tryz.prog) r1 (lr_of tabOk (memo0 Tryz.prog) r2 (lr_of tabOk (memo0 Tryz.prog) r3 (lr_of tabOk (memo0 Tryz.prog) r4 (lr_of tabOk (memo0 Tryz.prog) r5 (lr_of tabOk (memo0 Tryz.prog) r6 (lr_of tabOk (memo0 Tryz.prog) r7 (lr_of tabOk (memo0 Tryz.prog) r8 (lr_of tabOk (memo0 Tryz.prog) r9 (lr_of tabOk (memo0 Tryz.prog) r10 (lr_of tabOk (memo0 Tryz.prog) r11 (lr_of tabOk (memo0 Tryz.prog) r12 (lr_of tabOk (memo0 Tryz.prog) r13 (lr_of tabOk (memo0 Tryz.prog) r14 (lr_of tabOk (memo0 Tryz.prog) r15 (lr_end tabOk (memo0 Tryz.prog) r16))))))))))))))))
theorem body_fact : CFact Tryz.prog af3.n af3.body S0.ts S0.h .ret S2078.ts S2078.h := by
  obtain ⟨m, hm⟩ := rounds
  rw [body_eq]
  exact cf_seq (cf_of tabOk (memo0 Tryz.prog) rA) (cf_seq (cf_seq (cf_of tabOk (memo0 Tryz.prog) rB) (cf_block (cf_loop hm))) (cf_of tabOk (memo0 Tryz.prog) rR))
theorem hf : tabT.get 3 = some af3 := by kernel_rfl
end
end Go.Proofs.YtikakpoiknjjiaaGreat.RenewKnownC
