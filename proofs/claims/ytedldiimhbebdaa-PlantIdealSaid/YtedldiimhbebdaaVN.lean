/- How deep an ideal tree is, as the program's part.Depth tells it: asked of the kernel. -/
import Derived.Test.YtedldiimhbebdaaPN1
import Derived.Test.YtedldiimhbebdaaVL
namespace Go.Proofs.Ytedldiimhbebdaa.Ai
open Go.Proofs.Ytedldiimhbebdaa
noncomputable section
open Go.RowKit
set_option maxRecDepth 100000
theorem depAll : ((List.range 61).all fun n => okV (.int .i64 (.ofNat (depN n))) (callF degMemo tabT.get (exec degMemo tabT.get 100000) (.fn 50) [.int .i64 (.ofNat n)] heap0)) = true := by kernel_rfl
theorem dep_fact (n : Nat) (hn : n ≤ 60) (h : Heap) : Fact Try.prog 50 [I n] h (I (depN n)) h :=
  num_of degMemo_ok (List.all_eq_true.1 depAll n (List.mem_range.2 (by omega))) rfl rfl h
end
end Go.Proofs.Ytedldiimhbebdaa.Ai
