/- The numbers of the ideal shape, as the document's functions tell them: Degree, Size. -/
import Derived.Test.YtedldiimhbebdaaGreatPN1
import Derived.Test.YtedldiimhbebdaaGreatQX
namespace Go.Proofs.YtedldiimhbebdaaGreat.Ai
open Go.Proofs.YtedldiimhbebdaaGreat
noncomputable section
open Go.RowKit
set_option maxRecDepth 100000
theorem rdegAll : ((List.range 121).all fun n => okV (.int .i64 (.ofNat (degN n))) (callF (fun _ _ _ => none) tabT.get (exec (fun _ _ _ => none) tabT.get 100000) (.fn 87) [.int .i64 (.ofNat n)] heap0)) = true := by kernel_rfl
theorem rdeg_fact (n : Nat) (hn : n ≤ 120) (h : Heap) : Fact Tryz.prog 87 [I n] h (I (degN n)) h :=
  num_of (memo0 _) (List.all_eq_true.1 rdegAll n (List.mem_range.2 (by omega))) rfl rfl h

def rdegMemo : Memo := fun f args h => bif Nat.beq f 87 then (match args with
  | [.int .i64 (.ofNat n)] => bif Nat.ble n 120 then some (.int .i64 (.ofNat (degN n)), h) else none
  | _ => none) else none

theorem rdegMemo_ok : MemoOk Tryz.prog rdegMemo := by
  intro f args h v h' hv
  unfold rdegMemo at hv
  rcases beq_cases f 87 with ⟨b1, b2⟩ | ⟨b1, _⟩
  · rw [b1] at hv; simp only [cond_true] at hv
    subst b2
    split at hv
    · rename_i n
      cases hb : Nat.ble n 120 with
      | false => rw [hb] at hv; cases hv
      | true =>
        rw [hb] at hv; simp only [cond_true, Option.some.injEq, Prod.mk.injEq] at hv
        obtain ⟨rfl, rfl⟩ := hv
        exact rdeg_fact n (Nat.le_of_ble_eq_true hb) h
    · cases hv
  · rw [b1] at hv; cases hv
end
end Go.Proofs.YtedldiimhbebdaaGreat.Ai
