/- The numbers of the ideal shape: Cells. -/
import Derived.Test.YtpeihcpclcibgaaGreatPN1
namespace Go.Proofs.YtpeihcpclcibgaaGreat.Ai
open Go.Proofs.YtpeihcpclcibgaaGreat
noncomputable section
open Go.RowKit
set_option maxRecDepth 100000
theorem celSmall : ((List.range 16).all fun n => okV (.int .i64 (.ofNat (cellsN n))) (callF degMemo tabT.get (exec degMemo tabT.get 100000) (.fn 101) [.int .i64 (.ofNat n)] heap0)) = true := by kernel_rfl
theorem cel_small (n : Nat) (hn : n ≤ 15) (h : Heap) : Fact Tryz.prog 101 [I n] h (I (cellsN n)) h :=
  num_of degMemo_ok (List.all_eq_true.1 celSmall n (List.mem_range.2 (by omega))) rfl rfl h

def celMemo : Memo := fun f args h => bif Nat.beq f 101 then (match args with
  | [.int .i64 (.ofNat n)] => bif Nat.ble n 15 then some (.int .i64 (.ofNat (cellsN n)), h) else none
  | _ => none) else degMemo f args h

theorem celMemo_ok : MemoOk Tryz.prog celMemo := by
  intro f args h v h' hv
  unfold celMemo at hv
  rcases beq_cases f 101 with ⟨b1, b2⟩ | ⟨b1, _⟩
  · rw [b1] at hv; simp only [cond_true] at hv
    subst b2
    split at hv
    · rename_i n
      cases hb : Nat.ble n 15 with
      | false => rw [hb] at hv; cases hv
      | true =>
        rw [hb] at hv; simp only [cond_true, Option.some.injEq, Prod.mk.injEq] at hv
        obtain ⟨rfl, rfl⟩ := hv
        exact cel_small n (Nat.le_of_ble_eq_true hb) h
    · cases hv
  · rw [b1] at hv; exact degMemo_ok f args h v h' hv

theorem celAll : ((List.range 121).all fun n => okV (.int .i64 (.ofNat (cellsN n))) (callF celMemo tabT.get (exec celMemo tabT.get 100000) (.fn 101) [.int .i64 (.ofNat n)] heap0)) = true := by kernel_rfl
theorem cel_fact (n : Nat) (hn : n ≤ 120) (h : Heap) : Fact Tryz.prog 101 [I n] h (I (cellsN n)) h :=
  num_of celMemo_ok (List.all_eq_true.1 celAll n (List.mem_range.2 (by omega))) rfl rfl h
end
end Go.Proofs.YtpeihcpclcibgaaGreat.Ai
