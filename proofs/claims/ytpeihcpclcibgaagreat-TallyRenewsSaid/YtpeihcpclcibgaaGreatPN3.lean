/- The numbers of the ideal shape: From. -/
import Derived.Test.YtpeihcpclcibgaaGreatPN1
namespace Go.Proofs.YtpeihcpclcibgaaGreat.Ai
open Go.Proofs.YtpeihcpclcibgaaGreat
noncomputable section
open Go.RowKit
set_option maxRecDepth 100000
theorem A5b : ((List.range 121).all fun n => Nat.blt n 2 || (List.range (Aaq n)).all fun i => okV (.int .i64 (.ofNat (Aaz n i))) (Ack Agj tabT.get (Agv Agj tabT.get 100000) (.fn 159) [.int .i64 (.ofNat n), .int .i64 (.ofNat i)] Af3)) = true := by kernel_rfl
theorem A01 (n i : Nat) (h2 : 2 ≤ n) (hn : n ≤ 120) (hi : i < Aaq n) (h : Aac) : Aa0 Tryz.prog 159 [I n, I i] h (I (Aaz n i)) h := by
  have := List.all_eq_true.1 A5b n (List.mem_range.2 (by omega))
  simp only [Bool.or_eq_true] at this
  rcases this with h0 | h0
  · have : Nat.ble (n + 1) 2 = true := h0
    have := Nat.le_of_ble_eq_true this; omega
  · exact Amt Ahc (List.all_eq_true.1 h0 i (List.mem_range.2 hi)) rfl rfl h
end
end Go.Proofs.YtpeihcpclcibgaaGreat.Ai
