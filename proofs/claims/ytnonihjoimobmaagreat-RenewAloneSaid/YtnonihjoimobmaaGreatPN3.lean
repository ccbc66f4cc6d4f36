/- The numbers of the ideal shape: From. -/
import Derived.Test.YtnonihjoimobmaaGreatPN1
namespace Go.Proofs.YtnonihjoimobmaaGreat.Ai
open Go.Proofs.YtnonihjoimobmaaGreat
noncomputable section
open Go.RowKit
set_option maxRecDepth 100000
theorem A5p : ((List.range 121).all fun n => Nat.blt n 2 || (List.range (Aar n)).all fun i => okV (.int .i64 (.ofNat (Aa1 n i))) (Acn Agr tabT.get (Ahc Agr tabT.get 100000) (.fn 86) [.int .i64 (.ofNat n), .int .i64 (.ofNat i)] Af1)) = true := by kernel_rfl
theorem A1w (n i : Nat) (h2 : 2 ≤ n) (hn : n ≤ 120) (hi : i < Aar n) (h : Aac) : Aa3 Tryz.prog 86 [I n, I i] h (I (Aa1 n i)) h := by
  have := List.all_eq_true.1 A5p n (List.mem_range.2 (by omega))
  simp only [Bool.or_eq_true] at this
  rcases this with h0 | h0
  · have : Nat.ble (n + 1) 2 = true := h0
    have := Nat.le_of_ble_eq_true this; omega
  · exact Amw Aho (List.all_eq_true.1 h0 i (List.mem_range.2 hi)) rfl rfl h
end
end Go.Proofs.YtnonihjoimobmaaGreat.Ai
