/- The numbers of the ideal shape: Cells. -/
import Derived.Test.YtpeihcpclcibgaaGreatPN1
namespace Go.Proofs.YtpeihcpclcibgaaGreat.Ai
open Go.Proofs.YtpeihcpclcibgaaGreat
noncomputable section
open Go.RowKit
set_option maxRecDepth 100000
theorem A0q : ((List.range 16).all fun n => okV (.int .i64 (.ofNat (Abr n))) (Ack Agj tabT.get (Agv Agj tabT.get 100000) (.fn 101) [.int .i64 (.ofNat n)] Af3)) = true := by kernel_rfl
theorem Awq (n : Nat) (hn : n ≤ 15) (h : Aac) : Aa0 Tryz.prog 101 [I n] h (I (Abr n)) h :=
  Amt Ahc (List.all_eq_true.1 A0q n (List.mem_range.2 (by omega))) rfl rfl h

def Am5 : Amn := fun f args h => bif Nat.beq f 101 then (match args with
  | [.int .i64 (.ofNat n)] => bif Nat.ble n 15 then some (.int .i64 (.ofNat (Abr n)), h) else none
  | _ => none) else Agj f args h

theorem Auq : Agp Tryz.prog Am5 := by
  intro f args h v h' hv
  unfold Am5 at hv
  rcases Aa6 f 101 with ⟨b1, b2⟩ | ⟨b1, _⟩
  · rw [b1] at hv; simp only [cond_true] at hv
    subst b2
    split at hv
    · rename_i n
      cases hb : Nat.ble n 15 with
      | false => rw [hb] at hv; cases hv
      | true =>
        rw [hb] at hv; simp only [cond_true, Option.some.injEq, Prod.mk.injEq] at hv
        obtain ⟨rfl, rfl⟩ := hv
        exact Awq n (Nat.le_of_ble_eq_true hb) h
    · cases hv
  · rw [b1] at hv; exact Ahc f args h v h' hv

theorem A42 : ((List.range 121).all fun n => okV (.int .i64 (.ofNat (Abr n))) (Ack Am5 tabT.get (Agv Am5 tabT.get 100000) (.fn 101) [.int .i64 (.ofNat n)] Af3)) = true := by kernel_rfl
theorem A0y (n : Nat) (hn : n ≤ 120) (h : Aac) : Aa0 Tryz.prog 101 [I n] h (I (Abr n)) h :=
  Amt Auq (List.all_eq_true.1 A42 n (List.mem_range.2 (by omega))) rfl rfl h
end
end Go.Proofs.YtpeihcpclcibgaaGreat.Ai
