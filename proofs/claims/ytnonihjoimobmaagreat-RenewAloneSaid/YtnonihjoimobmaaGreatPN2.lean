/- The numbers of the ideal shape: Cells. -/
import Derived.Test.YtnonihjoimobmaaGreatPN1
namespace Go.Proofs.YtnonihjoimobmaaGreat.Ai
open Go.Proofs.YtnonihjoimobmaaGreat
noncomputable section
open Go.RowKit
set_option maxRecDepth 100000
theorem A08 : ((List.range 16).all fun n => okV (.int .i64 (.ofNat (Abf n))) (Acn Agr tabT.get (Ahc Agr tabT.get 100000) (.fn 50) [.int .i64 (.ofNat n)] Af1)) = true := by kernel_rfl
theorem Azq (n : Nat) (hn : n ≤ 15) (h : Aac) : Aa3 Tryz.prog 50 [I n] h (I (Abf n)) h :=
  Amw Aho (List.all_eq_true.1 A08 n (List.mem_range.2 (by omega))) rfl rfl h

def Aoj : Amx := fun f args h => bif Nat.beq f 50 then (match args with
  | [.int .i64 (.ofNat n)] => bif Nat.ble n 15 then some (.int .i64 (.ofNat (Abf n)), h) else none
  | _ => none) else Agr f args h

theorem Aue : Agx Tryz.prog Aoj := by
  intro f args h v h' hv
  unfold Aoj at hv
  rcases Aa6 f 50 with ⟨b1, b2⟩ | ⟨b1, _⟩
  · rw [b1] at hv; simp only [cond_true] at hv
    subst b2
    split at hv
    · rename_i n
      cases hb : Nat.ble n 15 with
      | false => rw [hb] at hv; cases hv
      | true =>
        rw [hb] at hv; simp only [cond_true, Option.some.injEq, Prod.mk.injEq] at hv
        obtain ⟨rfl, rfl⟩ := hv
        exact Azq n (Nat.le_of_ble_eq_true hb) h
    · cases hv
  · rw [b1] at hv; exact Aho f args h v h' hv

theorem A5c : ((List.range 121).all fun n => okV (.int .i64 (.ofNat (Abf n))) (Acn Aoj tabT.get (Ahc Aoj tabT.get 100000) (.fn 50) [.int .i64 (.ofNat n)] Af1)) = true := by kernel_rfl
theorem A1n (n : Nat) (hn : n ≤ 120) (h : Aac) : Aa3 Tryz.prog 50 [I n] h (I (Abf n)) h :=
  Amw Aue (List.all_eq_true.1 A5c n (List.mem_range.2 (by omega))) rfl rfl h
end
end Go.Proofs.YtnonihjoimobmaaGreat.Ai
