/- The numbers of the ideal shape, as the program's functions tell them: asked of the kernel, for all that are asked. Degree; the chapter's example. -/
import Derived.Test.YtpeihcpclcibgaaGreatG0
import Derived.KernelRfl
namespace Go.Proofs.YtpeihcpclcibgaaGreat.Ai
open Go.Proofs.YtpeihcpclcibgaaGreat
noncomputable section
open Go.RowKit
set_option maxRecDepth 100000

def okV (v : Value) : Option (Value × Aac) → Bool
  | some (u, _) => veq u v
  | none => false

theorem Amt {mm : Amn} (hM : Agp Tryz.prog mm) {n f : Nat} {args : List Value} {v : Value} (h : okV v (Ack mm tabT.get (Agv mm tabT.get n) (.fn f) args Af3) = true) (ha : args.all Acq = true) (hv : Acq v = true) (k : Aac) : Aa0 Tryz.prog f args k v k := by
  unfold okV at h
  split at h
  · rename_i u h' hc
    have e := Atf h
    subst e
    exact (Awa tabOk hM hc).frame ha hv k
  · cases h

theorem A4q : ((List.range 121).all fun n => okV (.int .i64 (.ofNat (Aaq n))) (Ack (fun _ _ _ => none) tabT.get (Agv (fun _ _ _ => none) tabT.get 100000) (.fn 151) [.int .i64 (.ofNat n)] Af3)) = true := by kernel_rfl

theorem Asu (n : Nat) (hn : n ≤ 120) (h : Aac) : Aa0 Tryz.prog 151 [I n] h (I (Aaq n)) h :=
  Amt (A0a _) (List.all_eq_true.1 A4q n (List.mem_range.2 (by omega))) rfl rfl h

def Agj : Amn := fun f args h => bif Nat.beq f 151 then (match args with
  | [.int .i64 (.ofNat n)] => bif Nat.ble n 120 then some (.int .i64 (.ofNat (Aaq n)), h) else none
  | _ => none) else none

theorem Ahc : Agp Tryz.prog Agj := by
  intro f args h v h' hv
  unfold Agj at hv
  rcases Aa6 f 151 with ⟨b1, b2⟩ | ⟨b1, _⟩
  · rw [b1] at hv; simp only [cond_true] at hv
    subst b2
    split at hv
    · rename_i n
      cases hb : Nat.ble n 120 with
      | false => rw [hb] at hv; cases hv
      | true =>
        rw [hb] at hv; simp only [cond_true, Option.some.injEq, Prod.mk.injEq] at hv
        obtain ⟨rfl, rfl⟩ := hv
        exact Asu n (Nat.le_of_ble_eq_true hb) h
    · cases hv
  · rw [b1] at hv; cases hv
end
end Go.Proofs.YtpeihcpclcibgaaGreat.Ai
