/- The numbers of the ideal shape, as the program's functions tell them: asked of the kernel, for all that are asked. Degree; the chapter's example. -/
import Derived.Test.YtpeihcpclcibgaaGreatPX
import Derived.KernelRfl
namespace Go.Proofs.YtpeihcpclcibgaaGreat.Ai
open Go.Proofs.YtpeihcpclcibgaaGreat
noncomputable section
open Go.RowKit
set_option maxRecDepth 100000

def okV (v : Value) : Option (Value × Heap) → Bool
  | some (u, _) => veq u v
  | none => false

theorem num_of {mm : Memo} (hM : MemoOk Tryz.prog mm) {n f : Nat} {args : List Value} {v : Value} (h : okV v (callF mm tabT.get (exec mm tabT.get n) (.fn f) args heap0) = true) (ha : args.all plain = true) (hv : plain v = true) (k : Heap) : Fact Tryz.prog f args k v k := by
  unfold okV at h
  split at h
  · rename_i u h' hc
    have e := veq_eq h
    subst e
    exact (fact_of tabOk hM hc).frame ha hv k
  · cases h

theorem degAll : ((List.range 121).all fun n => okV (.int .i64 (.ofNat (degN n))) (callF (fun _ _ _ => none) tabT.get (exec (fun _ _ _ => none) tabT.get 100000) (.fn 151) [.int .i64 (.ofNat n)] heap0)) = true := by kernel_rfl

theorem deg_fact (n : Nat) (hn : n ≤ 120) (h : Heap) : Fact Tryz.prog 151 [I n] h (I (degN n)) h :=
  num_of (memo0 _) (List.all_eq_true.1 degAll n (List.mem_range.2 (by omega))) rfl rfl h

def degMemo : Memo := fun f args h => bif Nat.beq f 151 then (match args with
  | [.int .i64 (.ofNat n)] => bif Nat.ble n 120 then some (.int .i64 (.ofNat (degN n)), h) else none
  | _ => none) else none

theorem degMemo_ok : MemoOk Tryz.prog degMemo := by
  intro f args h v h' hv
  unfold degMemo at hv
  rcases beq_cases f 151 with ⟨b1, b2⟩ | ⟨b1, _⟩
  · rw [b1] at hv; simp only [cond_true] at hv
    subst b2
    split at hv
    · rename_i n
      cases hb : Nat.ble n 120 with
      | false => rw [hb] at hv; cases hv
      | true =>
        rw [hb] at hv; simp only [cond_true, Option.some.injEq, Prod.mk.injEq] at hv
        obtain ⟨rfl, rfl⟩ := hv
        exact deg_fact n (Nat.le_of_ble_eq_true hb) h
    · cases hv
  · rw [b1] at hv; cases hv
end
end Go.Proofs.YtpeihcpclcibgaaGreat.Ai
