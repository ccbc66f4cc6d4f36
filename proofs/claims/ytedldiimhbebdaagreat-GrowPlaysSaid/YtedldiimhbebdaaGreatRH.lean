/- What the document's From comes to. -/
import Derived.Test.YtedldiimhbebdaaGreatRX
import Derived.Test.YtedldiimhbebdaaGreatTabOk
namespace Go.Proofs.YtedldiimhbebdaaGreat.Ai
open Go.Proofs.YtedldiimhbebdaaGreat
noncomputable section
set_option linter.unusedVariables false
open Go.RowKit
structure HasW (tab : Nat → Option AFunc) : Prop where
  w88 : tab 88 = some af88

theorem hasW : HasW tabT.get := ⟨by kernel_rfl⟩

section
variable {P : Program} {tab : Nat → Option AFunc} (hT : TabOk P tab) (HW : HasW tab)
include hT HW

theorem rfrom_fact (deg : ∀ n : Nat, n ≤ 120 → ∀ h, Fact P 87 [I n] h (I (degN n)) h) (siz : ∀ n i : Nat, 2 ≤ n → n ≤ 120 → i < degN n → ∀ h, Fact P 89 [I n, I i] h (I (sizeN n i)) h) (n i : Nat) (h2 : 2 ≤ n) (h120 : n ≤ 120) (hi : i < degN n) (h : Heap) : Fact P 88 [I n, I i] h (I (fromN n i)) h := by
  have pn := partN h2 h120
  suffices FSpec P 88 [I n, I i] h fun v h' => v = I (fromN n i) ∧ h' = h by
    obtain ⟨v, h', F, rfl, rfl⟩ := this
    exact F
  refine fspec_cwf hT HW.w88 rfl ?_
  have c0 : ((i : Int) < 0) = False := by simp
  have c1 : ((i : Int) ≥ degN n) = False := by simp; omega
  simp only [af88, cwf_seq, cwf_ops, andThen_normal, owf_nil, o_p, owf_call, o_on, bo_eq, optQ_some, pop, popQ, ev, evs, putA, putArgs, look_put, isB_false, abinF_eq, abin, decide_true, decide_false, cond_true, ite_true, ite_false, Bool.not_false, Nat.reduceEqDiff, Nat.zero_add, o_on, c0]
  refine ⟨_, _, deg n h120 h, ?_⟩
  simp only [cwf_seq, cwf_ops, c_false, cwf_skip, cwf_block, cwf_loop, andThen_normal, owf_nil, o_p, o_on, behind_eq, bo_eq, optQ_some, pop, popQ, ev, putA, look_put, isB_false, abinF_eq, abin, decide_true, decide_false, cond_true, cond_false, ite_true, ite_false, Bool.not_false, Nat.reduceEqDiff, o_on, c1]
  refine cw_loop (fun k ts h' => ∃ (j : Nat), k = i - j ∧ j ≤ i ∧ h' = h ∧ look ts 0 = I n ∧ look ts 1 = I i ∧ look ts 5 = I (fromN n j) ∧ look ts 6 = I j) ?_ (n := i) ⟨0, rfl, Nat.zero_le _, rfl, by simp only [look_put, ite_true, ite_false, Nat.reduceEqDiff], by simp only [look_put, ite_true, ite_false, Nat.reduceEqDiff], by simp only [look_put, ite_true, ite_false, Nat.reduceEqDiff] <;> simp [fromN], by simp only [look_put, Int.cast_ofNat_Int, ite_true, ite_false, Nat.reduceEqDiff] <;> rfl⟩
  rintro k ts h' ⟨j, rfl, hj, rfl, t0, t1, t5, t6⟩
  refine cwf_cw ?_
  by_cases hji : j < i
  · have cj : ((j : Int) < i) = True := by simp [hji]
    have hn := pn.next j (by omega)
    have ht := pn.top j (by omega)
    have d11 := pn.deg11
    have wn : wrapF .i64 ((fromN n j : Int) + sizeN n j) = ((fromN n (j + 1) : Nat) : Int) := by rw [hn, wrapI] <;> omega
    have wj : wrapF .i64 ((j : Int) + 1) = ((j + 1 : Nat) : Int) := by rw [wrapI] <;> omega
    simp only [cwf_seq, cwf_ops, c_true, cwf_skip, cwf_block, andThen_normal, owf_nil, o_p, owf_call, bo_eq, optQ_some, pop, popQ, ev, evs, putA, look_put, isB_true, abinF_eq, abin, decide_true, cond_true, ite_true, ite_false, Nat.reduceEqDiff, t0, t1, t5, t6, cj]
    refine ⟨_, _, siz n j h2 h120 (by omega) _, ?_⟩
    simp only [cwf_ops, andThen_normal, blockQ_normal, roundQ_normal, owf_nil, o_p, behind_eq, bo_eq, optQ_some, pop, popQ, ev, putA, look_put, abinF_eq, abin, decide_true, cond_true, ite_true, ite_false, Nat.reduceEqDiff, true_and, t0, t1, t5, t6, wn, wj]
    exact ⟨i - (j + 1), by omega, j + 1, rfl, by omega, rfl, rfl⟩
  · have e : j = i := by omega
    subst e
    have cj : ((j : Int) < j) = False := by simp
    simp only [cwf_seq, cwf_ops, cwf_ret, c_false, cwf_exit, andThen_normal, andThen_exit, blockQ_exit, roundQ_exit, fnQ_ret, owf_nil, o_p, bo_eq, optQ_some, pop, popQ, ev, putA, look_put, isB_false, abinF_eq, abin, resAll, resA, mkRes1, decide_true, decide_false, cond_true, ite_true, ite_false, Bool.not_false, Nat.reduceEqDiff, Option.some.injEq, exists_eq_left', and_true, t1, t5, t6, cj]
end
end
end Go.Proofs.YtedldiimhbebdaaGreat.Ai
