/- What Pairs comes to. -/
import Derived.Test.YtedldiimhbebdaaPE
namespace Go.Proofs.Ytedldiimhbebdaa.Ai
open Go.Proofs.Ytedldiimhbebdaa
noncomputable section
open Go.RowKit
section
variable {P : Program} {tab : Nat → Option AFunc} (hT : TabOk P tab) (H : Has tab)
include hT H

theorem pairs_spec {h : Heap} {v : Value} {L : List Int} (a : (L = [] ∧ ∃ base cap, v = .slice base 0 cap) ∨ ∃ x p cap, v = .slice (some ⟨x, p, none⟩) L.length cap ∧ RdAt h x p 1 L.length cap (L.map I)) :
    FSpec P 33 [v] h fun v h' => (∃ l u, v = ownSl u l.length ∧ OwnAt h' u 2 l.length (flat l) ∧ Asc l ∧ l.length ≤ 60 ∧ (∀ y, u = some y → h.next ≤ y)) ∧ Same h h' (fun _ => False) := by
  refine fspec_cwf hT H.f33 rfl ?_
  have hv : ∃ base cap, v = .slice base L.length cap := by
    rcases a with ⟨rfl, base, cap, rfl⟩ | ⟨x, p, cap, rfl, _⟩ <;> exact ⟨_, _, rfl⟩
  simp only [af33, cwf_seq, cwf_ops, cwf_block, cwf_loop, andThen_normal, owf_nil, o_p, bo_eq, optQ_some, pop, popQ, ev, putA, putArgs]
  refine cw_loop (fun m ts h' => ∃ (i : Nat) (l : List Pr) (u : Option Nat), m = 60 - i ∧ i ≤ 60 ∧ l.length ≤ i ∧ look ts 0 = v ∧ look ts 3 = ownSl u l.length ∧ look ts 4 = I i ∧ OwnAt h' u 2 l.length (flat l) ∧ Asc l ∧ (∀ y, u = some y → h.next ≤ y) ∧ Same h h' (fun _ => False)) ?_ (n := 60) ⟨0, [], none, rfl, by omega, by simp, by simp only [look_put, ite_true, ite_false, Nat.reduceEqDiff], by simp only [look_put, List.length_nil, ite_true, ite_false, Nat.reduceEqDiff] <;> rfl, by simp only [look_put, Int.cast_ofNat_Int, ite_true, ite_false, Nat.reduceEqDiff] <;> rfl, OwnAt.nil _ _, fun j hj => by simp at hj, by simp, Same.refl _ _⟩
  rintro m ts h' ⟨i, l, u, rfl, i60, hli, t0, t3, t4, o, hasc, hu, hs⟩
  obtain ⟨base, cap, hv⟩ := hv
  refine cwf_cw ?_
  by_cases c : i < L.length ∧ i < 60
  · obtain ⟨c1, c2⟩ := c
    rcases a with ⟨rfl, _⟩ | ⟨x, p, cap', rfl, hr⟩
    · simp at c1
    cases hv
    have ci : ((i : Int) < L.length) = True := by simp [c1]
    have ci2 : ((i : Int) < 60) = True := by simp; omega
    have rk : h'.rd x (p + i) = some (I L[i]) := by
      rw [(hr.same hs (fun x => x)).rd (by omega)]; simp [c1]
    obtain ⟨v1, h1, F1, rfl, rfl⟩ := cut_spec hT H h' L[i] 97 (by omega) (by omega)
    have em := Int.emod_nonneg L[i] (show (97 : Int) ≠ 0 by omega)
    have el := Int.emod_lt_of_pos L[i] (show (0 : Int) < 97 by omega)
    have w40 : wrapF .i64 (L[i] % 97 - 40) = L[i] % 97 - 40 := wrapI (by omega) (by omega)
    have wi : wrapF .i64 ((i : Int) + 1) = ((i + 1 : Nat) : Int) := by rw [wrapI] <;> omega
    simp only [cwf_seq, cwf_ops, c_true, cwf_skip, cwf_block, andThen_normal, owf_nil, o_p, o_r, owf_call, o_on, bo_eq, optQ_some, pop, popQ, rop_load1, ldV_ptr, ev, evs, putA, look_put, isB_true, abinF_eq, abin, Int.toNat_natCast, Int.natCast_nonneg, Nat.mul_one, inB_eq, decide_true, cond_true, cond_false, ite_true, ite_false, Bool.and_true, Nat.reduceEqDiff, t0, t4, ci, ci2, rk]
    refine ⟨_, _, F1, ?_⟩
    simp only [cwf_ops, andThen_normal, owf_nil, o_p, owf_call, behind_eq, bo_eq, optQ_some, pop, popQ, ev, evs, putA, look_put, abinF_eq, abin, decide_true, cond_true, ite_true, ite_false, Nat.reduceEqDiff, t3, t4, w40]
    obtain ⟨v2, h2, F2, ⟨l', y, rfl, o', hasc', hl', hy⟩, s2⟩ := put_spec hT H o hasc (by omega) (L[i] % 97 - 40) i
    refine ⟨_, _, F2, ?_⟩
    simp only [cwf_ops, andThen_normal, blockQ_normal, roundQ_normal, owf_nil, o_p, behind_eq, bo_eq, optQ_some, pop, popQ, ev, putA, look_put, abinF_eq, abin, decide_true, cond_true, ite_true, ite_false, Nat.reduceEqDiff, true_and, t0, t3, t4, wi]
    have n1 := hs.next
    refine ⟨60 - (i + 1), by omega, i + 1, l', some y, rfl, by omega, by omega, rfl, rfl, o', hasc', fun z hz => by cases hz; omega, hs.trans s2 (fun _ _ x => x)⟩
  · subst hv
    by_cases c1 : i < L.length
    · have ci : ((i : Int) < L.length) = True := by simp [c1]
      have ci2 : ((i : Int) < 60) = False := by simp; omega
      simp only [cwf_seq, cwf_ops, cwf_ret, c_false, cwf_exit, andThen_normal, andThen_exit, blockQ_exit, roundQ_exit, fnQ_ret, owf_nil, o_p, o_on, bo_eq, optQ_some, pop, popQ, ev, putA, look_put, isB_true, isB_false, abinF_eq, abin, resAll, resA, mkRes1, decide_true, decide_false, cond_true, cond_false, ite_true, ite_false, Bool.not_false, Nat.reduceEqDiff, Option.some.injEq, exists_eq_left', t0, t3, t4, ci, ci2]
      rw [tail_marks h h' hs.marks]
      exact ⟨⟨l, u, rfl, o, hasc, by omega, hu⟩, hs⟩
    · have ci : ((i : Int) < L.length) = False := by simp; omega
      simp only [cwf_seq, cwf_ops, cwf_ret, c_false, cwf_exit, andThen_normal, andThen_exit, blockQ_exit, roundQ_exit, fnQ_ret, owf_nil, o_p, o_off, bo_eq, optQ_some, pop, popQ, ev, putA, look_put, isB_true, isB_false, abinF_eq, abin, resAll, resA, mkRes1, decide_true, decide_false, cond_true, cond_false, ite_true, ite_false, Bool.not_false, Nat.reduceEqDiff, Option.some.injEq, exists_eq_left', t0, t3, t4, ci]
      rw [tail_marks h h' hs.marks]
      exact ⟨⟨l, u, rfl, o, hasc, by omega, hu⟩, hs⟩

end
end
end Go.Proofs.Ytedldiimhbebdaa.Ai
