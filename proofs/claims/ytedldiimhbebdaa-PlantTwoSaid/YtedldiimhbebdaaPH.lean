/- PlantRoom, for all arguments. -/
import Derived.Test.YtedldiimhbebdaaPG
namespace Go.Proofs.Ytedldiimhbebdaa.Ai
open Go.Proofs.Ytedldiimhbebdaa
noncomputable section
open Go.RowKit

theorem own_pr {h : Heap} {u : Option Nat} {l : List Pr} (o : OwnAt h u 2 l.length (flat l)) : PrAt h (ownSl u l.length) l u := by
  cases u with
  | none => have := o.non rfl; exact .inl ⟨List.eq_nil_of_length_eq_zero this, none, 0, by rw [this]; rfl⟩
  | some y => exact .inr ⟨y, 0, l.length, rfl, rfl, (o.use y rfl).2.2, o.rd⟩

section
variable {P : Program} {tab : Nat → Option AFunc} (hT : TabOk P tab) (H : Has tab)
include hT H

theorem plantRoom_spec (Nu : Num P) (Kn : ∀ h, Fact P 22 [] h (.bool true) h) {h : Heap} {v : Value} {L : List Int} (a : (L = [] ∧ ∃ base cap, v = .slice base 0 cap) ∨ ∃ x p cap, v = .slice (some ⟨x, p, none⟩) L.length cap ∧ RdAt h x p 1 L.length cap (L.map I)) (more : Int) :
    FSpec P 7 [v, I more] h fun v h' => v = .bool true ∧ Same h h' (fun _ => False) := by
  refine fspec_cwf hT H.f7 rfl ?_
  obtain ⟨v1, h1, F1, ⟨l, u, rfl, o, hasc, hl, hu⟩, s1⟩ := pairs_spec hT H a
  obtain ⟨v2, h2, F2, rfl, rfl⟩ := cut_spec hT H h1 more 5 (by omega) (by omega)
  have em := Int.emod_nonneg more (show (5 : Int) ≠ 0 by omega)
  have el := Int.emod_lt_of_pos more (show (0 : Int) < 5 by omega)
  have hcm : cellsN l.length ≤ 1100 := by
    by_cases h2 : 2 ≤ l.length
    · exact (partN h2 (by omega)).most
    · have : l.length = 0 ∨ l.length = 1 := by omega
      rcases this with e | e
      · rw [e, cells0]; omega
      · rw [e, cells1]; omega
  have w1 : wrapF .i64 ((cellsN l.length : Int) + more % 5) = (cellsN l.length : Int) + more % 5 := wrapI (by omega) (by omega)
  have w2 : wrapF .i64 ((cellsN l.length : Int) + more % 5 - 2) = (cellsN l.length : Int) + more % 5 - 2 := wrapI (by omega) (by omega)
  simp only [af7, cwf_seq, cwf_ops, andThen_normal, owf_nil, o_p, owf_call, bo_eq, optQ_some, pop, popQ, ev, evs, putA, putArgs, look_put, ite_true, ite_false, Nat.reduceEqDiff, Nat.zero_add]
  refine ⟨_, _, F1, ?_⟩
  simp only [cwf_seq, cwf_ops, andThen_normal, owf_nil, o_p, owf_call, behind_eq, bo_eq, optQ_some, pop, popQ, ev, evs, putA, look_put, cond_false, ite_true, ite_false, Nat.reduceEqDiff]
  refine ⟨_, _, Nu.cel l.length (by omega) _, ?_⟩
  simp only [o_p, owf_call, behind_eq, bo_eq, optQ_some, pop, popQ, ev, evs, putA, look_put, ite_true, ite_false, Nat.reduceEqDiff]
  refine ⟨_, _, F2, ?_⟩
  generalize hN : (cellsN l.length : Int) + more % 5 - 2 = N at w2
  by_cases c1 : N < 1
  · simp only [cwf_seq, cwf_ops, c_true, andThen_normal, owf_nil, o_p, owf_call, behind_eq, bo_eq, optQ_some, pop, popQ, ev, evs, putA, look_put, isB_true, abinF_eq, abin, decide_true, cond_true, ite_true, ite_false, Nat.reduceEqDiff, w1, w2, hN, c1]
    refine ⟨_, _, Kn _, ?_⟩
    simp only [cwf_ret, andThen_normal, andThen_ret, fnQ_ret, owf_nil, o_p, behind_eq, bo_eq, optQ_some, pop, popQ, ev, putA, look_put, resAll, resA, mkRes1, ite_true, ite_false, Nat.reduceEqDiff, Option.some.injEq, exists_eq_left', true_and]
    rw [tail_marks h h2 s1.marks]
    exact s1
  · simp only [cwf_seq, cwf_ops, c_false, cwf_skip, andThen_normal, owf_nil, o_p, owf_call, behind_eq, bo_eq, optQ_some, pop, popQ, ev, evs, putA, look_put, isB_false, abinF_eq, abin, decide_true, decide_false, cond_true, ite_true, ite_false, Bool.not_false, Nat.reduceEqDiff, w1, w2, hN, c1]
    obtain ⟨v3, h3, F3, rfl, m3, s3⟩ := new_spec hT H h2 N (by omega) (by omega)
    refine ⟨_, _, F3, ?_⟩
    have cn : ((0 : Int) != 0) = false := rfl
    simp only [cwf_seq, cwf_ops, c_false, cwf_skip, andThen_normal, owf_nil, o_p, owf_call, o_on, behind_eq, bo_eq, optQ_some, pop, popQ, ev, evs, putA, look_put, isB_false, abinF_eq, abin, isNilV, Option.isNone_some, decide_true, cond_true, cond_false, ite_true, ite_false, Bool.not_false, Nat.reduceEqDiff, List.getElem?_cons_zero, List.getElem?_cons_succ, cn]
    have o3 := o.same s3 (fun _ _ x => x)
    obtain ⟨v4, h4, F4, hb⟩ := build_spec hT H Nu (own_pr o3) (by omega) m3 (fun e => by have := (o.use _ e).2.1; omega) (by simp) (by simp; omega) (by omega) (by omega) (by omega)
    have s13 : Same h h3 (fun _ => False) := s1.trans s3 (fun _ _ x => x)
    have e0 : ((0 : Int) == 0) = true := rfl
    rcases hb with ⟨rfl, _, hroom, ⟨u', c', m4, _, _, _⟩, s4⟩ | ⟨rfl, hno, rfl⟩
    · refine ⟨_, _, F4, ?_⟩
      have hlen : (layF (l.length + 1) l ([] : List Int).length).2.length = cellsN l.length := layF_len _ _ _ (by omega) (by omega)
      have hC : (([] : List Int) ++ (layF (l.length + 1) l ([] : List Int).length).2).length = cellsN l.length := hlen
      have cr : (N ≥ (cellsN l.length : Int)) = True := by simp at hroom; simp; omega
      obtain ⟨v5, h5, F5, rfl, rfl⟩ := used_spec hT H m4
      obtain ⟨v6, h6, F6, rfl, rfl⟩ := refused_spec hT H m4
      obtain ⟨v7, h7, F7, rfl, rfl⟩ := odd_spec hT H m4
      rw [hC] at F5
      simp only [cwf_seq, cwf_ops, c_false, cwf_skip, andThen_normal, owf_nil, o_p, owf_call, behind_eq, bo_eq, optQ_some, pop, popQ, ev, evs, putA, look_put, isB_false, List.length_nil, ite_true, ite_false, Bool.not_true, Bool.not_false, Nat.reduceEqDiff, List.getElem?_cons_zero, List.getElem?_cons_succ]
      refine ⟨_, _, Kn _, ?_⟩
      simp only [o_p, owf_call, o_on, behind_eq, bo_eq, optQ_some, pop, popQ, ev, evs, putA, look_put, isB_true, cond_false, ite_true, ite_false, Nat.reduceEqDiff]
      refine ⟨_, _, Nu.cel l.length (by omega) _, ?_⟩
      simp only [o_p, owf_call, o_on, behind_eq, bo_eq, optQ_some, pop, popQ, ev, evs, putA, look_put, isB_true, abinF_eq, abin, decide_true, cond_true, ite_true, ite_false, Nat.reduceEqDiff, cr]
      refine ⟨_, _, F5, ?_⟩
      simp only [o_p, owf_call, o_on, behind_eq, bo_eq, optQ_some, pop, popQ, ev, evs, putA, look_put, isB_true, cond_false, ite_true, ite_false, Nat.reduceEqDiff]
      refine ⟨_, _, Nu.cel l.length (by omega) _, ?_⟩
      simp only [o_p, owf_call, o_on, behind_eq, bo_eq, optQ_some, pop, popQ, ev, evs, putA, look_put, isB_true, abinF_eq, abin, decide_true, cond_true, ite_true, ite_false, Nat.reduceEqDiff, beq_self_eq_true]
      refine ⟨_, _, F6, ?_⟩
      simp only [o_p, owf_call, o_on, behind_eq, bo_eq, optQ_some, pop, popQ, ev, evs, putA, look_put, isB_true, abinF_eq, abin, decide_true, cond_true, ite_true, ite_false, Nat.reduceEqDiff, e0]
      refine ⟨_, _, F7, ?_⟩
      simp only [cwf_ret, andThen_normal, fnQ_ret, owf_nil, o_p, o_on, behind_eq, bo_eq, optQ_some, pop, popQ, ev, putA, look_put, isB_true, abinF_eq, abin, resAll, resA, mkRes1, decide_true, cond_true, ite_true, ite_false, Nat.reduceEqDiff, Option.some.injEq, exists_eq_left', true_and, e0]
      have sf := s13.trans s4 (fun j hj e => e.elim (fun e => by have := s1.next; omega) (fun e => by cases e))
      rw [tail_marks h _ sf.marks]
      exact sf
    · refine ⟨_, _, F4, ?_⟩
      have cr : (N < (cellsN l.length : Int)) = True := by
        have : ¬ ((cellsN l.length : Int) ≤ N) := fun hx => hno ⟨hasc, by simpa using hx⟩
        simp; omega
      obtain ⟨v5, h5, F5, rfl, rfl⟩ := used_spec hT H m3
      obtain ⟨v6, h6, F6, rfl, rfl⟩ := count_spec hT H m3
      simp only [cwf_seq, cwf_ops, c_true, andThen_normal, owf_nil, o_p, owf_call, behind_eq, bo_eq, optQ_some, pop, popQ, ev, evs, putA, look_put, isB_true, ite_true, ite_false, Bool.not_false, Nat.reduceEqDiff, List.getElem?_cons_zero, List.getElem?_cons_succ]
      refine ⟨_, _, Kn _, ?_⟩
      simp only [o_p, owf_call, o_on, behind_eq, bo_eq, optQ_some, pop, popQ, ev, evs, putA, look_put, isB_true, cond_false, ite_true, ite_false, Nat.reduceEqDiff]
      refine ⟨_, _, Nu.cel l.length (by omega) _, ?_⟩
      simp only [o_p, owf_call, o_on, behind_eq, bo_eq, optQ_some, pop, popQ, ev, evs, putA, look_put, isB_true, abinF_eq, abin, decide_true, cond_true, ite_true, ite_false, Nat.reduceEqDiff, cr]
      refine ⟨_, _, F5, ?_⟩
      simp only [o_p, owf_call, o_on, behind_eq, bo_eq, optQ_some, pop, popQ, ev, evs, putA, look_put, isB_true, abinF_eq, abin, List.length_nil, Int.cast_ofNat_Int, decide_true, cond_true, ite_true, ite_false, Nat.reduceEqDiff, e0]
      refine ⟨_, _, F6, ?_⟩
      simp only [cwf_ret, andThen_normal, andThen_ret, fnQ_ret, owf_nil, o_p, o_on, behind_eq, bo_eq, optQ_some, pop, popQ, ev, putA, look_put, isB_true, abinF_eq, abin, resAll, resA, mkRes1, decide_true, cond_true, ite_true, ite_false, Nat.reduceEqDiff, Option.some.injEq, exists_eq_left', true_and, e0]
      rw [tail_marks h _ s13.marks]
      exact s13
end
end
end Go.Proofs.Ytedldiimhbebdaa.Ai
