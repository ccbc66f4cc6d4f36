/- What Build comes to. -/
import Derived.Test.YtedldiimhbebdaaPF
namespace Go.Proofs.Ytedldiimhbebdaa.Ai
open Go.Proofs.Ytedldiimhbebdaa
noncomputable section
open Go.RowKit
section
variable {P : Program} {tab : Nat → Option AFunc} (hT : TabOk P tab) (H : Has tab)
include hT H

theorem build_spec (Nu : Num P) {h : Heap} {v : Value} {l : List Pr} {ul : Option Nat} (a : PrAt h v l ul) (hl : l.length ≤ 120) {b : Nat} {u : Option Nat} {C : List Int} {z c o r : Int} (m : MemAt h b u C z c o r) (hb : ul ≠ some b) (hu : ∀ y, ul = some y → u ≠ some y) (hC : (C.length : Int) ≤ z) (hz : z ≤ 65536) (hc0 : 0 ≤ c) (hc1 : c < 900000000) :
    FSpec P 27 [.pointer (some ⟨b, 0, none⟩), v] h fun v h' =>
      (v = .tuple #[I (layF (l.length + 1) l C.length).1, .bool true] ∧ Asc l ∧ (C.length : Int) + cellsN l.length ≤ z ∧ (∃ u' c', MemAt h' b u' (C ++ (layF (l.length + 1) l C.length).2) z c' o r ∧ c ≤ c' ∧ c' ≤ c + cellsN l.length ∧ (∀ y, u' = some y → u = some y ∨ h.next ≤ y)) ∧ Same h h' (fun j => j = b ∨ u = some j)) ∨
      (v = .tuple #[I 0, .bool false] ∧ ¬ (Asc l ∧ (C.length : Int) + cellsN l.length ≤ z) ∧ h' = h) := by
  generalize hW : layF (l.length + 1) l C.length = W
  refine fspec_cwf hT H.f27 rfl ?_
  obtain ⟨base, cap, hv⟩ := a.len
  have hcm : cellsN l.length ≤ 1100 := by
    by_cases h2 : 2 ≤ l.length
    · exact (partN h2 hl).most
    · have : l.length = 0 ∨ l.length = 1 := by omega
      rcases this with e | e
      · rw [e, cells0]; omega
      · rw [e, cells1]; omega
  obtain ⟨v1, h1, F1, hr, rfl⟩ := right_spec hT H a (by omega)
  obtain ⟨v3, h3, F3, rfl, rfl⟩ := size_spec hT H m
  obtain ⟨v4, h4, F4, rfl, rfl⟩ := used_spec hT H m
  have wz : wrapF .i64 (z - C.length) = z - C.length := wrapI (by omega) (by omega)
  simp only [af27, cwf_seq, cwf_ops, andThen_normal, owf_nil, o_p, owf_call, bo_eq, optQ_some, pop, popQ, ev, evs, putA, putArgs, look_put, ite_true, ite_false, Nat.reduceEqDiff, Nat.zero_add]
  refine ⟨_, _, F1, ?_⟩
  rcases hr with ⟨rfl, ha, hla⟩ | ⟨rfl, hn⟩
  · have e : evs ((T.nil.put 0 v)) [.t 0] = [v] := by simp only [ev, evs, look_put, ite_true]
    simp only [o_p, o_on, behind_eq, bo_eq, optQ_some, pop, popQ, ev, putA, look_put, isB_false, cond_false, ite_true, ite_false, Bool.not_true, Bool.not_false, Nat.reduceEqDiff]
    subst hv
    simp only [owf_call, o_on, bo_eq, optQ_some, ev, evs, putA, look_put, isB_false, ite_true, ite_false, Bool.not_false, Nat.reduceEqDiff]
    refine ⟨_, _, Nu.cel l.length hl _, ?_⟩
    simp only [o_p, owf_call, o_on, behind_eq, bo_eq, optQ_some, pop, popQ, ev, evs, putA, look_put, isB_false, ite_true, ite_false, Bool.not_false, Nat.reduceEqDiff]
    refine ⟨_, _, F3, ?_⟩
    simp only [o_p, owf_call, o_on, behind_eq, bo_eq, optQ_some, pop, popQ, ev, evs, putA, look_put, isB_false, ite_true, ite_false, Bool.not_false, Nat.reduceEqDiff]
    refine ⟨_, _, F4, ?_⟩
    by_cases hroom : (C.length : Int) + cellsN l.length ≤ z
    · have cr : ((cellsN l.length : Int) > z - C.length) = False := by simp; omega
      simp only [cwf_seq, cwf_ops, c_false, cwf_skip, andThen_normal, owf_nil, o_p, owf_call, o_on, behind_eq, bo_eq, optQ_some, pop, popQ, ev, evs, putA, look_put, isB_false, abinF_eq, abin, decide_true, decide_false, cond_true, cond_false, ite_true, ite_false, Bool.not_false, Nat.reduceEqDiff, wz, cr]
      rcases a with ⟨rfl, base', cap', hv'⟩ | ⟨x, p, cap', rfl, hv', hpos, hrd⟩
      · cases hv'
        obtain ⟨v5, h5, F5, rfl, ⟨u', m5, n5⟩, s5⟩ := lay_nil hT H m (base := base) (cap := cap) (by rw [List.length_nil, cells0] at hroom; exact hroom) hz ⟨hc0, by omega⟩
        refine ⟨_, _, F5, ?_⟩
        simp only [cwf_ret, andThen_normal, fnQ_ret, owf_nil, o_p, behind_eq, bo_eq, optQ_some, pop, popQ, ev, putA, look_put, resAll, resA, mkRes2, List.length_nil, Int.cast_ofNat_Int, ite_true, ite_false, Nat.reduceEqDiff, Option.some.injEq, exists_eq_left']
        rw [tail_marks h4 h5 s5.marks]
        subst hW
        exact .inl ⟨rfl, ha, hroom, ⟨u', c + 1, m5, by omega, by rw [cells0]; simp, n5⟩, s5⟩
      · cases hv'
        obtain ⟨v5, h5, F5, rfl, ⟨u', c', m5, b1, b2, n5⟩, s5⟩ := lay_spec hT H Nu (l.length + 1) l h4 b x p cap u C z c o r (by omega) hl hpos m hrd (fun e => hb (by rw [e])) (hu x rfl) hroom hz hc0 (by omega)
        rw [hW] at F5 m5
        refine ⟨_, _, F5, ?_⟩
        simp only [cwf_ret, andThen_normal, fnQ_ret, owf_nil, o_p, behind_eq, bo_eq, optQ_some, pop, popQ, ev, putA, look_put, resAll, resA, mkRes2, ite_true, ite_false, Nat.reduceEqDiff, Option.some.injEq, exists_eq_left', true_and]
        rw [tail_marks h4 h5 s5.marks]
        exact .inl ⟨ha, hroom, ⟨u', c', m5, b1, b2, n5⟩, s5⟩
    · have cr : ((cellsN l.length : Int) > z - C.length) = True := by simp; omega
      simp only [cwf_seq, cwf_ops, cwf_ret, c_true, andThen_normal, andThen_ret, fnQ_ret, owf_nil, o_p, o_on, behind_eq, bo_eq, optQ_some, pop, popQ, ev, putA, look_put, isB_true, isB_false, abinF_eq, abin, resAll, resA, mkRes2, decide_true, cond_true, cond_false, ite_true, ite_false, Bool.not_false, Nat.reduceEqDiff, Option.some.injEq, exists_eq_left', true_and, and_true, wz, cr]
      exact .inr (fun hx => hroom hx.2)
  · simp only [cwf_seq, cwf_ops, cwf_ret, c_true, andThen_normal, andThen_ret, fnQ_ret, owf_nil, o_p, o_off, behind_eq, bo_eq, optQ_some, pop, popQ, ev, putA, look_put, isB_true, isB_false, resAll, resA, mkRes2, cond_true, ite_true, ite_false, Bool.not_true, Bool.not_false, Nat.reduceEqDiff, Option.some.injEq, exists_eq_left', true_and, and_true]
    exact .inr (fun hx => hn ⟨hx.1, by omega⟩)
end
end
end Go.Proofs.Ytedldiimhbebdaa.Ai
