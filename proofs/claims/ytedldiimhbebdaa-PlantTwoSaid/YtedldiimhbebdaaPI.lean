/- What Cells and Words come to; where a tree's word lies. -/
import Derived.Test.YtedldiimhbebdaaPH
import Derived.Test.YtedldiimhbebdaaAiArg
namespace Go.Proofs.Ytedldiimhbebdaa.Ai
open Go.Proofs.Ytedldiimhbebdaa
noncomputable section
open Go.RowKit

theorem layF_word : ∀ (f : Nat) (l : List Pr) (u : Nat), l.length < f → ((u : Int) + 1) * 8 ≤ (layF f l u).1 ∧ (layF f l u).1 < ((u : Int) + (layF f l u).2.length + 1) * 8 ∧ (layF f l u).2 ≠ []
  | 0, l, u, hf => by omega
  | f + 1, l, u, _ => by
    by_cases h2 : 2 ≤ l.length
    · rw [layF_two h2]
      simp only [List.length_append, List.length_cons]
      refine ⟨by omega, by omega, by simp⟩
    · match l, h2 with
      | [], _ => simp [layF]; omega
      | [p], _ => simp [layF]; omega
      | _ :: _ :: _, h2 => simp at h2

theorem OwnAt.ints {h : Heap} {u : Option Nat} {C : List Int} (o : OwnAt h u 1 C.length (C.map I)) : IntsAt h (ownSl u C.length) C := by
  cases u with
  | none => have := o.non rfl; exact .inl ⟨List.eq_nil_of_length_eq_zero this, none, 0, by rw [this]; rfl⟩
  | some y => exact .inr ⟨y, 0, C.length, rfl, o.rd⟩

section
variable {P : Program} {tab : Nat → Option AFunc} (hT : TabOk P tab) (H : Has tab)
include hT H

theorem clone_spec {h : Heap} {u : Option Nat} {C : List Int} (o : OwnAt h u 1 C.length (C.map I)) (hl : C.length < 1000000) : FSpec P 68 [ownSl u C.length] h fun v h' => (∃ u', v = ownSl u' C.length ∧ OwnAt h' u' 1 C.length (C.map I) ∧ (∀ y, u' = some y → h.next ≤ y)) ∧ Same h h' (fun _ => False) := by
  refine fspec_cwf hT H.f68 rfl ?_
  cases u with
  | none =>
    have hn := o.non rfl
    have : C = [] := List.eq_nil_of_length_eq_zero hn
    subst this
    simp only [af68, cwf_seq, cwf_ops, cwf_ret, c_true, andThen_normal, andThen_ret, fnQ_ret, owf_nil, o_p, bo_eq, optQ_some, pop, popQ, ev, putA, putArgs, look_put, isB_true, resAll, resA, mkRes1, List.length_nil, isNilV, Option.isNone_none, cond_false, ite_true, ite_false, Bool.not_true, Nat.reduceEqDiff, Option.some.injEq, exists_eq_left', ownSl, Option.map_none]
    exact ⟨⟨none, rfl, OwnAt.nil h 1, fun y hy => by cases hy⟩, Same.refl _ _⟩
  | some y =>
    have h1 := (o.use y rfl).2.2
    have hs : Same h (h.new ⟨[], 0, 1, true, false⟩) (fun _ => False) := Same.new
    have e1 : (h.new ⟨[], 0, 1, true, false⟩).blks.get h.next = some ⟨[], 0, 1, true, false⟩ := by rw [new_get]; exact if_pos rfl
    obtain ⟨v2, h2, z, a2, _, s2, ze, ho⟩ := app_empty (bytes := 8) e1 (Nat.lt_succ_self _) (o.same hs (fun _ _ x => x)).rd.src (by simp) (by simp [scalar]) (Nat.le_refl _) (by omega) (by omega)
    obtain ⟨o2, rfl⟩ := ho (by omega)
    simp only [af68, cwf_seq, cwf_ops, cwf_ret, c_false, cwf_skip, andThen_normal, fnQ_ret, owf_nil, o_p, o_e, behind_eq, bo_eq, optQ_some, opt2_some, pop, popQ, ev, putA, putArgs, look_put, isB_false, resAll, resA, mkRes1, eop_app, eop_buildS, bldS_some, evP_nil, fillA_nil, Nat.mul_one, isNilV, Option.isNone_some, cond_false, ite_true, ite_false, Bool.not_false, Nat.reduceEqDiff, Option.some.injEq, exists_eq_left', ownSl, Option.map_some, a2]
    have sf := hs.trans s2 (fun _ _ x => x)
    rw [tail_marks h h2 sf.marks]
    refine ⟨⟨some z, rfl, o2, fun y hy => ?_⟩, sf⟩
    cases hy
    rcases ze with e | e
    · omega
    · rw [e, new_next]; omega

theorem cells_spec {h : Heap} {b : Nat} {u : Option Nat} {C : List Int} {z c o r : Int} (m : MemAt h b u C z c o r) (hl : C.length < 1000000) : FSpec P 34 [.pointer (some ⟨b, 0, none⟩)] h fun v h' => (∃ u', v = ownSl u' C.length ∧ OwnAt h' u' 1 C.length (C.map I) ∧ (∀ y, u' = some y → h.next ≤ y)) ∧ Same h h' (fun _ => False) := by
  refine fspec_cwf hT H.f34 rfl ?_
  obtain ⟨v1, h1, F1, ⟨u', rfl, o1, n1⟩, s1⟩ := clone_spec hT H m.own hl
  simp only [af34, cwf_seq, cwf_ops, andThen_normal, owf_nil, o_p, o_r, owf_call, bo_eq, optQ_some, pop, popQ, rop_load1, ldV_ptr, ev, evs, putA, putArgs, look_put, Nat.add_zero, ite_true, ite_false, Nat.reduceEqDiff, m.rd0]
  refine ⟨_, _, F1, ?_⟩
  simp only [cwf_ret, andThen_normal, fnQ_ret, owf_nil, o_p, behind_eq, bo_eq, optQ_some, pop, popQ, ev, putA, look_put, resAll, resA, mkRes1, ite_true, ite_false, Nat.reduceEqDiff, Option.some.injEq, exists_eq_left']
  rw [tail_marks h h1 s1.marks]
  exact ⟨⟨u', rfl, o1, n1⟩, s1⟩

theorem words_spec {h : Heap} {v v' : Value} {A B : List Int} (a : IntsAt h v A) (b : IntsAt h v' B) (hl : A.length < 1000000) (hl' : B.length < 1000000) : FSpec P 36 [v, v'] h fun w h' => (w = .bool true ∧ A = B ∨ w = .bool false ∧ A ≠ B) ∧ h' = h := by
  refine fspec_cwf hT H.f36 rfl ?_
  have hv : ∃ base cap, v = .slice base A.length cap := by rcases a with ⟨rfl, base, cap, rfl⟩ | ⟨x, p, cap, rfl, _⟩ <;> exact ⟨_, _, rfl⟩
  have hv' : ∃ base cap, v' = .slice base B.length cap := by rcases b with ⟨rfl, base, cap, rfl⟩ | ⟨x, p, cap, rfl, _⟩ <;> exact ⟨_, _, rfl⟩
  obtain ⟨b1, c1, hv⟩ := hv
  obtain ⟨b2, c2, hv'⟩ := hv'
  by_cases hlen : A.length = B.length
  · have e : ((A.length : Int) != B.length) = false := by rw [hlen]; simp
    have e1 : look ((T.nil.put 0 v).put 1 v') 0 = v := by simp only [look_put, ite_true, ite_false, Nat.reduceEqDiff]
    subst hv; subst hv'
    simp only [af36, cwf_seq, cwf_ops, c_false, cwf_skip, cwf_block, cwf_loop, andThen_normal, owf_nil, o_p, bo_eq, optQ_some, pop, popQ, ev, putA, putArgs, look_put, isB_false, abinF_eq, abin, decide_true, cond_true, cond_false, ite_true, ite_false, Bool.not_false, Nat.reduceEqDiff, Nat.zero_add, e]
    refine cw_loop (fun k ts h' => ∃ i : Nat, k = A.length - i ∧ i ≤ A.length ∧ h' = h ∧ look ts 0 = .slice b1 A.length c1 ∧ look ts 1 = .slice b2 B.length c2 ∧ look ts 5 = I i ∧ ∀ j, j < i → A[j]? = B[j]?) ?_ (n := A.length) ⟨0, rfl, Nat.zero_le _, rfl, by simp only [look_put, ite_true, ite_false, Nat.reduceEqDiff], by simp only [look_put, ite_true, ite_false, Nat.reduceEqDiff], by simp only [look_put, Int.cast_ofNat_Int, ite_true, ite_false, Nat.reduceEqDiff] <;> rfl, fun j hj => by omega⟩
    rintro k ts h' ⟨i, rfl, i2, rfl, t0, t1, t5, heq⟩
    refine cwf_cw ?_
    by_cases hi : i < A.length
    · have ci : ((i : Int) < A.length) = True := by simp [hi]
      have ci' : ((i : Int) < B.length) = True := by simp; omega
      have wi : wrapF .i64 ((i : Int) + 1) = ((i + 1 : Nat) : Int) := by rw [wrapI] <;> omega
      rcases a with ⟨rfl, _⟩ | ⟨x, p, cap, ha, ra⟩
      · simp at hi
      rcases b with ⟨rfl, _⟩ | ⟨y, q, cap', hb, rb⟩
      · rw [List.length_nil] at hlen; omega
      cases ha; cases hb
      have r1 : h'.rd x (p + i) = some (I A[i]) := by rw [ra.rd (by omega)]; simp [hi]
      have r2 : h'.rd y (q + i) = some (I (B[i]'(by omega))) := by rw [rb.rd (by omega)]; simp; try omega
      simp only [cwf_seq, cwf_ops, c_true, cwf_skip, cwf_block, cwf_draw, andThen_normal, owf_nil, o_p, bo_eq, bd_eq, optQ_some, d_p, d_r, pop, popQ, rop_load1, ldV_ptr, ev, putA, look_put, isB_true, abinF_eq, abin, Int.toNat_natCast, Int.natCast_nonneg, Nat.mul_one, inB_eq, decide_true, cond_true, cond_false, ite_true, ite_false, Bool.and_true, Nat.reduceEqDiff, t0, t5, ci]
      refine ⟨cf00, cf00_ok, ?_⟩
      by_cases hc : A[i] = B[i]'(by omega)
      · have e2 : (A[i] != B[i]'(by omega)) = false := by rw [hc]; simp
        simp only [cwf_ops, c_false, cwf_skip, andThen_normal, blockQ_normal, roundQ_normal, owf_nil, o_p, bo_eq, bd_eq, optQ_some, dwf_nil, d_p, d_r, pop, popQ, rop_load1, ldV_ptr, ev, putA, look_put, isB_false, abinF_eq, abin, Int.toNat_natCast, Int.natCast_nonneg, Nat.mul_one, inB_eq, decide_true, cond_true, ite_true, ite_false, Bool.and_true, Bool.not_false, Nat.reduceEqDiff, true_and, t0, t1, t5, ci', r1, r2, e2, wi]
        refine ⟨A.length - (i + 1), by omega, i + 1, rfl, by omega, rfl, fun j hj => ?_⟩
        by_cases hj2 : j < i
        · exact heq j hj2
        · have : j = i := by omega
          subst this
          rw [List.getElem?_eq_getElem hi, List.getElem?_eq_getElem (by omega), hc]
      · have e2 : (A[i] != B[i]'(by omega)) = true := by simp [hc]
        simp only [cwf_seq, cwf_ops, cwf_ret, c_true, andThen_normal, andThen_ret, blockQ_ret, roundQ_ret, fnQ_ret, owf_nil, o_p, bo_eq, bd_eq, optQ_some, dwf_nil, d_p, d_r, pop, popQ, rop_load1, ldV_ptr, ev, putA, look_put, isB_true, abinF_eq, abin, resAll, resA, mkRes1, Int.toNat_natCast, Int.natCast_nonneg, Nat.mul_one, inB_eq, decide_true, cond_true, ite_true, ite_false, Bool.and_true, Nat.reduceEqDiff, Option.some.injEq, exists_eq_left', true_and, and_true, t1, t5, ci', r1, r2, e2]
        refine .inr (fun hab => hc ?_)
        subst hab; rfl
    · have ci : ((i : Int) < A.length) = False := by simp; omega
      simp only [cwf_seq, cwf_ops, cwf_ret, c_false, cwf_exit, andThen_normal, andThen_exit, blockQ_exit, roundQ_exit, fnQ_ret, owf_nil, o_p, bo_eq, optQ_some, pop, popQ, ev, putA, look_put, isB_false, abinF_eq, abin, resAll, resA, mkRes1, decide_true, decide_false, cond_true, cond_false, ite_true, ite_false, Bool.not_false, Nat.reduceEqDiff, Option.some.injEq, exists_eq_left', true_and, and_true, t0, t5, ci]
      refine .inl (List.ext_getElem? fun j => ?_)
      by_cases hj : j < i
      · exact heq j hj
      · rw [List.getElem?_eq_none (by omega), List.getElem?_eq_none (by omega)]
  · have e : ((A.length : Int) != B.length) = true := by simp; omega
    subst hv; subst hv'
    simp only [af36, cwf_seq, cwf_ops, cwf_ret, c_true, andThen_normal, andThen_ret, fnQ_ret, owf_nil, o_p, bo_eq, optQ_some, pop, popQ, ev, putA, putArgs, look_put, isB_true, abinF_eq, abin, resAll, resA, mkRes1, decide_true, cond_true, cond_false, ite_true, ite_false, Nat.reduceEqDiff, Nat.zero_add, Option.some.injEq, exists_eq_left', true_and, and_true, e]
    exact .inr (fun hab => hlen (by rw [hab]))
end
end
end Go.Proofs.Ytedldiimhbebdaa.Ai
