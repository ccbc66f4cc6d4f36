/- What Right, Build, and a memory's questions come to. -/
import Derived.Test.YtedldiimhbebdaaPC2
namespace Go.Proofs.Ytedldiimhbebdaa.Ai
open Go.Proofs.Ytedldiimhbebdaa
noncomputable section
open Go.RowKit

def Asc (l : List Pr) : Prop := ∀ j (h : j + 1 < l.length), l[j].1 < l[j + 1].1

/-- a slice of pairs, to be read -/
def PrAt (h : Heap) (v : Value) (l : List Pr) (u : Option Nat) : Prop :=
  (l = [] ∧ ∃ base cap, v = .slice base 0 cap) ∨ ∃ x p cap, u = some x ∧ v = .slice (some ⟨x, p, none⟩) l.length cap ∧ 1 ≤ l.length ∧ RdAt h x p 2 l.length cap (flat l)

theorem PrAt.same {h h' : Heap} {v : Value} {l : List Pr} {u : Option Nat} {S : Nat → Prop} (a : PrAt h v l u) (s : Same h h' S) (hu : ∀ x, u = some x → ¬ S x) : PrAt h' v l u := by
  rcases a with a | ⟨x, p, cap, e1, e2, e3, e4⟩
  · exact .inl a
  · exact .inr ⟨x, p, cap, e1, e2, e3, e4.same s (hu x e1)⟩

section
variable {P : Program} {tab : Nat → Option AFunc} (hT : TabOk P tab) (H : Has tab)
include hT H

theorem used_spec {h : Heap} {b : Nat} {u : Option Nat} {C : List Int} {z c o r : Int} (m : MemAt h b u C z c o r) : FSpec P 20 [.pointer (some ⟨b, 0, none⟩)] h fun v h' => v = I C.length ∧ h' = h := by
  refine fspec_cwf hT H.f20 rfl ?_
  simp only [af20, cwf_seq, cwf_ops, cwf_ret, andThen_normal, fnQ_ret, owf_nil, o_p, o_r, bo_eq, optQ_some, pop, popQ, rop_load1, ldV_ptr, ev, putA, putArgs, look_put, resAll, resA, mkRes1, Nat.add_zero, cond_false, ite_true, ite_false, Nat.reduceEqDiff, Option.some.injEq, exists_eq_left', and_true, m.rd0]
theorem size_spec {h : Heap} {b : Nat} {u : Option Nat} {C : List Int} {z c o r : Int} (m : MemAt h b u C z c o r) : FSpec P 62 [.pointer (some ⟨b, 0, none⟩)] h fun v h' => v = I z ∧ h' = h := by
  refine fspec_cwf hT H.f62 rfl ?_
  simp only [af62, cwf_seq, cwf_ops, cwf_ret, andThen_normal, fnQ_ret, owf_nil, o_p, o_r, bo_eq, optQ_some, pop, popQ, rop_load1, ldV_ptr, ev, putA, putArgs, look_put, resAll, resA, mkRes1, ite_true, ite_false, Nat.reduceEqDiff, Nat.zero_add, Option.some.injEq, exists_eq_left', and_true, m.rd1]
theorem count_spec {h : Heap} {b : Nat} {u : Option Nat} {C : List Int} {z c o r : Int} (m : MemAt h b u C z c o r) : FSpec P 38 [.pointer (some ⟨b, 0, none⟩)] h fun v h' => v = I c ∧ h' = h := by
  refine fspec_cwf hT H.f38 rfl ?_
  simp only [af38, cwf_seq, cwf_ops, cwf_ret, andThen_normal, fnQ_ret, owf_nil, o_p, o_r, bo_eq, optQ_some, pop, popQ, rop_load1, ldV_ptr, ev, putA, putArgs, look_put, resAll, resA, mkRes1, ite_true, ite_false, Nat.reduceEqDiff, Nat.zero_add, Option.some.injEq, exists_eq_left', and_true, m.rd2]
theorem odd_spec {h : Heap} {b : Nat} {u : Option Nat} {C : List Int} {z c o r : Int} (m : MemAt h b u C z c o r) : FSpec P 40 [.pointer (some ⟨b, 0, none⟩)] h fun v h' => v = I o ∧ h' = h := by
  refine fspec_cwf hT H.f40 rfl ?_
  simp only [af40, cwf_seq, cwf_ops, cwf_ret, andThen_normal, fnQ_ret, owf_nil, o_p, o_r, bo_eq, optQ_some, pop, popQ, rop_load1, ldV_ptr, ev, putA, putArgs, look_put, resAll, resA, mkRes1, ite_true, ite_false, Nat.reduceEqDiff, Nat.zero_add, Option.some.injEq, exists_eq_left', and_true, m.rd3]
theorem refused_spec {h : Heap} {b : Nat} {u : Option Nat} {C : List Int} {z c o r : Int} (m : MemAt h b u C z c o r) : FSpec P 37 [.pointer (some ⟨b, 0, none⟩)] h fun v h' => v = I r ∧ h' = h := by
  refine fspec_cwf hT H.f37 rfl ?_
  simp only [af37, cwf_seq, cwf_ops, cwf_ret, andThen_normal, fnQ_ret, owf_nil, o_p, o_r, bo_eq, optQ_some, pop, popQ, rop_load1, ldV_ptr, ev, putA, putArgs, look_put, resAll, resA, mkRes1, ite_true, ite_false, Nat.reduceEqDiff, Nat.zero_add, Option.some.injEq, exists_eq_left', and_true, m.rd4]

theorem new_spec (h : Heap) (z : Int) (h1 : 1 ≤ z) (h2 : z ≤ 65536) : FSpec P 14 [I z] h fun v h' => v = .tuple #[.pointer (some ⟨h.next, 0, none⟩), I 0] ∧ MemAt h' h.next none [] z 0 0 0 ∧ Same h h' (fun _ => False) := by
  refine fspec_cwf hT H.f14 rfl ?_
  have c1 : (z < 1) = False := by simp; omega
  have c2 : (z > 65536) = False := by simp; omega
  simp only [af14, cwf_seq, cwf_ops, cwf_ret, c_false, cwf_skip, andThen_normal, fnQ_ret, owf_nil, o_p, o_e, o_on, behind_eq, bo_eq, optQ_some, opt2_some, pop, popQ, ev, putA, putArgs, look_put, isB_false, abinF_eq, abin, resAll, resA, mkRes2, eop_box, boxV5, evP_nil, evP_cons, fillA_nil, fillA_one, List.length_cons, List.length_nil, List.set_cons_zero, List.set_cons_succ, Nat.reduceLT, scalar_int, decide_true, decide_false, cond_true, cond_false, ite_true, ite_false, Bool.not_false, Nat.reduceEqDiff, Nat.reduceAdd, Nat.zero_add, Option.some.injEq, exists_eq_left', true_and, c1, c2]
  exact ⟨⟨by rw [new_get]; exact if_pos rfl, fun x hx => (by cases hx), fun _ => rfl, Nat.lt_succ_self _⟩, Same.new⟩

theorem cut_spec (h : Heap) (n k : Int) (k0 : 0 < k) (k1 : k < 1000000) : FSpec P 24 [I n, I k] h fun v h' => v = I (n % k) ∧ h' = h := by
  refine fspec_cwf hT H.f24 rfl ?_
  have ck : (k = 0) = False := by simp; omega
  have em := Int.emod_nonneg n (show k ≠ 0 by omega)
  have el := Int.emod_lt_of_pos n k0
  have hk := tmod_cases n k k0
  by_cases hm : n.tmod k < 0
  · have e : n.tmod k + k = n % k := by omega
    have w : wrapF .i64 (n % k) = n % k := wrapI (by omega) (by omega)
    simp only [af24, cwf_seq, cwf_ops, cwf_ret, c_true, andThen_normal, fnQ_ret, owf_nil, o_p, bo_eq, optQ_some, pop, popQ, ev, putA, putArgs, look_put, isB_true, abinF_eq, abin, resAll, resA, mkRes1, decide_true, decide_false, cond_true, cond_false, ite_true, ite_false, Nat.reduceEqDiff, Nat.zero_add, Option.some.injEq, exists_eq_left', and_true, ck, hm, e, w]
  · have e : n.tmod k = n % k := by omega
    simp only [af24, cwf_seq, cwf_ops, cwf_ret, c_false, cwf_skip, andThen_normal, fnQ_ret, owf_nil, o_p, bo_eq, optQ_some, pop, popQ, ev, putA, putArgs, look_put, isB_false, abinF_eq, abin, resAll, resA, mkRes1, decide_true, decide_false, cond_true, cond_false, ite_true, ite_false, Bool.not_false, Nat.reduceEqDiff, Nat.zero_add, Option.some.injEq, exists_eq_left', and_true, ck, hm]
    rw [e]

theorem right_spec {h : Heap} {v : Value} {l : List Pr} {u : Option Nat} (a : PrAt h v l u) (hl : l.length < 1000000) : FSpec P 30 [v] h fun v h' => (v = .bool true ∧ Asc l ∧ l.length ≤ 16384 ∨ v = .bool false ∧ ¬ (Asc l ∧ l.length ≤ 16384)) ∧ h' = h := by
  refine fspec_cwf hT H.f30 rfl ?_
  rcases a with ⟨rfl, base, cap, rfl⟩ | ⟨x, p, cap, rfl, rfl, hpos, hr⟩
  · simp only [af30, cwf_seq, cwf_ops, cwf_block, cwf_loop, andThen_normal, owf_nil, o_p, bo_eq, optQ_some, pop, popQ, ev, putA, putArgs, List.length_nil]
    refine cw_lw (lw_step ?_)
    simp only [cwf_seq, cwf_ops, cwf_ret, c_false, cwf_exit, andThen_normal, andThen_exit, blockQ_exit, lwQ_exit, fnQ_ret, owf_nil, o_p, bo_eq, optQ_some, pop, popQ, ev, putA, look_put, isB_false, abinF_eq, abin, resAll, resA, mkRes1, Int.reduceLT, Int.reduceLE, Int.cast_ofNat_Int, decide_true, decide_false, cond_true, cond_false, ite_true, ite_false, Bool.not_false, Nat.reduceEqDiff, Option.some.injEq, exists_eq_left', true_and, and_true]
    exact .inl ⟨fun j hj => by simp at hj, by simp⟩
  · simp only [af30, cwf_seq, cwf_ops, cwf_block, cwf_loop, andThen_normal, owf_nil, o_p, bo_eq, optQ_some, pop, popQ, ev, putA, putArgs]
    refine cw_loop (fun k ts h' => ∃ i : Nat, k = l.length - i ∧ 1 ≤ i ∧ i ≤ l.length ∧ h' = h ∧ look ts 0 = .slice (some ⟨x, p, none⟩) l.length cap ∧ look ts 3 = I i ∧ ∀ j (hj : j + 1 < l.length), j + 1 < i → l[j].1 < l[j + 1].1) ?_ (n := l.length - 1) ⟨1, rfl, Nat.le_refl _, hpos, rfl, by simp only [look_put, ite_true, ite_false, Nat.reduceEqDiff], by simp only [look_put, Int.cast_ofNat_Int, ite_true, ite_false, Nat.reduceEqDiff] <;> rfl, fun j hj h1 => by omega⟩
    rintro k ts h' ⟨i, rfl, i1, i2, rfl, t0, t3, hasc⟩
    refine cwf_cw ?_
    by_cases hi : i < l.length
    · have ci : ((i : Int) < l.length) = True := by simp [hi]
      have w1 : wrapF .i64 ((i : Int) - 1) = ((i - 1 : Nat) : Int) := by rw [wrapI] <;> omega
      have wi : wrapF .i64 ((i : Int) + 1) = ((i + 1 : Nat) : Int) := by rw [wrapI] <;> omega
      have c2 : (((i - 1 : Nat) : Int) < l.length) = True := by simp; omega
      have r1 : h'.rd x (p + i * 2) = some (I l[i].1) := by rw [hr.rd (by omega)]; exact flat_key l i hi
      have r2 : h'.rd x (p + (i - 1) * 2) = some (I l[i - 1].1) := by rw [hr.rd (by omega)]; exact flat_key l (i - 1) (by omega)
      simp only [cwf_seq, cwf_ops, c_true, cwf_skip, cwf_block, cwf_draw, andThen_normal, owf_nil, o_p, bo_eq, bd_eq, optQ_some, d_p, d_r, pop, popQ, rop_load1, ldV_ptr, ev, putA, look_put, isB_true, abinF_eq, abin, Int.toNat_natCast, Int.natCast_nonneg, Nat.add_zero, inB_eq, decide_true, cond_true, cond_false, ite_true, ite_false, Bool.and_true, Nat.reduceEqDiff, t0, t3, ci]
      refine ⟨cf00, cf00_ok, ?_⟩
      by_cases hc : l[i].1 ≤ l[i - 1].1
      · simp only [cwf_seq, cwf_ops, cwf_ret, c_true, andThen_normal, andThen_ret, blockQ_ret, roundQ_ret, fnQ_ret, owf_nil, o_p, bo_eq, bd_eq, optQ_some, dwf_nil, d_p, d_r, pop, popQ, rop_load1, ldV_ptr, ev, putA, look_put, isB_true, abinF_eq, abin, resAll, resA, mkRes1, Int.toNat_natCast, Int.natCast_nonneg, Nat.add_zero, inB_eq, decide_true, cond_true, ite_true, ite_false, Bool.and_true, Nat.reduceEqDiff, Option.some.injEq, exists_eq_left', true_and, and_true, t0, t3, w1, c2, r1, r2, hc]
        refine .inr (fun ha => ?_)
        have := ha.1 (i - 1) (by omega)
        have e : i - 1 + 1 = i := by omega
        simp only [e] at this
        omega
      · simp only [cwf_ops, c_false, cwf_skip, andThen_normal, blockQ_normal, roundQ_normal, owf_nil, o_p, bo_eq, bd_eq, optQ_some, dwf_nil, d_p, d_r, pop, popQ, rop_load1, ldV_ptr, ev, putA, look_put, isB_false, abinF_eq, abin, Int.toNat_natCast, Int.natCast_nonneg, Nat.add_zero, inB_eq, decide_true, decide_false, cond_true, ite_true, ite_false, Bool.and_true, Bool.not_false, Nat.reduceEqDiff, true_and, t0, t3, w1, c2, r1, r2, hc, wi]
        refine ⟨l.length - (i + 1), by omega, i + 1, rfl, by omega, by omega, rfl, fun j hj hji => ?_⟩
        by_cases hj2 : j + 1 < i
        · exact hasc j hj hj2
        · have e : j = i - 1 := by omega
          subst e
          have e : i - 1 + 1 = i := by omega
          simp only [e]
          omega
    · have ci : ((i : Int) < l.length) = False := by simp; omega
      have ha : Asc l := fun j hj => hasc j hj (by omega)
      by_cases hb : (l.length : Int) ≤ 16384
      · simp only [cwf_seq, cwf_ops, cwf_ret, c_false, cwf_exit, andThen_normal, andThen_exit, blockQ_exit, roundQ_exit, fnQ_ret, owf_nil, o_p, bo_eq, optQ_some, pop, popQ, ev, putA, look_put, isB_false, abinF_eq, abin, resAll, resA, mkRes1, decide_true, decide_false, cond_true, cond_false, ite_true, ite_false, Bool.not_false, Nat.reduceEqDiff, Option.some.injEq, exists_eq_left', true_and, and_true, t0, t3, ci, hb]
        exact .inl ⟨ha, by omega⟩
      · simp only [cwf_seq, cwf_ops, cwf_ret, c_false, cwf_exit, andThen_normal, andThen_exit, blockQ_exit, roundQ_exit, fnQ_ret, owf_nil, o_p, bo_eq, optQ_some, pop, popQ, ev, putA, look_put, isB_false, abinF_eq, abin, resAll, resA, mkRes1, decide_true, decide_false, cond_true, cond_false, ite_true, ite_false, Bool.not_false, Nat.reduceEqDiff, Option.some.injEq, exists_eq_left', true_and, and_true, t0, t3, ci, hb]
        exact .inr (fun hx => by omega)
end
end
end Go.Proofs.Ytedldiimhbebdaa.Ai
