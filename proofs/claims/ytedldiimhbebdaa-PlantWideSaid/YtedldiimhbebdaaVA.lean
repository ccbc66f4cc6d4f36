/- What words, addresses and cells come to. -/
import Derived.Test.YtedldiimhbebdaaView0
import Derived.Test.YtedldiimhbebdaaTabOk
import Derived.Test.YtedldiimhbebdaaTh2
namespace Go.Proofs.Ytedldiimhbebdaa.Ai
open Go.Proofs.Ytedldiimhbebdaa
noncomputable section
open Go.RowKit
structure HasV (tab : Nat → Option AFunc) : Prop where
  v58 : tab 58 = some af58
  v76 : tab 76 = some af76
  v91 : tab 91 = some af91
  v108 : tab 108 = some af108
  v118 : tab 118 = some af118
  v121 : tab 121 = some af121
  v130 : tab 130 = some af130
  v131 : tab 131 = some af131
  v137 : tab 137 = some af137
  v138 : tab 138 = some af138
  v141 : tab 141 = some af141
  v142 : tab 142 = some af142
  v69 : tab 69 = some af69
  v128 : tab 128 = some af128
  v112 : tab 112 = some af112
  v135 : tab 135 = some af135
  v126 : tab 126 = some af126

theorem hasV : HasV tabT.get := ⟨by kernel_rfl, by kernel_rfl, by kernel_rfl, by kernel_rfl, by kernel_rfl, by kernel_rfl, by kernel_rfl, by kernel_rfl, by kernel_rfl, by kernel_rfl, by kernel_rfl, by kernel_rfl, by kernel_rfl, by kernel_rfl, by kernel_rfl, by kernel_rfl, by kernel_rfl⟩

theorem and7 (a k : Nat) (h1 : a ≤ 65536) (h2 : k < 8) : IntKind.i64.wrap ((BitVec.ofInt 64 ((a : Int) * 8 + k) &&& BitVec.ofInt 64 7).toNat : Int) = k := by
  have e1 : ((a : Int) * 8 + k) = ((a * 8 + k : Nat) : Int) := by simp
  have e7 : (BitVec.ofInt 64 7) = BitVec.ofNat 64 7 := by decide
  rw [e1, e7]
  simp only [BitVec.ofInt_natCast, BitVec.toNat_and, BitVec.toNat_ofNat]
  rw [Nat.mod_eq_of_lt (show a * 8 + k < 2 ^ 64 by omega), Nat.mod_eq_of_lt (show 7 < 2 ^ 64 by decide)]
  have := Nat.and_two_pow_sub_one_eq_mod (a * 8 + k) 3
  simp only [Nat.reducePow, Nat.reduceSub] at this
  rw [this, IntWalk.i64_in _ (by omega)]
  omega

section
variable {P : Program} {tab : Nat → Option AFunc} (hT : TabOk P tab) (V : HasV tab)
include hT V

theorem parts_spec (H : Has tab) (h : Heap) (a k : Nat) (a1 : 1 ≤ a) (a2 : a ≤ 65536) (k1 : 1 ≤ k) (k2 : k ≤ 5) : FSpec P 121 [I ((a : Int) * 8 + k)] h fun v h' => v = .tuple #[I k, I a, .bool true] ∧ h' = h := by
  refine fspec_cwf hT V.v121 rfl ?_
  have c1 : ((a : Int) * 8 + k < 0) = False := by simp; omega
  have c2 : ((a : Int) * 8 + k > 524296) = False := by simp; omega
  have e1 := and7 a k a2 (by omega)
  have e2 : Int.fdiv ((a : Int) * 8 + k) 8 = a := by
    rw [Int.fdiv_eq_ediv_of_nonneg _ (by omega)]; omega
  obtain ⟨_, h1, F, rfl, rfl⟩ := may_spec hT H (k : Int) (a : Int) h (by omega) (by omega) (by omega) (by omega)
  simp only [af121, cwf_seq, cwf_ops, c_false, cwf_skip, andThen_normal, owf_nil, o_p, owf_call, o_on, bo_eq, optQ_some, pop, popQ, ev, evs, putA, putArgs, look_put, isB_false, abinF_eq, abin, Int.reduceLT, Int.reduceToNat, IntKind.bits, min364, Int.reducePow, decide_true, decide_false, cond_true, cond_false, ite_true, ite_false, Bool.not_false, Nat.reduceEqDiff, c1, c2, e2]
  erw [e1]
  refine ⟨_, _, F, ?_⟩
  simp only [cwf_seq, cwf_ops, cwf_ret, c_false, cwf_skip, andThen_normal, fnQ_ret, owf_nil, o_p, behind_eq, bo_eq, optQ_some, pop, popQ, ev, putA, look_put, isB_false, resAll, resA, mkRes2, ite_true, ite_false, Bool.not_true, Bool.not_false, Nat.reduceEqDiff, Option.some.injEq, exists_eq_left', and_true]

theorem kind_spec (H : Has tab) (h : Heap) (a k : Nat) (a1 : 1 ≤ a) (a2 : a ≤ 65536) (k1 : 1 ≤ k) (k2 : k ≤ 5) : FSpec P 108 [I ((a : Int) * 8 + k)] h fun v h' => v = I k ∧ h' = h := by
  refine fspec_cwf hT V.v108 rfl ?_
  obtain ⟨_, h1, F, rfl, rfl⟩ := parts_spec hT V H h a k a1 a2 k1 k2
  simp only [af108, cwf_seq, cwf_ops, andThen_normal, owf_nil, o_p, owf_call, bo_eq, optQ_some, pop, popQ, ev, evs, putA, putArgs, look_put, ite_true, ite_false, Nat.reduceEqDiff]
  refine ⟨_, _, F, ?_⟩
  simp only [cwf_seq, cwf_ops, cwf_ret, andThen_normal, fnQ_ret, owf_nil, o_p, behind_eq, bo_eq, optQ_some, pop, popQ, ev, putA, look_put, resAll, resA, mkRes1, ite_true, ite_false, Nat.reduceEqDiff, Option.some.injEq, exists_eq_left', and_true, List.getElem?_cons_zero, List.getElem?_cons_succ]

theorem refat_spec (H : Has tab) (h : Heap) (a k : Nat) (a1 : 1 ≤ a) (a2 : a ≤ 65536) (k1 : 1 ≤ k) (k2 : k ≤ 5) : FSpec P 91 [I ((a : Int) * 8 + k)] h fun v h' => v = I a ∧ h' = h := by
  refine fspec_cwf hT V.v91 rfl ?_
  obtain ⟨_, h1, F, rfl, rfl⟩ := parts_spec hT V H h a k a1 a2 k1 k2
  simp only [af91, cwf_seq, cwf_ops, andThen_normal, owf_nil, o_p, owf_call, bo_eq, optQ_some, pop, popQ, ev, evs, putA, putArgs, look_put, ite_true, ite_false, Nat.reduceEqDiff]
  refine ⟨_, _, F, ?_⟩
  simp only [cwf_seq, cwf_ops, cwf_ret, andThen_normal, fnQ_ret, owf_nil, o_p, behind_eq, bo_eq, optQ_some, pop, popQ, ev, putA, look_put, resAll, resA, mkRes1, ite_true, ite_false, Nat.reduceEqDiff, Option.some.injEq, exists_eq_left', and_true, List.getElem?_cons_zero, List.getElem?_cons_succ]

theorem at_spec {h : Heap} {b : Nat} {u : Option Nat} {C : List Int} {z c o r : Int} (m : MemAt h b u C z c o r) (a : Nat) (ha : a < 1000000) : FSpec P 58 [.pointer (some ⟨b, 0, none⟩), I a] h fun v h' => v = I (at0 C a) ∧ h' = h := by
  refine fspec_cwf hT V.v58 rfl ?_
  unfold at0
  by_cases h0 : a = 0
  · have c1 : ((a : Int) < 1) = True := by simp; omega
    rw [if_pos h0]
    simp only [af58, cwf_seq, cwf_ops, cwf_ret, c_true, andThen_normal, andThen_ret, fnQ_ret, owf_nil, o_p, o_off, bo_eq, optQ_some, pop, popQ, ev, putA, putArgs, look_put, isB_true, isB_false, abinF_eq, abin, resAll, resA, mkRes1, decide_true, cond_true, ite_true, ite_false, Bool.not_true, Nat.reduceEqDiff, Nat.zero_add, Option.some.injEq, exists_eq_left', and_true, c1]
  · have c1 : ((a : Int) < 1) = False := by simp; omega
    rw [if_neg h0]
    by_cases h1 : a ≤ C.length
    · have c2 : ((a : Int) > C.length) = False := by simp; omega
      have w : wrapF .i64 ((a : Int) - 1) = ((a - 1 : Nat) : Int) := by rw [wrapI] <;> omega
      cases u with
      | none => have := m.non rfl; rw [this] at h1; simp at h1; omega
      | some x =>
        have c3 : (((a - 1 : Nat) : Int) < C.length) = True := by simp; omega
        have r1 : h.rd x (a - 1) = some (I ((C[a - 1]?).getD 0)) := by
          rw [rd_of (m.use x rfl).1]
          show (C.map I)[a - 1]? = _
          rw [List.getElem?_map, List.getElem?_eq_getElem (by omega)]; rfl
        have r0 : h.rd b 0 = some (.slice (some ⟨x, 0, none⟩) C.length C.length) := m.rd0
        simp only [af58, cwf_seq, cwf_ops, cwf_ret, c_false, cwf_skip, andThen_normal, fnQ_ret, owf_nil, o_p, o_r, o_on, bo_eq, optQ_some, pop, popQ, rop_load1, ldV_ptr, ev, putA, putArgs, look_put, isB_false, abinF_eq, abin, resAll, resA, mkRes1, Int.toNat_natCast, Int.natCast_nonneg, Nat.mul_one, Nat.add_zero, inB_eq, decide_true, decide_false, cond_true, cond_false, ite_true, ite_false, Bool.and_true, Bool.not_false, Nat.reduceEqDiff, Nat.zero_add, Option.some.injEq, exists_eq_left', and_true, c1, r0, c2, w, c3, r1]
    · have c2 : ((a : Int) > C.length) = True := by simp; omega
      rw [List.getElem?_eq_none (by omega)]
      simp only [af58, cwf_seq, cwf_ops, cwf_ret, c_true, andThen_normal, andThen_ret, fnQ_ret, owf_nil, o_p, o_r, o_on, bo_eq, optQ_some, pop, popQ, rop_load1, ldV_ptr, ev, putA, putArgs, look_put, isB_true, isB_false, abinF_eq, abin, resAll, resA, mkRes1, Nat.add_zero, decide_true, decide_false, cond_true, cond_false, ite_true, ite_false, Bool.not_false, Nat.reduceEqDiff, Nat.zero_add, Option.some.injEq, exists_eq_left', and_true, c1, m.rd0, c2]
      rfl

theorem near1_spec (h : Heap) (n : Int) (n0 : 0 ≤ n) (n1 : n ≤ 1099511627776) : FSpec P 138 [I n] h fun v h' => v = .bool false ∧ h' = h := by
  refine fspec_cwf hT V.v138 rfl ?_
  have c1 : (n < 0) = False := by simp; omega
  have c2 : (n > 1099511627776) = False := by simp; omega
  simp only [af138, cwf_seq, cwf_ops, cwf_ret, andThen_normal, fnQ_ret, owf_nil, o_p, o_on, bo_eq, optQ_some, pop, popQ, ev, putA, putArgs, look_put, isB_false, abinF_eq, abin, resAll, resA, mkRes1, decide_true, decide_false, cond_true, cond_false, ite_true, ite_false, Bool.not_false, Nat.reduceEqDiff, Option.some.injEq, exists_eq_left', and_true, c1, c2]

theorem near_spec {h : Heap} {x n : Nat} {L : List Int} (r : RdAt h x 0 1 n n (L.map I)) (hn : n < 1000) (hL : ∀ a ∈ L, 0 ≤ a ∧ a ≤ 1099511627776) : FSpec P 131 [.slice (some ⟨x, 0, none⟩) n n] h fun v h' => v = .bool true ∧ h' = h := by
  have hl : L.length = n := by have := r.len; simpa using this
  have F142 : FSpec P 142 [.slice (some ⟨x, 0, none⟩) n n, .func (.func 138) #[] #[]] h fun v h' => v = I (-1) ∧ h' = h := by
    refine fspec_cwf hT V.v142 rfl ?_
    simp only [af142, cwf_seq, cwf_ops, cwf_block, cwf_loop, andThen_normal, owf_nil, o_p, bo_eq, optQ_some, pop, popQ, ev, putA, putArgs, look_put, Int.reduceNeg, cond_false, ite_true, ite_false, Nat.reduceEqDiff, Nat.zero_add]
    refine cw_loop (fun k ts h' => ∃ i : Nat, k = n - i ∧ i ≤ n ∧ h' = h ∧ look ts 0 = .slice (some ⟨x, 0, none⟩) n n ∧ look ts 1 = .func (.func 138) #[] #[] ∧ look ts 7 = I n ∧ look ts 8 = I i) ?_ (n := n) ⟨0, rfl, Nat.zero_le _, rfl, by simp only [look_put, ite_true, ite_false, Nat.reduceEqDiff], by simp only [look_put, ite_true, ite_false, Nat.reduceEqDiff], by simp only [look_put, ite_true, ite_false, Nat.reduceEqDiff], by simp only [look_put, Int.cast_ofNat_Int, ite_true, ite_false, Nat.reduceEqDiff] <;> rfl⟩
    rintro k ts h' ⟨i, rfl, i2, rfl, t0, t1, t7, t8⟩
    refine cwf_cw ?_
    by_cases hi : i < n
    · have ci : ((i : Int) < n) = True := by simp [hi]
      have wi : wrapF .i64 ((i : Int) + 1) = ((i + 1 : Nat) : Int) := by rw [wrapI] <;> omega
      have rk : h'.rd x i = some (I (L[i]'(by omega))) := by
        have := r.rd (i := i) (by omega)
        rw [Nat.zero_add] at this
        rw [this]; simp
      have hq := hL (L[i]'(by omega)) (List.getElem_mem _)
      obtain ⟨_, h1, F, rfl, rfl⟩ := near1_spec hT V h' (L[i]'(by omega)) hq.1 hq.2
      simp only [cwf_seq, cwf_ops, c_true, cwf_skip, cwf_block, andThen_normal, owf_nil, o_p, o_r, bo_eq, optQ_some, pop, popQ, rop_load1, ldV_ptr, ev, evs, putA, look_put, isB_true, abinF_eq, abin, Int.toNat_natCast, Int.natCast_nonneg, Nat.mul_one, Int.reduceNeg, inB_eq, decide_true, cond_true, ite_true, ite_false, Bool.and_true, Nat.reduceEqDiff, Nat.zero_add, o_callv, callV_f, List.nil_append, List.append_nil, t0, t1, t7, t8, ci, rk]
      refine ⟨_, _, F, ?_⟩
      simp only [cwf_ops, c_false, cwf_skip, andThen_normal, blockQ_normal, roundQ_normal, owf_nil, o_p, behind_eq, bo_eq, optQ_some, pop, popQ, ev, putA, look_put, isB_false, abinF_eq, abin, Int.reduceNeg, decide_true, cond_true, ite_true, ite_false, Bool.not_false, Nat.reduceEqDiff, true_and, t0, t1, t7, t8, wi]
      exact ⟨n - (i + 1), by omega, i + 1, rfl, by omega, rfl⟩
    · have ci : ((i : Int) < n) = False := by simp; omega
      simp only [cwf_seq, cwf_ops, cwf_ret, c_false, cwf_exit, andThen_normal, andThen_exit, blockQ_exit, roundQ_exit, fnQ_ret, owf_nil, o_p, bo_eq, optQ_some, pop, popQ, ev, putA, look_put, isB_false, abinF_eq, abin, resAll, resA, mkRes1, Int.reduceNeg, decide_true, decide_false, cond_true, ite_true, ite_false, Bool.not_false, Nat.reduceEqDiff, Option.some.injEq, exists_eq_left', and_true, t7, t8, ci]
  obtain ⟨_, h1, F1, rfl, rfl⟩ := F142
  have F137 : FSpec P 137 [.slice (some ⟨x, 0, none⟩) n n, .func (.func 138) #[] #[]] h1 fun v h' => v = .bool false ∧ h' = h1 := by
    refine fspec_cwf hT V.v137 rfl ?_
    have c1 : ((-1 : Int) ≥ 0) = False := by simp
    simp only [af137, cwf_seq, cwf_ops, andThen_normal, owf_nil, o_p, owf_call, bo_eq, optQ_some, pop, popQ, ev, evs, putA, putArgs, look_put, ite_true, ite_false, Nat.reduceEqDiff, Nat.zero_add]
    refine ⟨_, _, F1, ?_⟩
    simp only [cwf_ret, andThen_normal, fnQ_ret, owf_nil, o_p, behind_eq, bo_eq, optQ_some, pop, popQ, ev, putA, look_put, abinF_eq, abin, resAll, resA, mkRes1, Int.reduceNeg, decide_true, decide_false, cond_true, ite_true, ite_false, Nat.reduceEqDiff, Option.some.injEq, exists_eq_left', and_true, c1]
  obtain ⟨_, h1, F2, rfl, rfl⟩ := F137
  refine fspec_cwf hT V.v131 rfl ?_
  simp only [af131, cwf_seq, cwf_ops, andThen_normal, owf_nil, o_p, owf_call, bo_eq, optQ_some, pop, popQ, ev, evs, putA, putArgs, look_put, ite_true, ite_false, Nat.reduceEqDiff]
  refine ⟨_, _, F2, ?_⟩
  simp only [cwf_ret, andThen_normal, fnQ_ret, owf_nil, o_p, behind_eq, bo_eq, optQ_some, pop, popQ, ev, putA, look_put, resAll, resA, mkRes1, ite_true, ite_false, Bool.not_false, Nat.reduceEqDiff, Option.some.injEq, exists_eq_left', and_true]

theorem keyat_spec (h : Heap) (a i : Nat) (ha : a < 1000000) (hi : i < 1000000) : FSpec P 130 [I a, I i] h fun v h' => v = I ((a + 4 + i : Nat) : Int) ∧ Same h h' (fun _ => False) := by
  refine fspec_cwf hT V.v130 rfl ?_
  have r := RdAt.fresh h [I (a : Int), I (i : Int)] 2 1 true false rfl
  have s : Same h (h.new ⟨[I (a : Int), I (i : Int)], 2, 1, true, false⟩) (fun _ => False) := Same.new
  generalize hh : h.new ⟨[I (a : Int), I (i : Int)], 2, 1, true, false⟩ = k at s
  have r' : RdAt k h.next 0 1 2 2 ([(a : Int), (i : Int)].map I) := hh ▸ r
  obtain ⟨_, k, F, rfl, rfl⟩ := near_spec hT V r' (by omega) (by intro b hb; simp at hb; rcases hb with rfl | rfl <;> omega)
  have w1 : wrapF .i64 ((a : Int) + 4) = ((a + 4 : Nat) : Int) := by rw [wrapI] <;> omega
  have w2 : wrapF .i64 (((a + 4 : Nat) : Int) + i) = ((a + 4 + i : Nat) : Int) := by rw [wrapI] <;> omega
  simp only [af130, cwf_seq, cwf_ops, andThen_normal, owf_nil, o_p, o_e, owf_call, behind_eq, bo_eq, optQ_some, opt2_some, pop, popQ, ev, evs, putA, putArgs, look_put, eop_buildS, bldS_some, evP_nil, evP_cons, fillA_nil, fillA_one, List.length_cons, List.length_nil, List.set_cons_zero, List.set_cons_succ, Nat.reduceLT, Nat.lt_add_one, Nat.mul_one, scalar_int, ite_true, ite_false, Nat.reduceEqDiff, Nat.reduceAdd, Nat.zero_add, hh]
  refine ⟨_, _, F, ?_⟩
  simp only [cwf_seq, cwf_ops, cwf_ret, c_false, cwf_skip, andThen_normal, fnQ_ret, owf_nil, o_p, behind_eq, bo_eq, optQ_some, pop, popQ, ev, putA, look_put, isB_false, abinF_eq, abin, resAll, resA, mkRes1, decide_true, cond_true, ite_true, ite_false, Bool.not_true, Bool.not_false, Nat.reduceEqDiff, Option.some.injEq, exists_eq_left', true_and, w1, w2]
  rw [tail_marks h k s.marks]
  exact s

theorem childat_spec (h : Heap) (a d i : Nat) (ha : a < 1000000) (hd : d < 1000000) (hi : i < 1000000) : FSpec P 118 [I a, I d, I i] h fun v h' => v = I ((a + 4 + d + i : Nat) : Int) ∧ Same h h' (fun _ => False) := by
  refine fspec_cwf hT V.v118 rfl ?_
  have r := RdAt.fresh h [I (a : Int), I (d : Int), I (i : Int)] 3 1 true false rfl
  have s : Same h (h.new ⟨[I (a : Int), I (d : Int), I (i : Int)], 3, 1, true, false⟩) (fun _ => False) := Same.new
  generalize hh : h.new ⟨[I (a : Int), I (d : Int), I (i : Int)], 3, 1, true, false⟩ = k at s
  have r' : RdAt k h.next 0 1 3 3 ([(a : Int), (d : Int), (i : Int)].map I) := hh ▸ r
  obtain ⟨_, k, F, rfl, rfl⟩ := near_spec hT V r' (by omega) (by intro b hb; simp at hb; rcases hb with rfl | rfl | rfl <;> omega)
  have w1 : wrapF .i64 ((a : Int) + 4) = ((a + 4 : Nat) : Int) := by rw [wrapI] <;> omega
  have w2 : wrapF .i64 (((a + 4 : Nat) : Int) + d) = ((a + 4 + d : Nat) : Int) := by rw [wrapI] <;> omega
  have w3 : wrapF .i64 (((a + 4 + d : Nat) : Int) + i) = ((a + 4 + d + i : Nat) : Int) := by rw [wrapI] <;> omega
  simp only [af118, cwf_seq, cwf_ops, andThen_normal, owf_nil, o_p, o_e, owf_call, behind_eq, bo_eq, optQ_some, opt2_some, pop, popQ, ev, evs, putA, putArgs, look_put, eop_buildS, bldS_some, evP_nil, evP_cons, fillA_nil, fillA_one, List.length_cons, List.length_nil, List.set_cons_zero, List.set_cons_succ, Nat.reduceLT, Nat.lt_add_one, Nat.mul_one, scalar_int, ite_true, ite_false, Nat.reduceEqDiff, Nat.reduceAdd, Nat.zero_add, hh]
  refine ⟨_, _, F, ?_⟩
  simp only [cwf_seq, cwf_ops, cwf_ret, c_false, cwf_skip, andThen_normal, fnQ_ret, owf_nil, o_p, behind_eq, bo_eq, optQ_some, pop, popQ, ev, putA, look_put, isB_false, abinF_eq, abin, resAll, resA, mkRes1, decide_true, cond_true, ite_true, ite_false, Bool.not_true, Bool.not_false, Nat.reduceEqDiff, Option.some.injEq, exists_eq_left', true_and, w1, w2, w3]
  rw [tail_marks h k s.marks]
  exact s

theorem limit_spec (h : Heap) (n : Int) (h1 : -1000000000000 ≤ n) (h2 : n ≤ 1000000000000) : FSpec P 141 [I n] h fun v h' => v = I (limN n) ∧ h' = h := by
  have F69 : FSpec P 69 [I n] h fun v h' => v = .bool (decide (0 ≤ n ∧ n ≤ 16384)) ∧ h' = h := by
    refine fspec_cwf hT V.v69 rfl ?_
    by_cases c1 : n ≥ 0
    · by_cases c2 : n ≤ 16384
      · have e : (0 ≤ n ∧ n ≤ 16384) = True := by simp; omega
        simp only [af69, cwf_seq, cwf_ops, cwf_ret, andThen_normal, fnQ_ret, owf_nil, o_p, o_on, bo_eq, optQ_some, pop, popQ, ev, putA, putArgs, look_put, isB_true, abinF_eq, abin, resAll, resA, mkRes1, decide_true, cond_true, ite_true, ite_false, Nat.reduceEqDiff, Option.some.injEq, exists_eq_left', and_true, c1, c2]
      · have e : (0 ≤ n ∧ n ≤ 16384) = False := by simp; omega
        simp only [af69, cwf_seq, cwf_ops, cwf_ret, andThen_normal, fnQ_ret, owf_nil, o_p, o_on, bo_eq, optQ_some, pop, popQ, ev, putA, putArgs, look_put, isB_true, abinF_eq, abin, resAll, resA, mkRes1, decide_true, decide_false, cond_true, ite_true, ite_false, Nat.reduceEqDiff, Option.some.injEq, exists_eq_left', true_and, and_true, c1, c2]
    · have e : (0 ≤ n ∧ n ≤ 16384) = False := by simp; omega
      simp only [af69, cwf_seq, cwf_ops, cwf_ret, andThen_normal, fnQ_ret, owf_nil, o_p, o_off, bo_eq, optQ_some, pop, popQ, ev, putA, putArgs, look_put, isB_true, abinF_eq, abin, resAll, resA, mkRes1, decide_true, decide_false, cond_true, cond_false, ite_true, ite_false, Nat.reduceEqDiff, Option.some.injEq, exists_eq_left', and_true, c1] <;> simp
  obtain ⟨_, k, F, rfl, rfl⟩ := F69
  refine fspec_cwf hT V.v141 rfl ?_
  simp only [af141, cwf_seq, cwf_ops, andThen_normal, owf_nil, o_p, owf_call, bo_eq, optQ_some, pop, popQ, ev, evs, putA, putArgs, look_put, ite_true, ite_false, Nat.reduceEqDiff]
  refine ⟨_, _, F, ?_⟩
  unfold limN
  by_cases hc : 0 ≤ n ∧ n ≤ 16384
  · have e : (0 ≤ n ∧ n ≤ 16384) = True := by simp [hc]
    have q : n.tdiv 4 = n / 4 := Int.tdiv_eq_ediv_of_nonneg hc.1
    have c4 : ((4 : Int) = 0) = False := by simp
    have w1 : wrapF .i64 (n / 4) = n / 4 := wrapI (by omega) (by omega)
    have w2 : wrapF .i64 (n / 4 + 2) = n / 4 + 2 := wrapI (by omega) (by omega)
    rw [if_pos hc]
    simp only [cwf_seq, cwf_ops, cwf_ret, c_false, cwf_skip, andThen_normal, fnQ_ret, owf_nil, o_p, behind_eq, bo_eq, optQ_some, pop, popQ, ev, putA, look_put, isB_false, abinF_eq, abin, resAll, resA, mkRes1, decide_true, decide_false, cond_true, cond_false, ite_true, ite_false, Bool.not_true, Bool.not_false, Nat.reduceEqDiff, Option.some.injEq, exists_eq_left', and_true, e, q, c4, w1, w2]
  · have e : (0 ≤ n ∧ n ≤ 16384) = False := by simp; omega
    rw [if_neg hc]
    simp only [cwf_seq, cwf_ops, cwf_ret, c_true, andThen_normal, andThen_ret, fnQ_ret, owf_nil, o_p, behind_eq, bo_eq, optQ_some, pop, popQ, ev, putA, look_put, isB_true, resAll, resA, mkRes1, decide_false, ite_true, ite_false, Bool.not_false, Nat.reduceEqDiff, Option.some.injEq, exists_eq_left', and_true, e]

/-- what stands in a slot in which nothing is under way -/
theorem logic_spec (H : Has tab) {h : Heap} {b : Nat} {u : Option Nat} {C : List Int} {z c o r : Int} (m : MemAt h b u C z c o r) (s : Nat) (hs : s < 1000000) {a k : Nat} (a1 : 1 ≤ a) (a2 : a ≤ 65536) (k1 : 1 ≤ k) (k2 : k ≤ 4) (hw : at0 C s = (a : Int) * 8 + k) : FSpec P 76 [.pointer (some ⟨b, 0, none⟩), I s] h fun v h' => v = I ((a : Int) * 8 + k) ∧ h' = h := by
  refine fspec_cwf hT V.v76 rfl ?_
  obtain ⟨_, h1, F1, rfl, rfl⟩ := at_spec hT V m s hs
  obtain ⟨_, h1, F2, rfl, rfl⟩ := kind_spec hT V H h1 a k a1 a2 k1 (by omega)
  have c1 : ((k : Int) != 5) = true := by simp; omega
  rw [hw] at F1
  simp only [af76, cwf_seq, cwf_ops, andThen_normal, owf_nil, o_p, owf_call, bo_eq, optQ_some, pop, popQ, ev, evs, putA, putArgs, look_put, ite_true, ite_false, Nat.reduceEqDiff, Nat.zero_add]
  refine ⟨_, _, F1, ?_⟩
  simp only [cwf_seq, cwf_ops, andThen_normal, owf_nil, o_p, owf_call, behind_eq, bo_eq, optQ_some, pop, popQ, ev, evs, putA, look_put, ite_true, ite_false, Nat.reduceEqDiff]
  refine ⟨_, _, F2, ?_⟩
  simp only [cwf_seq, cwf_ops, cwf_ret, c_true, andThen_normal, andThen_ret, fnQ_ret, owf_nil, o_p, behind_eq, bo_eq, optQ_some, pop, popQ, ev, putA, look_put, isB_true, abinF_eq, abin, resAll, resA, mkRes1, decide_true, cond_true, ite_true, ite_false, Nat.reduceEqDiff, Option.some.injEq, exists_eq_left', and_true, c1]

end
end
end Go.Proofs.Ytedldiimhbebdaa.Ai
