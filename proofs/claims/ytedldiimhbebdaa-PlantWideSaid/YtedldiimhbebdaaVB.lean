/- What is kept of a survey; a record's cells are taken. -/
import Derived.Test.YtedldiimhbebdaaVA
import Derived.Test.YtedldiimhbebdaaTabOk
namespace Go.Proofs.Ytedldiimhbebdaa.Ai
open Go.Proofs.Ytedldiimhbebdaa
noncomputable section
open Go.RowKit
structure HasV2 (tab : Nat → Option AFunc) : Prop where
  v110 : tab 110 = some af110

theorem hasV2 : HasV2 tabT.get := ⟨by kernel_rfl⟩

/-- a survey of a memory: what was gone through, the slots, is something under way -/
structure Vw (h : Heap) (bt bm ut : Nat) (us um : Option Nat) (C : List Int) (z c o r : Int) (T : List Bool) (Sp : List Pr) (bs : Bool) : Prop where
  mem : MemAt h bm um C z c o r
  blk : h.blks.get bt = some ⟨[.pointer (some ⟨bm, 0, none⟩), .slice (some ⟨ut, 0, none⟩) T.length T.length, ownSl us Sp.length, .slice none 0 0, .bool bs], 5, 5, true, false⟩
  tk : h.blks.get ut = some ⟨T.map .bool, T.length * 1, 1, true, false⟩
  sp : OwnAt h us 2 Sp.length (flat Sp)
  lt : bt < h.next ∧ ut < h.next
  ne : bt ≠ bm ∧ ut ≠ bm ∧ ut ≠ bt ∧ (∀ y, um = some y → y ≠ bt ∧ y ≠ ut) ∧ ∀ y, us = some y → y ≠ bt ∧ y ≠ ut ∧ y ≠ bm ∧ um ≠ some y

abbrev VwS (bt ut : Nat) (us : Option Nat) (j : Nat) : Prop := j = bt ∨ j = ut ∨ us = some j

theorem Vw.same {h h' : Heap} {bt bm ut : Nat} {us um : Option Nat} {C : List Int} {z c o r : Int} {T : List Bool} {Sp : List Pr} {bs : Bool} (w : Vw h bt bm ut us um C z c o r T Sp bs) (m : Same h h' (fun _ => False)) : Vw h' bt bm ut us um C z c o r T Sp bs :=
  ⟨w.mem.same m (fun x => x) (fun _ _ x => x), by rw [m.get bt w.lt.1 (fun x => x)]; exact w.blk, by rw [m.get ut w.lt.2 (fun x => x)]; exact w.tk, w.sp.same m (fun _ _ x => x), ⟨Nat.lt_of_lt_of_le w.lt.1 m.next, Nat.lt_of_lt_of_le w.lt.2 m.next⟩, w.ne⟩

theorem setR_zero (T : List Bool) (a : Nat) : setR T a 0 = T := by
  apply List.ext_getElem?
  intro i
  by_cases h : i < T.length
  · rw [setR_get h, if_neg (by omega), List.getElem?_eq_getElem h]; rfl
  · rw [List.getElem?_eq_none (by rw [setR_len]; omega), List.getElem?_eq_none (by omega)]

theorem setR_set (T : List Bool) (a i : Nat) (h : a + i < T.length) : (setR T a i).set (a + i) true = setR T a (i + 1) := by
  apply List.ext_getElem?
  intro j
  rw [List.getElem?_set, setR_len]
  by_cases hj : j < T.length
  · rw [setR_get hj, setR_get hj]
    by_cases e : a + i = j
    · rw [if_pos e, if_pos (by omega), if_pos (by omega)]
    · rw [if_neg e]
      by_cases q : a ≤ j ∧ j < a + i
      · rw [if_pos q, if_pos (by omega)]
      · rw [if_neg q, if_neg (by omega)]
  · rw [if_neg (by omega), List.getElem?_eq_none (by rw [setR_len]; omega), List.getElem?_eq_none (by rw [setR_len]; omega)]

section
variable {P : Program} {tab : Nat → Option AFunc} (hT : TabOk P tab) (V : HasV tab)
include hT V

theorem nobool_spec {h : Heap} {x p n cap : Nat} {T : List Bool} (r : RdAt h x p 1 n cap (T.map .bool)) (hT2 : ∀ b ∈ T, b = false) (hn : n < 1000000) : FSpec P 126 [.slice (some ⟨x, p, none⟩) n cap, .bool true] h fun v h' => v = .bool false ∧ h' = h := by
  have hl : T.length = n := by have := r.len; simpa using this
  have F135 : FSpec P 135 [.slice (some ⟨x, p, none⟩) n cap, .bool true] h fun v h' => v = I (-1) ∧ h' = h := by
    refine fspec_cwf hT V.v135 rfl ?_
    simp only [af135, cwf_seq, cwf_ops, cwf_block, cwf_loop, andThen_normal, owf_nil, o_p, bo_eq, optQ_some, pop, popQ, ev, putA, putArgs, look_put, Int.reduceNeg, cond_false, ite_true, ite_false, Nat.reduceEqDiff, Nat.zero_add]
    refine cw_loop (fun k ts h' => ∃ i : Nat, k = n - i ∧ i ≤ n ∧ h' = h ∧ look ts 0 = .slice (some ⟨x, p, none⟩) n cap ∧ look ts 1 = .bool true ∧ look ts 7 = I n ∧ look ts 8 = I i) ?_ (n := n) ⟨0, rfl, Nat.zero_le _, rfl, by simp only [look_put, ite_true, ite_false, Nat.reduceEqDiff], by simp only [look_put, ite_true, ite_false, Nat.reduceEqDiff], by simp only [look_put, ite_true, ite_false, Nat.reduceEqDiff], by simp only [look_put, Int.cast_ofNat_Int, ite_true, ite_false, Nat.reduceEqDiff] <;> rfl⟩
    rintro k ts h' ⟨i, rfl, i2, rfl, t0, t1, t7, t8⟩
    refine cwf_cw ?_
    by_cases hi : i < n
    · have ci : ((i : Int) < n) = True := by simp [hi]
      have wi : wrapF .i64 ((i : Int) + 1) = ((i + 1 : Nat) : Int) := by rw [wrapI] <;> omega
      have hb := hT2 (T[i]'(by omega)) (List.getElem_mem _)
      have rk : h'.rd x (p + i) = some (.bool false) := by
        rw [r.rd (i := i) (by omega), List.getElem?_map, List.getElem?_eq_getElem (show i < T.length by omega), Option.map_some, hb]
      have ct : ((true : Bool) == false) = false := rfl
      simp only [cwf_seq, cwf_ops, c_true, c_false, cwf_skip, cwf_block, andThen_normal, blockQ_normal, roundQ_normal, owf_nil, o_p, o_r, bo_eq, optQ_some, pop, popQ, rop_load1, ldV_ptr, ev, putA, look_put, isB_true, isB_false, abinF_eq, abin, Int.toNat_natCast, Int.natCast_nonneg, Nat.mul_one, Int.reduceNeg, inB_eq, decide_true, cond_true, ite_true, ite_false, Bool.and_true, Bool.not_false, Nat.reduceEqDiff, true_and, t0, t1, t7, t8, ci, rk, ct, wi]
      exact ⟨n - (i + 1), by omega, i + 1, rfl, by omega, rfl⟩
    · have ci : ((i : Int) < n) = False := by simp; omega
      simp only [cwf_seq, cwf_ops, cwf_ret, c_false, cwf_exit, andThen_normal, andThen_exit, blockQ_exit, roundQ_exit, fnQ_ret, owf_nil, o_p, bo_eq, optQ_some, pop, popQ, ev, putA, look_put, isB_false, abinF_eq, abin, resAll, resA, mkRes1, Int.reduceNeg, decide_true, decide_false, cond_true, ite_true, ite_false, Bool.not_false, Nat.reduceEqDiff, Option.some.injEq, exists_eq_left', and_true, t7, t8, ci]
  obtain ⟨_, h1, F1, rfl, rfl⟩ := F135
  refine fspec_cwf hT V.v126 rfl ?_
  have c1 : ((-1 : Int) ≥ 0) = False := by simp
  simp only [af126, cwf_seq, cwf_ops, andThen_normal, owf_nil, o_p, owf_call, bo_eq, optQ_some, pop, popQ, ev, evs, putA, putArgs, look_put, ite_true, ite_false, Nat.reduceEqDiff, Nat.zero_add]
  refine ⟨_, _, F1, ?_⟩
  simp only [cwf_ret, andThen_normal, fnQ_ret, owf_nil, o_p, behind_eq, bo_eq, optQ_some, pop, popQ, ev, putA, look_put, abinF_eq, abin, resAll, resA, mkRes1, Int.reduceNeg, decide_true, decide_false, cond_true, ite_true, ite_false, Nat.reduceEqDiff, Option.some.injEq, exists_eq_left', and_true, c1]

theorem take_spec (V2 : HasV2 tab) {h : Heap} {bt bm ut : Nat} {us um : Option Nat} {C : List Int} {z c o r : Int} {T : List Bool} {Sp : List Pr} {bs : Bool} (w : Vw h bt bm ut us um C z c o r T Sp bs) {a n : Nat} (a1 : 1 ≤ a) (n1 : 1 ≤ n) (hn : a + n ≤ T.length) (hl : T.length < 1000000) (hf : freeR T a n) :
    FSpec P 110 [.pointer (some ⟨bt, 0, none⟩), I a, I n] h fun v h' => v = .bool true ∧ Vw h' bt bm ut us um C z c o r (setR T a n) Sp bs ∧ Same h h' (fun j => j = ut) := by
  refine fspec_cwf hT V2.v110 rfl ?_
  have c1 : ((a : Int) < 1) = False := by simp; omega
  have wn : wrapF .i64 ((a : Int) + n) = ((a + n : Nat) : Int) := by rw [wrapI] <;> omega
  have c2 : (((a + n : Nat) : Int) > T.length) = False := by simp; omega
  have r1 : h.rd bt 1 = some (.slice (some ⟨ut, 0, none⟩) T.length T.length) := rd_of w.blk
  have rt : RdAt h ut 0 1 T.length T.length (T.map .bool) := ⟨⟨_, w.tk, rfl, by rw [List.drop_zero, Nat.mul_one, List.take_of_length_le (by simp)], by simp⟩, Nat.le_refl _, w.lt.2⟩
  have sl := rt.cut (lo := a) (hi := a + n) (by omega) hn (by omega)
  have rs := rt.sub (lo := a) (hi := a + n) (by omega) hn
  have e1 : a + n - a = n := by omega
  rw [e1] at sl rs
  simp only [Nat.zero_add, Nat.mul_one] at sl rs
  have e2 : (List.drop a (T.map Value.bool)).take n = ((T.drop a).take n).map Value.bool := by rw [List.map_take, List.map_drop]
  rw [e2] at rs
  obtain ⟨_, h1, F1, rfl, rfl⟩ := nobool_spec hT V rs (fun b hb => by
    obtain ⟨i, hi⟩ := List.getElem?_of_mem hb
    rw [List.getElem?_take] at hi
    split at hi
    · rename_i hin
      rw [List.getElem?_drop, hf (a + i) (by omega) (by omega)] at hi
      exact (Option.some.inj hi).symm
    · cases hi) (by omega)
  simp only [af110, cwf_seq, cwf_ops, andThen_normal, owf_nil, o_p, o_r, owf_call, o_on, bo_eq, optQ_some, pop, popQ, rop_load1, ldV_ptr, rop_slice, ev, evO, evs, putA, putArgs, look_put, isB_false, abinF_eq, abin, decide_true, decide_false, cond_true, cond_false, ite_true, ite_false, Bool.not_false, Nat.reduceEqDiff, Nat.reduceAdd, Nat.zero_add, c1, r1, wn, c2, sl]
  refine ⟨_, _, F1, ?_⟩
  simp only [cwf_seq, cwf_ops, c_false, cwf_skip, cwf_block, cwf_loop, andThen_normal, owf_nil, o_p, behind_eq, bo_eq, optQ_some, pop, popQ, ev, putA, look_put, isB_false, cond_false, ite_true, ite_false, Bool.not_false, Nat.reduceEqDiff]
  refine cw_loop (fun k ts h' => ∃ i : Nat, k = n - i ∧ i ≤ n ∧ look ts 0 = .pointer (some ⟨bt, 0, none⟩) ∧ look ts 1 = I a ∧ look ts 33 = I n ∧ look ts 34 = I i ∧ Vw h' bt bm ut us um C z c o r (setR T a i) Sp bs ∧ Same h1 h' (fun j => j = ut)) ?_ (n := n) ⟨0, rfl, Nat.zero_le _, by simp only [look_put, ite_true, ite_false, Nat.reduceEqDiff], by simp only [look_put, ite_true, ite_false, Nat.reduceEqDiff], by simp only [look_put, ite_true, ite_false, Nat.reduceEqDiff], by simp only [look_put, Int.cast_ofNat_Int, ite_true, ite_false, Nat.reduceEqDiff] <;> rfl, by rw [setR_zero]; exact w, Same.refl _ _⟩
  rintro k ts h' ⟨i, rfl, i2, t0, t1, t33, t34, wi', sm⟩
  refine cwf_cw ?_
  by_cases hi : i < n
  · have ci : ((i : Int) < n) = True := by simp [hi]
    have wi : wrapF .i64 ((i : Int) + 1) = ((i + 1 : Nat) : Int) := by rw [wrapI] <;> omega
    have wa : wrapF .i64 ((a : Int) + i) = ((a + i : Nat) : Int) := by rw [wrapI] <;> omega
    have r1' : h'.rd bt 1 = some (.slice (some ⟨ut, 0, none⟩) T.length T.length) := by
      rw [rd_of wi'.blk]; simp [setR_len]
    have ca : (((a + i : Nat) : Int) < T.length) = True := by simp; omega
    have hw : h'.wrs ut (a + i) [.bool true] = some (h'.setB ut ⟨(setR T a (i + 1)).map .bool, (setR T a (i + 1)).length * 1, 1, true, false⟩) := by
      rw [wrs1_of wi'.tk rfl (by simp [setR_len]; omega) rfl, ← setR_set T a i (by omega)]
      simp [List.map_set]
    have sw : Same h' (h'.setB ut ⟨(setR T a (i + 1)).map .bool, (setR T a (i + 1)).length * 1, 1, true, false⟩) (fun j => j = ut) := Same.setB rfl
    have gu : (h'.setB ut ⟨(setR T a (i + 1)).map .bool, (setR T a (i + 1)).length * 1, 1, true, false⟩).blks.get ut = some ⟨(setR T a (i + 1)).map .bool, (setR T a (i + 1)).length * 1, 1, true, false⟩ := by rw [setB_get, if_pos rfl]
    generalize h'.setB ut ⟨(setR T a (i + 1)).map .bool, (setR T a (i + 1)).length * 1, 1, true, false⟩ = k at hw sw gu
    simp only [cwf_seq, cwf_ops, c_true, cwf_skip, cwf_block, andThen_normal, blockQ_normal, roundQ_normal, owf_nil, o_p, o_r, o_e, behind_eq, bo_eq, optQ_some, opt2_some, pop, popQ, rop_load1, ldV_ptr, ev, putA, look_put, isB_true, abinF_eq, abin, eop_store1, st1, Int.toNat_natCast, Int.natCast_nonneg, Nat.mul_one, scalar_bool, inB_eq, decide_true, cond_true, ite_true, ite_false, Bool.and_true, Nat.reduceEqDiff, Nat.zero_add, true_and, t0, t1, t33, t34, ci, wa, r1', ca, hw, wi]
    refine ⟨n - (i + 1), by omega, i + 1, rfl, by omega, rfl, ⟨wi'.mem.same sw (fun e => wi'.ne.2.1 e.symm) (fun y hy e => (wi'.ne.2.2.2.1 y hy).2 e), ?_, gu, wi'.sp.same sw (fun y hy e => (wi'.ne.2.2.2.2 y hy).2.1 e), ⟨Nat.lt_of_lt_of_le wi'.lt.1 sw.next, Nat.lt_of_lt_of_le wi'.lt.2 sw.next⟩, wi'.ne⟩, sm.trans sw (fun _ _ x => x)⟩
    rw [sw.get bt wi'.lt.1 (fun e => wi'.ne.2.2.1 e.symm), wi'.blk]
    simp [setR_len]
  · have hin : i = n := by omega
    have ci : ((i : Int) < n) = False := by simp; omega
    simp only [cwf_seq, cwf_ops, cwf_ret, c_false, cwf_exit, andThen_normal, andThen_exit, blockQ_exit, roundQ_exit, fnQ_ret, owf_nil, o_p, bo_eq, optQ_some, pop, popQ, ev, putA, look_put, isB_false, abinF_eq, abin, resAll, resA, mkRes1, decide_true, decide_false, cond_true, ite_true, ite_false, Bool.not_false, Nat.reduceEqDiff, Option.some.injEq, exists_eq_left', true_and, t33, t34, ci]
    rw [tail_marks h1 h' sm.marks]
    rw [hin] at wi'
    exact ⟨wi', sm⟩
end
end
end Go.Proofs.Ytedldiimhbebdaa.Ai
