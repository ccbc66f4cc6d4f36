/- Wide keys: the list of them. -/
import Derived.Test.YtedldiimhbebdaaVM1
import Derived.Test.YtedldiimhbebdaaTabOk
namespace Go.Proofs.Ytedldiimhbebdaa.Ai
open Go.Proofs.Ytedldiimhbebdaa
noncomputable section
set_option linter.unusedVariables false
open Go.RowKit
structure HasV12 (tab : Nat → Option AFunc) : Prop where
  v41 : tab 41 = some af41

theorem hasV12 : HasV12 tabT.get := ⟨by kernel_rfl⟩

section
variable {P : Program} {tab : Nat → Option AFunc} (hT : TabOk P tab)
include hT

theorem wide_spec (H : Has tab) (V12 : HasV12 tab) {h : Heap} {v : Value} {L : List Int} (a : IntsAt h v L) :
    FSpec P 41 [v] h fun v h' => (∃ (l : List Pr) (u : Option Nat), v = ownSl u l.length ∧ OwnAt h' u 1 l.length (l.map fun p => I p.1) ∧ Asc l ∧ l.length ≤ 80 ∧ (∀ y, u = some y → h.next ≤ y) ∧ ∀ p ∈ l, p.1 ∈ L) ∧ Same h h' (fun _ => False) := by
  refine fspec_cwf hT V12.v41 rfl ?_
  have hv : ∃ base cap, v = .slice base L.length cap := by
    rcases a with ⟨rfl, base, cap, rfl⟩ | ⟨x, p, cap, rfl, _⟩ <;> exact ⟨_, _, rfl⟩
  simp only [af41, cwf_seq, cwf_ops, cwf_block, cwf_loop, andThen_normal, owf_nil, o_p, bo_eq, optQ_some, pop, popQ, ev, putA, putArgs]
  refine cw_loop (fun m ts h' => ∃ (i : Nat) (l : List Pr) (u : Option Nat), m = 80 - i ∧ i ≤ 80 ∧ l.length ≤ i ∧ look ts 0 = v ∧ look ts 3 = ownSl u l.length ∧ look ts 4 = I i ∧ OwnAt h' u 2 l.length (flat l) ∧ Asc l ∧ (∀ y, u = some y → h.next ≤ y) ∧ (∀ p ∈ l, p.1 ∈ L) ∧ Same h h' (fun _ => False)) ?_ (n := 80) ⟨0, [], none, rfl, by omega, by simp, by simp only [look_put, ite_true, ite_false, Nat.reduceEqDiff], by simp only [look_put, List.length_nil, ite_true, ite_false, Nat.reduceEqDiff] <;> rfl, by simp only [look_put, Int.cast_ofNat_Int, ite_true, ite_false, Nat.reduceEqDiff] <;> rfl, OwnAt.nil _ _, fun j hj => by simp at hj, by simp, by simp, Same.refl _ _⟩
  rintro m ts h' ⟨i, l, u, rfl, i80, hli, t0, t3, t4, o, hasc, hu, hkeys, hs⟩
  obtain ⟨base, cap, hv⟩ := hv
  refine cwf_cw ?_
  by_cases c : i < L.length ∧ i < 80
  · obtain ⟨c1, c2⟩ := c
    rcases a with ⟨rfl, _⟩ | ⟨x, p, cap', rfl, hr⟩
    · simp at c1
    cases hv
    have ci : ((i : Int) < L.length) = True := by simp [c1]
    have ci2 : ((i : Int) < 80) = True := by simp; omega
    have rk : h'.rd x (p + i) = some (I L[i]) := by
      rw [(hr.same hs (fun x => x)).rd (by omega)]; simp [c1]
    have wi : wrapF .i64 ((i : Int) + 1) = ((i + 1 : Nat) : Int) := by rw [wrapI] <;> omega
    obtain ⟨v2, h2, F2, ⟨l', y, rfl, o', hasc', hl', hy, hky⟩, s2⟩ := put2_spec hT H o hasc (by omega) L[i] 0
    have n1 := hs.next
    simp only [cwf_seq, cwf_ops, c_true, cwf_skip, cwf_block, andThen_normal, owf_nil, o_p, o_r, owf_call, o_on, bo_eq, optQ_some, pop, popQ, rop_load1, ldV_ptr, ev, evs, putA, look_put, isB_true, abinF_eq, abin, Int.toNat_natCast, Int.natCast_nonneg, Nat.mul_one, inB_eq, decide_true, cond_true, cond_false, ite_true, ite_false, Bool.and_true, Nat.reduceEqDiff, t0, t3, t4, ci, ci2, rk]
    refine ⟨_, _, F2, ?_⟩
    simp only [cwf_ops, andThen_normal, blockQ_normal, roundQ_normal, owf_nil, o_p, behind_eq, bo_eq, optQ_some, pop, popQ, ev, putA, look_put, abinF_eq, abin, decide_true, cond_true, ite_true, ite_false, Nat.reduceEqDiff, true_and, t0, t3, t4, wi]
    refine ⟨80 - (i + 1), by omega, i + 1, l', some y, rfl, by omega, by omega, rfl, rfl, o', hasc', (fun z hz => by cases hz; omega), (fun p hp => (hky p hp).elim (hkeys p) (fun e => by rw [e]; exact List.getElem_mem _)), hs.trans s2 (fun _ _ x => x)⟩
  · subst hv
    by_cases c1 : i < L.length
    · have ci : ((i : Int) < L.length) = True := by simp [c1]
      have ci2 : ((i : Int) < 80) = False := by simp; omega
      simp only [cwf_seq, cwf_ops, c_false, cwf_block, cwf_exit, cwf_loop, andThen_normal, andThen_exit, blockQ_exit, roundQ_exit, owf_nil, o_p, o_on, bo_eq, optQ_some, pop, popQ, ev, putA, look_put, isB_true, isB_false, abinF_eq, abin, decide_true, decide_false, cond_true, cond_false, ite_true, ite_false, Bool.not_false, Nat.reduceEqDiff, t0, t4, ci, ci2]
      refine cw_loop (fun m ts h2 => ∃ (j : Nat) (w : Option Nat), m = l.length - j ∧ j ≤ l.length ∧ look ts 3 = ownSl u l.length ∧ look ts 5 = ownSl w j ∧ look ts 6 = I j ∧ OwnAt h2 w 1 j ((l.take j).map fun p => I p.1) ∧ (∀ y, w = some y → h'.next ≤ y) ∧ Same h' h2 (fun _ => False)) ?_ (n := l.length) ⟨0, none, rfl, Nat.zero_le _, by simp only [look_put, ite_false, Nat.reduceEqDiff, t3], by simp only [look_put, ite_true, ite_false, Nat.reduceEqDiff] <;> rfl, by simp only [look_put, Int.cast_ofNat_Int, ite_true, ite_false, Nat.reduceEqDiff] <;> rfl, by simpa using OwnAt.nil h' 1, by simp, Same.refl _ _⟩
      rintro m ts h2 ⟨j, w, rfl, j2, t3, t5, t6, o2, hw, s2⟩
      have x2 := s2.next
      have x1 := hs.next
      refine cwf_cw ?_
      by_cases hj : j < l.length
      · obtain ⟨y, rfl⟩ : ∃ y, u = some y := by
          cases u with
          | none => have := o.non rfl; omega
          | some y => exact ⟨y, rfl⟩
        have cj : ((j : Int) < l.length) = True := by simp [hj]
        have wj : wrapF .i64 ((j : Int) + 1) = ((j + 1 : Nat) : Int) := by rw [wrapI] <;> omega
        have rk : h2.rd y (j * 2) = some (I l[j].1) := by
          have := (o.rd.same s2 (fun x => x)).rd (i := j * 2) (by omega)
          rw [Nat.zero_add] at this
          rw [this]; exact flat_key l j hj
        have hcell : RdAt (h2.new ⟨[I l[j].1], 1, 1, true, false⟩) h2.next 0 1 1 1 [I l[j].1] := RdAt.fresh h2 [I l[j].1] 1 1 true false rfl
        have s3 : Same h2 (h2.new ⟨[I l[j].1], 1, 1, true, false⟩) (fun _ => False) := Same.new
        have x3 : (h2.new ⟨[I l[j].1], 1, 1, true, false⟩).next = h2.next + 1 := rfl
        generalize hh3 : h2.new ⟨[I l[j].1], 1, 1, true, false⟩ = h3 at hcell s3 x3
        obtain ⟨w', h4, a4, o4, s4, n4⟩ := app_own (bytes := 8) (o2.same s3 (fun _ _ x => x)) hcell.src rfl rfl (by omega) (by omega) (by omega)
        have t3' : look ts 3 = .slice (some ⟨y, 0, none⟩) l.length l.length := t3
        simp only [cwf_seq, cwf_ops, c_true, cwf_skip, cwf_block, andThen_normal, blockQ_normal, roundQ_normal, owf_nil, o_p, o_r, o_e, behind_eq, bo_eq, optQ_some, opt2_some, pop, popQ, rop_load1, ldV_ptr, ev, putA, look_put, isB_true, abinF_eq, abin, eop_app, eop_buildS, bldS_some, evP_nil, evP_cons, fillA_nil, fillA_one, List.length_cons, List.length_nil, List.set_cons_zero, Nat.lt_add_one, Int.toNat_natCast, Int.natCast_nonneg, Nat.mul_one, Nat.add_zero, scalar_int, inB_eq, decide_true, cond_true, cond_false, ite_true, ite_false, Bool.and_true, Nat.reduceEqDiff, Nat.zero_add, t3', t5, t6, cj, rk, hh3, a4, wj]
        refine ⟨l.length - (j + 1), by omega, j + 1, w', rfl, by omega, rfl, rfl, rfl, ?_, fun z hz => ?_, (s2.trans s3 (fun _ _ x => x)).trans s4 (fun k hk e => by have := hw k e; omega)⟩
        · have e : l.take (j + 1) = l.take j ++ [l[j]] := by rw [List.take_add_one]; simp [hj]
          rw [e, List.map_append]
          exact o4
        · rcases n4 z hz with e | e
          · exact hw z e
          · omega
      · have cj : ((j : Int) < l.length) = False := by simp; omega
        have hwl : ∃ base cap, look ts 3 = .slice base l.length cap := ⟨_, _, t3⟩
        obtain ⟨b3, c3, t3''⟩ := hwl
        have ej : j = l.length := by omega
        subst ej
        rw [List.take_length] at o2
        simp only [cwf_seq, cwf_ops, cwf_ret, c_false, cwf_exit, andThen_normal, andThen_exit, blockQ_exit, roundQ_exit, fnQ_ret, owf_nil, o_p, bo_eq, optQ_some, pop, popQ, ev, putA, look_put, isB_false, abinF_eq, abin, resAll, resA, mkRes1, decide_true, decide_false, cond_true, cond_false, ite_true, ite_false, Bool.not_false, Nat.reduceEqDiff, Option.some.injEq, exists_eq_left', t3'', t5, t6, cj]
        have sf := hs.trans s2 (fun _ _ x => x)
        rw [tail_marks h h2 sf.marks]
        exact ⟨⟨l, w, rfl, o2, hasc, by omega, fun y hy => by have := hw y hy; omega, hkeys⟩, sf⟩
    · have ci : ((i : Int) < L.length) = False := by simp; omega
      simp only [cwf_seq, cwf_ops, c_false, cwf_block, cwf_exit, cwf_loop, andThen_normal, andThen_exit, blockQ_exit, roundQ_exit, owf_nil, o_p, o_off, bo_eq, optQ_some, pop, popQ, ev, putA, look_put, isB_true, isB_false, abinF_eq, abin, decide_true, decide_false, cond_true, cond_false, ite_true, ite_false, Bool.not_false, Nat.reduceEqDiff, t0, t4, ci]
      refine cw_loop (fun m ts h2 => ∃ (j : Nat) (w : Option Nat), m = l.length - j ∧ j ≤ l.length ∧ look ts 3 = ownSl u l.length ∧ look ts 5 = ownSl w j ∧ look ts 6 = I j ∧ OwnAt h2 w 1 j ((l.take j).map fun p => I p.1) ∧ (∀ y, w = some y → h'.next ≤ y) ∧ Same h' h2 (fun _ => False)) ?_ (n := l.length) ⟨0, none, rfl, Nat.zero_le _, by simp only [look_put, ite_false, Nat.reduceEqDiff, t3], by simp only [look_put, ite_true, ite_false, Nat.reduceEqDiff] <;> rfl, by simp only [look_put, Int.cast_ofNat_Int, ite_true, ite_false, Nat.reduceEqDiff] <;> rfl, by simpa using OwnAt.nil h' 1, by simp, Same.refl _ _⟩
      rintro m ts h2 ⟨j, w, rfl, j2, t3, t5, t6, o2, hw, s2⟩
      have x2 := s2.next
      have x1 := hs.next
      refine cwf_cw ?_
      by_cases hj : j < l.length
      · obtain ⟨y, rfl⟩ : ∃ y, u = some y := by
          cases u with
          | none => have := o.non rfl; omega
          | some y => exact ⟨y, rfl⟩
        have cj : ((j : Int) < l.length) = True := by simp [hj]
        have wj : wrapF .i64 ((j : Int) + 1) = ((j + 1 : Nat) : Int) := by rw [wrapI] <;> omega
        have rk : h2.rd y (j * 2) = some (I l[j].1) := by
          have := (o.rd.same s2 (fun x => x)).rd (i := j * 2) (by omega)
          rw [Nat.zero_add] at this
          rw [this]; exact flat_key l j hj
        have hcell : RdAt (h2.new ⟨[I l[j].1], 1, 1, true, false⟩) h2.next 0 1 1 1 [I l[j].1] := RdAt.fresh h2 [I l[j].1] 1 1 true false rfl
        have s3 : Same h2 (h2.new ⟨[I l[j].1], 1, 1, true, false⟩) (fun _ => False) := Same.new
        have x3 : (h2.new ⟨[I l[j].1], 1, 1, true, false⟩).next = h2.next + 1 := rfl
        generalize hh3 : h2.new ⟨[I l[j].1], 1, 1, true, false⟩ = h3 at hcell s3 x3
        obtain ⟨w', h4, a4, o4, s4, n4⟩ := app_own (bytes := 8) (o2.same s3 (fun _ _ x => x)) hcell.src rfl rfl (by omega) (by omega) (by omega)
        have t3' : look ts 3 = .slice (some ⟨y, 0, none⟩) l.length l.length := t3
        simp only [cwf_seq, cwf_ops, c_true, cwf_skip, cwf_block, andThen_normal, blockQ_normal, roundQ_normal, owf_nil, o_p, o_r, o_e, behind_eq, bo_eq, optQ_some, opt2_some, pop, popQ, rop_load1, ldV_ptr, ev, putA, look_put, isB_true, abinF_eq, abin, eop_app, eop_buildS, bldS_some, evP_nil, evP_cons, fillA_nil, fillA_one, List.length_cons, List.length_nil, List.set_cons_zero, Nat.lt_add_one, Int.toNat_natCast, Int.natCast_nonneg, Nat.mul_one, Nat.add_zero, scalar_int, inB_eq, decide_true, cond_true, cond_false, ite_true, ite_false, Bool.and_true, Nat.reduceEqDiff, Nat.zero_add, t3', t5, t6, cj, rk, hh3, a4, wj]
        refine ⟨l.length - (j + 1), by omega, j + 1, w', rfl, by omega, rfl, rfl, rfl, ?_, fun z hz => ?_, (s2.trans s3 (fun _ _ x => x)).trans s4 (fun k hk e => by have := hw k e; omega)⟩
        · have e : l.take (j + 1) = l.take j ++ [l[j]] := by rw [List.take_add_one]; simp [hj]
          rw [e, List.map_append]
          exact o4
        · rcases n4 z hz with e | e
          · exact hw z e
          · omega
      · have cj : ((j : Int) < l.length) = False := by simp; omega
        have hwl : ∃ base cap, look ts 3 = .slice base l.length cap := ⟨_, _, t3⟩
        obtain ⟨b3, c3, t3''⟩ := hwl
        have ej : j = l.length := by omega
        subst ej
        rw [List.take_length] at o2
        simp only [cwf_seq, cwf_ops, cwf_ret, c_false, cwf_exit, andThen_normal, andThen_exit, blockQ_exit, roundQ_exit, fnQ_ret, owf_nil, o_p, bo_eq, optQ_some, pop, popQ, ev, putA, look_put, isB_false, abinF_eq, abin, resAll, resA, mkRes1, decide_true, decide_false, cond_true, cond_false, ite_true, ite_false, Bool.not_false, Nat.reduceEqDiff, Option.some.injEq, exists_eq_left', t3'', t5, t6, cj]
        have sf := hs.trans s2 (fun _ _ x => x)
        rw [tail_marks h h2 sf.marks]
        exact ⟨⟨l, w, rfl, o2, hasc, by omega, fun y hy => by have := hw y hy; omega, hkeys⟩, sf⟩
end
end
end Go.Proofs.Ytedldiimhbebdaa.Ai
