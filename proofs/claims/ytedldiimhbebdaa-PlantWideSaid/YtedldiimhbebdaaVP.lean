/- Pairs, with what their keys are. -/
import Derived.Test.YtedldiimhbebdaaPX
namespace Go.Proofs.Ytedldiimhbebdaa.Ai
open Go.Proofs.Ytedldiimhbebdaa
noncomputable section
open Go.RowKit
section
variable {P : Program} {tab : Nat → Option AFunc} (hT : TabOk P tab) (H : Has tab)
include hT H

theorem put2_spec {h : Heap} {u : Option Nat} {l : List Pr} (o : OwnAt h u 2 l.length (flat l)) (ha : Asc l) (hl : l.length < 10000) (k x : Int) :
    FSpec P 67 [ownSl u l.length, I k, I x] h fun v h' => (∃ l' y, v = ownSl (some y) l'.length ∧ OwnAt h' (some y) 2 l'.length (flat l') ∧ Asc l' ∧ l'.length ≤ l.length + 1 ∧ h.next ≤ y ∧ ∀ p ∈ l', p ∈ l ∨ p = (k, x)) ∧ Same h h' (fun _ => False) := by
  refine fspec_cwf hT H.f67 rfl ?_
  have pa : PrAt h (ownSl u l.length) l u := by
    cases u with
    | none => have := o.non rfl; exact .inl ⟨List.eq_nil_of_length_eq_zero this, none, 0, by rw [this]; rfl⟩
    | some y => exact .inr ⟨y, 0, l.length, rfl, rfl, (o.use y rfl).2.2, o.rd⟩
  obtain ⟨v0, h0, F0, ⟨n, rfl, hn, hlt, hge⟩, rfl⟩ := place_spec hT H pa (by omega) k
  simp only [af67, cwf_seq, cwf_ops, andThen_normal, owf_nil, o_p, owf_call, bo_eq, optQ_some, pop, popQ, ev, evs, putA, putArgs, look_put, ite_true, ite_false, Nat.reduceEqDiff, Nat.reduceAdd, Nat.zero_add]
  refine ⟨_, _, F0, ?_⟩
  simp only [cwf_seq, cwf_ops, andThen_normal, owf_nil, o_p, o_r, o_e, behind_eq, bo_eq, optQ_some, opt2_some, pop, popQ, rop_slice, ev, evO, putA, look_put, eop_buildS, bldS_some, evP_nil, fillA_nil, Nat.zero_mul, ite_true, ite_false, Nat.reduceEqDiff]
  generalize hh1 : h0.new ⟨[], 0, 2, true, false⟩ = h1
  have s1 : Same h0 h1 (fun _ => False) := hh1 ▸ Same.new
  have e1 : h1.blks.get h0.next = some ⟨[], 0, 2, true, false⟩ := hh1 ▸ (by rw [new_get]; exact if_pos rfl)
  have l1 : h1.next = h0.next + 1 := hh1 ▸ rfl
  have o1 := o.same s1 (fun _ _ x => x)
  obtain ⟨v1, a1, b1⟩ := o1.to hn
  obtain ⟨v2, h2, z2, a2, m2, s2, z2e, _⟩ := app_empty (bytes := 16) e1 (by omega) b1 (by simp [flat_len]; omega) (List.all_eq_true.2 fun y hy => List.all_eq_true.1 (flat_scalar l) y (List.mem_of_mem_take hy)) (by omega) (by omega) (by omega)
  have hcell : RdAt (h2.new ⟨[I k, I x], 2, 2, true, false⟩) h2.next 0 2 1 1 [I k, I x] := RdAt.fresh h2 [I k, I x] 1 2 true false rfl
  generalize hh3 : h2.new ⟨[I k, I x], 2, 2, true, false⟩ = h3 at hcell
  have s3 : Same h2 h3 (fun _ => False) := hh3 ▸ Same.new
  obtain ⟨z4, h4, a4, o4, s4, z4e⟩ := app_mid (bytes := 16) (m2.same s3 (fun x => x)) hcell.src rfl rfl (by omega) (by omega) (by omega) (by omega)
  have n2 := s2.next
  have n3 := s3.next
  have n4 := s4.next
  have zf : h0.next ≤ z2 := by omega
  have zf4 : h0.next ≤ z4 := by omega
  have sa : Same h0 h3 (fun _ => False) := (s1.trans s2 (fun _ _ x => x)).trans s3 (fun _ _ x => x)
  have sb : Same h0 h4 (fun _ => False) := sa.trans s4 (fun j hj e => by omega)
  have ob := o.same sb (fun _ _ x => x)
  have fin : ∀ n', n ≤ n' → n' ≤ l.length → (∀ j (hj : j < l.length), n' ≤ j → k < l[j].1) → ∃ v5, slV h4 2 (ownSl u l.length) (some (I n')) none = some v5 ∧ ∃ u6 h6, appV h4 2 16 (ownSl (some z4) (n + 1)) v5 = some (ownSl u6 (n + 1 + (l.length - n')), h6) ∧
      (∃ l' y, ownSl u6 (n + 1 + (l.length - n')) = ownSl (some y) l'.length ∧ OwnAt h6 (some y) 2 l'.length (flat l') ∧ Asc l' ∧ l'.length ≤ l.length + 1 ∧ h0.next ≤ y ∧ ∀ p ∈ l', p ∈ l ∨ p = (k, x)) ∧ Same h0 h6 (fun _ => False) := by
    intro n' hn1 hn2 hgt
    obtain ⟨v5, a5, b5⟩ := ob.from hn2
    obtain ⟨u6, h6, a6, o6, s6, u6e⟩ := app_own (bytes := 16) o4 b5 (by simp [flat_len]; omega) (List.all_eq_true.2 fun y hy => List.all_eq_true.1 (flat_scalar l) y (List.mem_of_mem_drop hy)) (by omega) (by omega) (by omega)
    refine ⟨v5, a5, u6, h6, a6, ?_, sb.trans s6 (fun j hj e => by cases e; omega)⟩
    cases hu : u6 with
    | none => have := o6.non hu; omega
    | some y =>
      rw [hu] at o6
      have e : (l.take n ++ [(k, x)] ++ l.drop n').length = n + 1 + (l.length - n') := by simp; omega
      have ef : flat (l.take n ++ [(k, x)] ++ l.drop n') = (flat l).take (n * 2) ++ [I k, I x] ++ (flat l).drop (n' * 2) := by rw [flat_app, flat_app, flat_take, flat_drop]; rfl
      refine ⟨l.take n ++ [(k, x)] ++ l.drop n', y, by rw [e], by rw [e, ef]; exact o6, put_asc ha hlt hn hgt, by rw [e]; omega, ?_, ?_⟩
      · rcases u6e y hu with e2 | e2
        · cases e2; omega
        · omega
      · intro p hp
        simp only [List.mem_append, List.mem_singleton] at hp
        rcases hp with (hp | hp) | hp
        · exact .inl (List.mem_of_mem_take hp)
        · exact .inr hp
        · exact .inl (List.mem_of_mem_drop hp)
  have wn : wrapF .i64 ((n : Int) + 1) = ((n + 1 : Nat) : Int) := by rw [wrapI] <;> omega
  simp only [cwf_seq, cwf_ops, andThen_normal, owf_nil, o_p, o_e, behind_eq, bo_eq, optQ_some, opt2_some, pop, popQ, ev, putA, look_put, abinF_eq, abin, eop_app, eop_buildS, bldS_some, evP_nil, evP_cons, fillA_nil, fillA_one, fillA_pair, List.length_cons, List.length_nil, List.set_cons_zero, List.set_cons_succ, Nat.reduceLT, Nat.lt_add_one, scalar_int, decide_true, cond_true, cond_false, ite_true, ite_false, Nat.reduceEqDiff, Nat.reduceAdd, Nat.zero_add, Nat.reduceMul, a1, a2, hh3, a4]
  by_cases c1 : n < l.length
  · have ci : ((n : Int) < l.length) = True := by simp [c1]
    obtain ⟨y, rfl⟩ : ∃ y, u = some y := by
      cases u with
      | none => have := o.non rfl; omega
      | some y => exact ⟨y, rfl⟩
    have rk : h4.rd y (n * 2) = some (I l[n].1) := by
      have := ob.rd.rd (i := n * 2) (by omega)
      rw [Nat.zero_add] at this
      rw [this]; exact flat_key l n c1
    by_cases c2 : l[n].1 = k
    · have c3 : (l[n].1 == k) = true := by rw [c2]; simp
      obtain ⟨v5, a5, u6, h6, a6, hp, s6⟩ := fin (n + 1) (by omega) (by omega) (fun j hj hj2 => by rw [← c2]; exact asc_lt ha n j (by omega) hj)
      simp only [ownSl, Option.map_some] at a5 a6
      simp only [cwf_seq, cwf_ops, cwf_ret, c_true, andThen_normal, fnQ_ret, owf_nil, o_p, o_r, o_e, o_on, behind_eq, bo_eq, optQ_some, opt2_some, pop, popQ, rop_load1, ldV_ptr, rop_slice, ev, evO, putA, look_put, isB_true, abinF_eq, abin, resAll, resA, mkRes1, eop_app, Int.toNat_natCast, Int.natCast_nonneg, Nat.add_zero, inB_eq, decide_true, cond_true, ite_true, ite_false, Bool.and_true, Nat.reduceEqDiff, Nat.zero_add, Option.some.injEq, exists_eq_left', ownSl, Option.map_some, ci, rk, c3, wn, a5, a6]
      rw [tail_marks h0 h6 s6.marks]
      exact ⟨hp, s6⟩
    · have c3 : (l[n].1 == k) = false := by simp [c2]
      have hgt : ∀ j (hj : j < l.length), n ≤ j → k < l[j].1 := fun j hj hj2 => by
        have h1 := hge c1
        by_cases e : j = n
        · subst e; omega
        · have := asc_lt ha n j (by omega) hj; omega
      obtain ⟨v5, a5, u6, h6, a6, hp, s6⟩ := fin n (Nat.le_refl _) hn hgt
      simp only [ownSl, Option.map_some] at a5 a6
      simp only [cwf_seq, cwf_ops, cwf_ret, c_false, cwf_skip, andThen_normal, fnQ_ret, owf_nil, o_p, o_r, o_e, o_on, behind_eq, bo_eq, optQ_some, opt2_some, pop, popQ, rop_load1, ldV_ptr, rop_slice, ev, evO, putA, look_put, isB_true, isB_false, abinF_eq, abin, resAll, resA, mkRes1, eop_app, Int.toNat_natCast, Int.natCast_nonneg, Nat.add_zero, inB_eq, decide_true, cond_true, ite_true, ite_false, Bool.and_true, Bool.not_false, Nat.reduceEqDiff, Nat.zero_add, Option.some.injEq, exists_eq_left', ownSl, Option.map_some, ci, rk, c3, a5, a6]
      rw [tail_marks h0 h6 s6.marks]
      exact ⟨hp, s6⟩
  · have ci : ((n : Int) < l.length) = False := by simp; omega
    obtain ⟨v5, a5, u6, h6, a6, hp, s6⟩ := fin n (Nat.le_refl _) hn (fun j hj hj2 => by omega)
    simp only [cwf_seq, cwf_ops, cwf_ret, c_false, cwf_skip, andThen_normal, fnQ_ret, owf_nil, o_p, o_r, o_e, o_off, behind_eq, bo_eq, optQ_some, opt2_some, pop, popQ, rop_slice, ev, evO, putA, look_put, isB_true, isB_false, resAll, resA, mkRes1, eop_app, decide_false, cond_false, ite_true, ite_false, Bool.not_false, Nat.reduceEqDiff, Option.some.injEq, exists_eq_left', ci, a5, a6]
    rw [tail_marks h0 h6 s6.marks]
    exact ⟨hp, s6⟩


theorem pairs2_spec {h : Heap} {v : Value} {L : List Int} (a : (L = [] ∧ ∃ base cap, v = .slice base 0 cap) ∨ ∃ x p cap, v = .slice (some ⟨x, p, none⟩) L.length cap ∧ RdAt h x p 1 L.length cap (L.map I)) :
    FSpec P 33 [v] h fun v h' => (∃ l u, v = ownSl u l.length ∧ OwnAt h' u 2 l.length (flat l) ∧ Asc l ∧ l.length ≤ 60 ∧ (∀ y, u = some y → h.next ≤ y) ∧ ∀ p ∈ l, -1000 ≤ p.1 ∧ p.1 ≤ 1000) ∧ Same h h' (fun _ => False) := by
  refine fspec_cwf hT H.f33 rfl ?_
  have hv : ∃ base cap, v = .slice base L.length cap := by
    rcases a with ⟨rfl, base, cap, rfl⟩ | ⟨x, p, cap, rfl, _⟩ <;> exact ⟨_, _, rfl⟩
  simp only [af33, cwf_seq, cwf_ops, cwf_block, cwf_loop, andThen_normal, owf_nil, o_p, bo_eq, optQ_some, pop, popQ, ev, putA, putArgs, Int.reduceNeg]
  refine cw_loop (fun m ts h' => ∃ (i : Nat) (l : List Pr) (u : Option Nat), m = 60 - i ∧ i ≤ 60 ∧ l.length ≤ i ∧ look ts 0 = v ∧ look ts 3 = ownSl u l.length ∧ look ts 4 = I i ∧ OwnAt h' u 2 l.length (flat l) ∧ Asc l ∧ (∀ y, u = some y → h.next ≤ y) ∧ (∀ p ∈ l, -1000 ≤ p.1 ∧ p.1 ≤ 1000) ∧ Same h h' (fun _ => False)) ?_ (n := 60) ⟨0, [], none, rfl, by omega, by simp, by simp only [look_put, ite_true, ite_false, Nat.reduceEqDiff], by simp only [look_put, List.length_nil, ite_true, ite_false, Nat.reduceEqDiff] <;> rfl, by simp only [look_put, Int.cast_ofNat_Int, ite_true, ite_false, Nat.reduceEqDiff] <;> rfl, OwnAt.nil _ _, fun j hj => by simp at hj, by simp, by simp, Same.refl _ _⟩
  rintro m ts h' ⟨i, l, u, rfl, i60, hli, t0, t3, t4, o, hasc, hu, hkeys, hs⟩
  obtain ⟨base, cap, hv⟩ := hv
  refine cwf_cw ?_
  by_cases c : i < L.length ∧ i < 60
  · obtain ⟨c1, c2⟩ := c
    rcases a with ⟨rfl, _⟩ | ⟨x, p, cap', rfl, hr⟩
    · simp at c1
    cases hv
    have ci : ((i : Int) < L.length) = True := by simp [c1]
    have ci2 : ((i : Int) < 60) = True := by simp; omega
    have rk : h'.rd x (p + i) = some (I L[i]) := by
      rw [(hr.same hs (fun x => x)).rd (by omega)]; simp [c1]
    obtain ⟨v1, h1, F1, rfl, rfl⟩ := cut_spec hT H h' L[i] 97 (by omega) (by omega)
    have em := Int.emod_nonneg L[i] (show (97 : Int) ≠ 0 by omega)
    have el := Int.emod_lt_of_pos L[i] (show (0 : Int) < 97 by omega)
    have w40 : wrapF .i64 (L[i] % 97 - 40) = L[i] % 97 - 40 := wrapI (by omega) (by omega)
    have wi : wrapF .i64 ((i : Int) + 1) = ((i + 1 : Nat) : Int) := by rw [wrapI] <;> omega
    simp only [cwf_seq, cwf_ops, c_true, cwf_skip, cwf_block, andThen_normal, owf_nil, o_p, o_r, owf_call, o_on, bo_eq, optQ_some, pop, popQ, rop_load1, ldV_ptr, ev, evs, putA, look_put, isB_true, abinF_eq, abin, Int.toNat_natCast, Int.natCast_nonneg, Nat.mul_one, Int.reduceNeg, inB_eq, decide_true, cond_true, cond_false, ite_true, ite_false, Bool.and_true, Nat.reduceEqDiff, t0, t4, ci, ci2, rk]
    refine ⟨_, _, F1, ?_⟩
    simp only [cwf_ops, andThen_normal, owf_nil, o_p, owf_call, behind_eq, bo_eq, optQ_some, pop, popQ, ev, evs, putA, look_put, abinF_eq, abin, Int.reduceNeg, decide_true, cond_true, ite_true, ite_false, Nat.reduceEqDiff, t3, t4, w40]
    obtain ⟨v2, h2, F2, ⟨l', y, rfl, o', hasc', hl', hy, hky⟩, s2⟩ := put2_spec hT H o hasc (by omega) (L[i] % 97 - 40) i
    refine ⟨_, _, F2, ?_⟩
    simp only [cwf_ops, andThen_normal, blockQ_normal, roundQ_normal, owf_nil, o_p, behind_eq, bo_eq, optQ_some, pop, popQ, ev, putA, look_put, abinF_eq, abin, Int.reduceNeg, decide_true, cond_true, ite_true, ite_false, Nat.reduceEqDiff, true_and, t0, t3, t4, wi]
    have n1 := hs.next
    refine ⟨60 - (i + 1), by omega, i + 1, l', some y, rfl, by omega, by omega, rfl, rfl, o', hasc', (fun z hz => by cases hz; omega), (fun p hp => (hky p hp).elim (hkeys p) (fun e => by rw [e]; constructor <;> (show _ ≤ _) <;> simp only [] <;> omega)), hs.trans s2 (fun _ _ x => x)⟩
  · subst hv
    by_cases c1 : i < L.length
    · have ci : ((i : Int) < L.length) = True := by simp [c1]
      have ci2 : ((i : Int) < 60) = False := by simp; omega
      simp only [cwf_seq, cwf_ops, cwf_ret, c_false, cwf_exit, andThen_normal, andThen_exit, blockQ_exit, roundQ_exit, fnQ_ret, owf_nil, o_p, o_on, bo_eq, optQ_some, pop, popQ, ev, putA, look_put, isB_true, isB_false, abinF_eq, abin, resAll, resA, mkRes1, Int.reduceNeg, decide_true, decide_false, cond_true, cond_false, ite_true, ite_false, Bool.not_false, Nat.reduceEqDiff, Option.some.injEq, exists_eq_left', t0, t3, t4, ci, ci2]
      rw [tail_marks h h' hs.marks]
      exact ⟨⟨l, u, rfl, o, hasc, by omega, hu, hkeys⟩, hs⟩
    · have ci : ((i : Int) < L.length) = False := by simp; omega
      simp only [cwf_seq, cwf_ops, cwf_ret, c_false, cwf_exit, andThen_normal, andThen_exit, blockQ_exit, roundQ_exit, fnQ_ret, owf_nil, o_p, o_off, bo_eq, optQ_some, pop, popQ, ev, putA, look_put, isB_true, isB_false, abinF_eq, abin, resAll, resA, mkRes1, Int.reduceNeg, decide_true, decide_false, cond_true, cond_false, ite_true, ite_false, Bool.not_false, Nat.reduceEqDiff, Option.some.injEq, exists_eq_left', t0, t3, t4, ci]
      rw [tail_marks h h' hs.marks]
      exact ⟨⟨l, u, rfl, o, hasc, by omega, hu, hkeys⟩, hs⟩

end
end
end Go.Proofs.Ytedldiimhbebdaa.Ai
