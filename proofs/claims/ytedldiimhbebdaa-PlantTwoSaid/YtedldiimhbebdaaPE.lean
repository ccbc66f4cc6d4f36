/- What Build, Place, Put and Pairs come to. -/
import Derived.Test.YtedldiimhbebdaaPD
namespace Go.Proofs.Ytedldiimhbebdaa.Ai
open Go.Proofs.Ytedldiimhbebdaa
noncomputable section
open Go.RowKit

theorem PrAt.len {h : Heap} {v : Value} {l : List Pr} {u : Option Nat} (a : PrAt h v l u) : ∃ base cap, v = .slice base l.length cap := by
  rcases a with ⟨rfl, base, cap, rfl⟩ | ⟨x, p, cap, _, rfl, _, _⟩
  · exact ⟨_, _, rfl⟩
  · exact ⟨_, _, rfl⟩

section
variable {P : Program} {tab : Nat → Option AFunc} (hT : TabOk P tab) (H : Has tab)
include hT H

theorem place_spec {h : Heap} {v : Value} {l : List Pr} {u : Option Nat} (a : PrAt h v l u) (hl : l.length < 1000000) (k : Int) : FSpec P 104 [v, I k] h fun v h' => (∃ n : Nat, v = I n ∧ n ≤ l.length ∧ (∀ j (hj : j < l.length), j < n → l[j].1 < k) ∧ ∀ hn : n < l.length, ¬ l[n].1 < k) ∧ h' = h := by
  refine fspec_cwf hT H.f104 rfl ?_
  rcases a with ⟨rfl, base, cap, rfl⟩ | ⟨x, p, cap, rfl, rfl, hpos, hr⟩
  · simp only [af104, cwf_seq, cwf_ops, cwf_block, cwf_loop, andThen_normal, owf_nil, o_p, bo_eq, optQ_some, pop, popQ, ev, putA, putArgs, List.length_nil, Nat.zero_add]
    refine cw_lw (lw_step ?_)
    simp only [cwf_seq, cwf_ops, cwf_ret, c_false, cwf_exit, andThen_normal, andThen_exit, blockQ_exit, lwQ_exit, fnQ_ret, owf_nil, o_p, o_off, bo_eq, optQ_some, pop, popQ, ev, putA, look_put, isB_true, isB_false, abinF_eq, abin, resAll, resA, mkRes1, Int.reduceLT, Int.cast_ofNat_Int, decide_true, decide_false, cond_true, cond_false, ite_true, ite_false, Bool.not_false, Nat.reduceEqDiff, Option.some.injEq, exists_eq_left', and_true]
    exact ⟨0, rfl, Nat.le_refl _, fun j hj => by simp at hj, fun hn => by simp at hn⟩
  · simp only [af104, cwf_seq, cwf_ops, cwf_block, cwf_loop, andThen_normal, owf_nil, o_p, bo_eq, optQ_some, pop, popQ, ev, putA, putArgs, Nat.zero_add]
    refine cw_loop (fun m ts h' => ∃ i : Nat, m = l.length - i ∧ i ≤ l.length ∧ h' = h ∧ look ts 0 = .slice (some ⟨x, p, none⟩) l.length cap ∧ look ts 1 = I k ∧ look ts 5 = I i ∧ ∀ j (hj : j < l.length), j < i → l[j].1 < k) ?_ (n := l.length) ⟨0, rfl, Nat.zero_le _, rfl, by simp only [look_put, ite_true, ite_false, Nat.reduceEqDiff], by simp only [look_put, ite_true, ite_false, Nat.reduceEqDiff], by simp only [look_put, Int.cast_ofNat_Int, ite_true, ite_false, Nat.reduceEqDiff] <;> rfl, fun j hj h1 => by omega⟩
    rintro m ts h' ⟨i, rfl, i2, rfl, t0, t1, t5, hk⟩
    refine cwf_cw ?_
    by_cases hi : i < l.length
    · have ci : ((i : Int) < l.length) = True := by simp [hi]
      have wi : wrapF .i64 ((i : Int) + 1) = ((i + 1 : Nat) : Int) := by rw [wrapI] <;> omega
      have r1 : h'.rd x (p + i * 2) = some (I l[i].1) := by rw [hr.rd (by omega)]; exact flat_key l i hi
      by_cases hc : l[i].1 < k
      · simp only [cwf_seq, cwf_ops, c_true, cwf_skip, cwf_block, andThen_normal, blockQ_normal, roundQ_normal, owf_nil, o_p, o_r, o_on, bo_eq, optQ_some, pop, popQ, rop_load1, ldV_ptr, ev, putA, look_put, isB_true, abinF_eq, abin, Int.toNat_natCast, Int.natCast_nonneg, Nat.add_zero, inB_eq, decide_true, cond_true, cond_false, ite_true, ite_false, Bool.and_true, Nat.reduceEqDiff, true_and, t0, t1, t5, ci, r1, hc, wi]
        refine ⟨l.length - (i + 1), by omega, i + 1, rfl, by omega, rfl, fun j hj hji => ?_⟩
        by_cases hj2 : j < i
        · exact hk j hj hj2
        · have e : j = i := by omega
          subst e; exact hc
      · simp only [cwf_seq, cwf_ops, cwf_ret, c_false, cwf_exit, andThen_normal, andThen_exit, blockQ_exit, roundQ_exit, fnQ_ret, owf_nil, o_p, o_r, o_on, bo_eq, optQ_some, pop, popQ, rop_load1, ldV_ptr, ev, putA, look_put, isB_true, isB_false, abinF_eq, abin, resAll, resA, mkRes1, Int.toNat_natCast, Int.natCast_nonneg, Nat.add_zero, inB_eq, decide_true, decide_false, cond_true, cond_false, ite_true, ite_false, Bool.and_true, Bool.not_false, Nat.reduceEqDiff, Option.some.injEq, exists_eq_left', and_true, t0, t1, t5, ci, r1, hc]
        exact ⟨i, rfl, i2, hk, fun _ => hc⟩
    · have ci : ((i : Int) < l.length) = False := by simp; omega
      simp only [cwf_seq, cwf_ops, cwf_ret, c_false, cwf_exit, andThen_normal, andThen_exit, blockQ_exit, roundQ_exit, fnQ_ret, owf_nil, o_p, o_off, bo_eq, optQ_some, pop, popQ, ev, putA, look_put, isB_true, isB_false, abinF_eq, abin, resAll, resA, mkRes1, decide_true, decide_false, cond_true, cond_false, ite_true, ite_false, Bool.not_false, Nat.reduceEqDiff, Option.some.injEq, exists_eq_left', and_true, t0, t5, ci]
      exact ⟨i, rfl, i2, hk, fun hn => absurd hn hi⟩

omit hT H in
/-- a list's parts, and one between -/
theorem put_asc {l : List Pr} {k x : Int} {n n' : Nat} (ha : Asc l) (h1 : ∀ j (hj : j < l.length), j < n → l[j].1 < k) (hn : n ≤ l.length) (h2 : ∀ j (hj : j < l.length), n' ≤ j → k < l[j].1) : Asc (l.take n ++ [(k, x)] ++ l.drop n') := by
  intro j hj
  have hlen : (l.take n ++ [(k, x)] ++ l.drop n').length = n + 1 + (l.length - n') := by simp; omega
  rw [hlen] at hj
  have key : ∀ i (hi : i < (l.take n ++ [(k, x)] ++ l.drop n').length), (l.take n ++ [(k, x)] ++ l.drop n')[i]? = if i < n then l[i]? else if i = n then some (k, x) else l[n' + (i - (n + 1))]? := by
    intro i hi
    rw [List.append_assoc, List.getElem?_append]
    have hm : (l.take n).length = n := by simp; omega
    rw [hm]
    by_cases c1 : i < n
    · rw [if_pos c1, if_pos c1, List.getElem?_take, if_pos c1]
    · rw [if_neg c1, if_neg c1]
      by_cases c2 : i = n
      · subst c2; simp
      · rw [if_neg c2, List.getElem?_append_right (by simp; omega), List.getElem?_drop]
        congr 1
  have e1 := key j (by rw [hlen]; omega)
  have e2 := key (j + 1) (by rw [hlen]; omega)
  rw [List.getElem?_eq_getElem (by rw [hlen]; omega)] at e1 e2
  by_cases c1 : j + 1 < n
  · rw [if_pos (by omega), List.getElem?_eq_getElem (by omega)] at e1
    rw [if_pos c1, List.getElem?_eq_getElem (by omega)] at e2
    rw [Option.some.inj e1, Option.some.inj e2]
    exact ha j (by omega)
  · by_cases c2 : j + 1 = n
    · rw [if_pos (by omega), List.getElem?_eq_getElem (by omega)] at e1
      rw [if_neg c1, if_pos c2] at e2
      rw [Option.some.inj e1, Option.some.inj e2]
      exact h1 j (by omega) (by omega)
    · by_cases c3 : j = n
      · rw [if_neg (by omega), if_pos c3] at e1
        rw [if_neg c1, if_neg c2, List.getElem?_eq_getElem (by omega)] at e2
        rw [Option.some.inj e1, Option.some.inj e2]
        exact h2 _ (by omega) (by omega)
      · rw [if_neg (by omega), if_neg c3, List.getElem?_eq_getElem (by omega)] at e1
        rw [if_neg c1, if_neg c2, List.getElem?_eq_getElem (by omega)] at e2
        rw [Option.some.inj e1, Option.some.inj e2]
        have e : n' + (j + 1 - (n + 1)) = n' + (j - (n + 1)) + 1 := by omega
        simp only [e]
        exact ha _ (by omega)

omit hT H in
theorem asc_lt {l : List Pr} (ha : Asc l) : ∀ (i j : Nat) (hi : i < j) (hj : j < l.length), l[i].1 < l[j].1 := by
  intro i j hi
  induction j with
  | zero => omega
  | succ j ih =>
    intro hj
    have h1 := ha j hj
    by_cases c : i = j
    · subst c; exact h1
    · have := ih (by omega) (by omega)
      omega

omit hT H in
theorem flat_app : ∀ (a b : List Pr), flat (a ++ b) = flat a ++ flat b
  | [], b => rfl
  | p :: a, b => by simp [flat, flat_app a b]

omit hT H in
theorem flat_scalar : ∀ (l : List Pr), (flat l).all scalar = true
  | [] => rfl
  | p :: l => by simp [flat, scalar, flat_scalar l]

theorem put_spec {h : Heap} {u : Option Nat} {l : List Pr} (o : OwnAt h u 2 l.length (flat l)) (ha : Asc l) (hl : l.length < 10000) (k x : Int) :
    FSpec P 67 [ownSl u l.length, I k, I x] h fun v h' => (∃ l' y, v = ownSl (some y) l'.length ∧ OwnAt h' (some y) 2 l'.length (flat l') ∧ Asc l' ∧ l'.length ≤ l.length + 1 ∧ h.next ≤ y) ∧ Same h h' (fun _ => False) := by
  refine fspec_cwf hT H.f67 rfl ?_
  have pa : PrAt h (ownSl u l.length) l u := by
    cases u with
    | none => have := o.non rfl; exact .inl ⟨List.eq_nil_of_length_eq_zero this, none, 0, by rw [this]; rfl⟩
    | some y => exact .inr ⟨y, 0, l.length, rfl, rfl, (o.use y rfl).2.2, o.rd⟩
  obtain ⟨v0, h0, F0, ⟨n, rfl, hn, hlt, hge⟩, rfl⟩ := place_spec hT H pa (by omega) k
  simp only [af67, cwf_seq, cwf_ops, andThen_normal, owf_nil, o_p, owf_call, bo_eq, optQ_some, pop, popQ, ev, evs, putA, putArgs, look_put, ite_true, ite_false, Nat.reduceEqDiff, Nat.reduceAdd, Nat.zero_add]
  refine ⟨_, _, F0, ?_⟩
  simp only [cwf_seq, cwf_ops, andThen_normal, owf_nil, o_p, o_r, o_e, behind_eq, bo_eq, optQ_some, opt2_some, pop, popQ, rop_slice, ev, evO, putA, look_put, eop_buildS, bldS_some, evP_nil, fillA_nil, Nat.zero_mul, ite_true, ite_false, Nat.reduceEqDiff]
  generalize hh1 : h0.new ⟨[], 0, 2, true, false⟩ = h1
  have s1 : Same h0 h1 (fun _ => False) := hh1 ▸ Same.new
  have e1 : h1.blks.get h0.next = some ⟨[], 0, 2, true, false⟩ := hh1 ▸ (by rw [new_get]; exact if_pos rfl)
  have l1 : h1.next = h0.next + 1 := hh1 ▸ rfl
  have o1 := o.same s1 (fun _ _ x => x)
  obtain ⟨v1, a1, b1⟩ := o1.to hn
  obtain ⟨v2, h2, z2, a2, m2, s2, z2e, _⟩ := app_empty (bytes := 16) e1 (by omega) b1 (by simp [flat_len]; omega) (List.all_eq_true.2 fun y hy => List.all_eq_true.1 (flat_scalar l) y (List.mem_of_mem_take hy)) (by omega) (by omega) (by omega)
  have hcell : RdAt (h2.new ⟨[I k, I x], 2, 2, true, false⟩) h2.next 0 2 1 1 [I k, I x] := RdAt.fresh h2 [I k, I x] 1 2 true false rfl
  generalize hh3 : h2.new ⟨[I k, I x], 2, 2, true, false⟩ = h3 at hcell
  have s3 : Same h2 h3 (fun _ => False) := hh3 ▸ Same.new
  obtain ⟨z4, h4, a4, o4, s4, z4e⟩ := app_mid (bytes := 16) (m2.same s3 (fun x => x)) hcell.src rfl rfl (by omega) (by omega) (by omega) (by omega)
  have n2 := s2.next
  have n3 := s3.next
  have n4 := s4.next
  have zf : h0.next ≤ z2 := by omega
  have zf4 : h0.next ≤ z4 := by omega
  have sa : Same h0 h3 (fun _ => False) := (s1.trans s2 (fun _ _ x => x)).trans s3 (fun _ _ x => x)
  have sb : Same h0 h4 (fun _ => False) := sa.trans s4 (fun j hj e => by omega)
  have ob := o.same sb (fun _ _ x => x)
  have fin : ∀ n', n ≤ n' → n' ≤ l.length → (∀ j (hj : j < l.length), n' ≤ j → k < l[j].1) → ∃ v5, slV h4 2 (ownSl u l.length) (some (I n')) none = some v5 ∧ ∃ u6 h6, appV h4 2 16 (ownSl (some z4) (n + 1)) v5 = some (ownSl u6 (n + 1 + (l.length - n')), h6) ∧
      (∃ l' y, ownSl u6 (n + 1 + (l.length - n')) = ownSl (some y) l'.length ∧ OwnAt h6 (some y) 2 l'.length (flat l') ∧ Asc l' ∧ l'.length ≤ l.length + 1 ∧ h0.next ≤ y) ∧ Same h0 h6 (fun _ => False) := by
    intro n' hn1 hn2 hgt
    obtain ⟨v5, a5, b5⟩ := ob.from hn2
    obtain ⟨u6, h6, a6, o6, s6, u6e⟩ := app_own (bytes := 16) o4 b5 (by simp [flat_len]; omega) (List.all_eq_true.2 fun y hy => List.all_eq_true.1 (flat_scalar l) y (List.mem_of_mem_drop hy)) (by omega) (by omega) (by omega)
    refine ⟨v5, a5, u6, h6, a6, ?_, sb.trans s6 (fun j hj e => by cases e; omega)⟩
    cases hu : u6 with
    | none => have := o6.non hu; omega
    | some y =>
      rw [hu] at o6
      have e : (l.take n ++ [(k, x)] ++ l.drop n').length = n + 1 + (l.length - n') := by simp; omega
      have ef : flat (l.take n ++ [(k, x)] ++ l.drop n') = (flat l).take (n * 2) ++ [I k, I x] ++ (flat l).drop (n' * 2) := by rw [flat_app, flat_app, flat_take, flat_drop]; rfl
      refine ⟨l.take n ++ [(k, x)] ++ l.drop n', y, by rw [e], by rw [e, ef]; exact o6, put_asc ha hlt hn hgt, by rw [e]; omega, ?_⟩
      rcases u6e y hu with e2 | e2
      · cases e2; omega
      · omega
  have wn : wrapF .i64 ((n : Int) + 1) = ((n + 1 : Nat) : Int) := by rw [wrapI] <;> omega
  simp only [cwf_seq, cwf_ops, andThen_normal, owf_nil, o_p, o_e, behind_eq, bo_eq, optQ_some, opt2_some, pop, popQ, ev, putA, look_put, abinF_eq, abin, eop_app, eop_buildS, bldS_some, evP_nil, evP_cons, fillA_nil, fillA_one, fillA_pair, List.length_cons, List.length_nil, List.set_cons_zero, List.set_cons_succ, Nat.reduceLT, Nat.lt_add_one, scalar_int, decide_true, cond_true, cond_false, ite_true, ite_false, Nat.reduceEqDiff, Nat.reduceAdd, Nat.zero_add, Nat.reduceMul, a1, a2, hh3, a4]
  by_cases c1 : n < l.length
  · have ci : ((n : Int) < l.length) = True := by simp [c1]
    obtain ⟨y, rfl⟩ : ∃ y, u = some y := by
      cases u with
      | none => have := o.non rfl; omega
      | some y => exact ⟨y, rfl⟩
    have rk : h4.rd y (n * 2) = some (I l[n].1) := by
      have := ob.rd.rd (i := n * 2) (by omega)
      rw [Nat.zero_add] at this
      rw [this]; exact flat_key l n c1
    by_cases c2 : l[n].1 = k
    · have c3 : (l[n].1 == k) = true := by rw [c2]; simp
      obtain ⟨v5, a5, u6, h6, a6, hp, s6⟩ := fin (n + 1) (by omega) (by omega) (fun j hj hj2 => by rw [← c2]; exact asc_lt ha n j (by omega) hj)
      simp only [ownSl, Option.map_some] at a5 a6
      simp only [cwf_seq, cwf_ops, cwf_ret, c_true, andThen_normal, fnQ_ret, owf_nil, o_p, o_r, o_e, o_on, behind_eq, bo_eq, optQ_some, opt2_some, pop, popQ, rop_load1, ldV_ptr, rop_slice, ev, evO, putA, look_put, isB_true, abinF_eq, abin, resAll, resA, mkRes1, eop_app, Int.toNat_natCast, Int.natCast_nonneg, Nat.add_zero, inB_eq, decide_true, cond_true, ite_true, ite_false, Bool.and_true, Nat.reduceEqDiff, Nat.zero_add, Option.some.injEq, exists_eq_left', ownSl, Option.map_some, ci, rk, c3, wn, a5, a6]
      rw [tail_marks h0 h6 s6.marks]
      exact ⟨hp, s6⟩
    · have c3 : (l[n].1 == k) = false := by simp [c2]
      have hgt : ∀ j (hj : j < l.length), n ≤ j → k < l[j].1 := fun j hj hj2 => by
        have h1 := hge c1
        by_cases e : j = n
        · subst e; omega
        · have := asc_lt ha n j (by omega) hj; omega
      obtain ⟨v5, a5, u6, h6, a6, hp, s6⟩ := fin n (Nat.le_refl _) hn hgt
      simp only [ownSl, Option.map_some] at a5 a6
      simp only [cwf_seq, cwf_ops, cwf_ret, c_false, cwf_skip, andThen_normal, fnQ_ret, owf_nil, o_p, o_r, o_e, o_on, behind_eq, bo_eq, optQ_some, opt2_some, pop, popQ, rop_load1, ldV_ptr, rop_slice, ev, evO, putA, look_put, isB_true, isB_false, abinF_eq, abin, resAll, resA, mkRes1, eop_app, Int.toNat_natCast, Int.natCast_nonneg, Nat.add_zero, inB_eq, decide_true, cond_true, ite_true, ite_false, Bool.and_true, Bool.not_false, Nat.reduceEqDiff, Nat.zero_add, Option.some.injEq, exists_eq_left', ownSl, Option.map_some, ci, rk, c3, a5, a6]
      rw [tail_marks h0 h6 s6.marks]
      exact ⟨hp, s6⟩
  · have ci : ((n : Int) < l.length) = False := by simp; omega
    obtain ⟨v5, a5, u6, h6, a6, hp, s6⟩ := fin n (Nat.le_refl _) hn (fun j hj hj2 => by omega)
    simp only [cwf_seq, cwf_ops, cwf_ret, c_false, cwf_skip, andThen_normal, fnQ_ret, owf_nil, o_p, o_r, o_e, o_off, behind_eq, bo_eq, optQ_some, opt2_some, pop, popQ, rop_slice, ev, evO, putA, look_put, isB_true, isB_false, resAll, resA, mkRes1, eop_app, decide_false, cond_false, ite_true, ite_false, Bool.not_false, Nat.reduceEqDiff, Option.some.injEq, exists_eq_left', ci, a5, a6]
    rw [tail_marks h0 h6 s6.marks]
    exact ⟨hp, s6⟩

end
end
end Go.Proofs.Ytedldiimhbebdaa.Ai
