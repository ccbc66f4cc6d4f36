/- Is it sound, is it calm; the children of an Inner, one by one; its Leaves. -/
import Derived.Test.YtedldiimhbebdaaVE
import Derived.Test.YtedldiimhbebdaaTabOk
import Derived.Test.YtedldiimhbebdaaTh2
namespace Go.Proofs.Ytedldiimhbebdaa.Ai
open Go.Proofs.Ytedldiimhbebdaa
noncomputable section
open Go.RowKit
structure HasV5 (tab : Nat → Option AFunc) : Prop where
  v46 : tab 46 = some af46
  v47 : tab 47 = some af47
  v109 : tab 109 = some af109
  v125 : tab 125 = some af125
  v75 : tab 75 = some af75
  v107 : tab 107 = some af107

theorem hasV5 : HasV5 tabT.get := ⟨by kernel_rfl, by kernel_rfl, by kernel_rfl, by kernel_rfl, by kernel_rfl, by kernel_rfl⟩

section
variable {P : Program} {tab : Nat → Option AFunc} (hT : TabOk P tab) (V : HasV tab)
include hT V

theorem sound_spec (H : Has tab) (V2 : HasV2 tab) (V3 : HasV3 tab) (V4 : HasV4 tab) (V5 : HasV5 tab) {h : Heap} {bm : Nat} {um : Option Nat} {C : List Int} {z c o r : Int} {t : Tr} (m : MemAt h bm um C z c o r) (R : Rooted C t) : FSpec P 46 [.pointer (some ⟨bm, 0, none⟩)] h fun v h' => v = .bool true ∧ Same h h' (fun _ => False) := by
  refine fspec_cwf hT V5.v46 rfl ?_
  obtain ⟨_, h1, F1, bt, ut, us, rfl, w, _, s1⟩ := survey_spec hT V H V2 V3 V4 m R
  simp only [af46, cwf_seq, cwf_ops, andThen_normal, owf_nil, o_p, owf_call, bo_eq, optQ_some, pop, popQ, ev, evs, putA, putArgs, look_put, ite_true, ite_false, Nat.reduceEqDiff]
  refine ⟨_, _, F1, ?_⟩
  simp only [cwf_seq, cwf_ops, cwf_ret, andThen_normal, fnQ_ret, owf_nil, o_p, behind_eq, bo_eq, optQ_some, pop, popQ, ev, putA, look_put, resAll, resA, mkRes1, ite_true, ite_false, Nat.reduceEqDiff, Option.some.injEq, exists_eq_left', true_and, List.getElem?_cons_zero, List.getElem?_cons_succ]
  rw [tail_marks h h1 s1.marks]
  exact s1

theorem calm_spec (H : Has tab) (V2 : HasV2 tab) (V3 : HasV3 tab) (V4 : HasV4 tab) (V5 : HasV5 tab) {h : Heap} {bm : Nat} {um : Option Nat} {C : List Int} {z c o r : Int} {t : Tr} (m : MemAt h bm um C z c o r) (R : Rooted C t) : FSpec P 47 [.pointer (some ⟨bm, 0, none⟩)] h fun v h' => v = .bool (!t.busy) ∧ Same h h' (fun _ => False) := by
  refine fspec_cwf hT V5.v47 rfl ?_
  obtain ⟨_, h1, F1, bt, ut, us, rfl, w, _, s1⟩ := survey_spec hT V H V2 V3 V4 m R
  have r4 : h1.rd bt 4 = some (.bool t.busy) := rd_of w.blk
  simp only [af47, cwf_seq, cwf_ops, andThen_normal, owf_nil, o_p, owf_call, bo_eq, optQ_some, pop, popQ, ev, evs, putA, putArgs, look_put, ite_true, ite_false, Nat.reduceEqDiff]
  refine ⟨_, _, F1, ?_⟩
  simp only [cwf_seq, cwf_ops, cwf_ret, andThen_normal, fnQ_ret, owf_nil, o_p, o_r, o_on, behind_eq, bo_eq, optQ_some, pop, popQ, rop_load1, ldV_ptr, ev, putA, look_put, isB_true, resAll, resA, mkRes1, cond_true, ite_true, ite_false, Nat.reduceEqDiff, Nat.zero_add, Option.some.injEq, exists_eq_left', true_and, List.getElem?_cons_zero, List.getElem?_cons_succ, r4]
  rw [tail_marks h h1 s1.marks]
  exact s1

omit V in
theorem children_spec (V5 : HasV5 tab) (h : Heap) (p : Option Addr) (a : Int) : FSpec P 109 [.pointer p, I a] h fun v h' => v = .func (.func 125) #[] #[.pointer (some ⟨h.next, 0, none⟩), .pointer (some ⟨h.next + 1, 0, none⟩)] ∧ h'.rd h.next 0 = some (.pointer p) ∧ h'.rd (h.next + 1) 0 = some (I a) ∧ h'.next = h.next + 2 ∧ Same h h' (fun _ => False) := by
  refine fspec_cwf hT V5.v109 rfl ?_
  have s1 : Same h (h.new ⟨[.pointer p], 1, 1, true, false⟩) (fun _ => False) := Same.new
  have g1 : (h.new ⟨[.pointer p], 1, 1, true, false⟩).blks.get h.next = some ⟨[.pointer p], 1, 1, true, false⟩ := by rw [new_get, if_pos rfl]
  have x1 : (h.new ⟨[.pointer p], 1, 1, true, false⟩).next = h.next + 1 := rfl
  simp only [af109, cwf_seq, cwf_ops, cwf_ret, andThen_normal, fnQ_ret, owf_nil, o_p, o_e, behind_eq, bo_eq, optQ_some, opt2_some, pop, popQ, ev, evs, putA, putArgs, look_put, resAll, resA, mkRes1, eop_box, scalar_int, scalar_ptr, ite_true, ite_false, Nat.reduceEqDiff, Nat.zero_add, Option.some.injEq, exists_eq_left', box1]
  generalize h.new ⟨[.pointer p], 1, 1, true, false⟩ = h1 at s1 g1 x1
  have s2 : Same h1 (h1.new ⟨[I a], 1, 1, true, false⟩) (fun _ => False) := Same.new
  have g2 : (h1.new ⟨[I a], 1, 1, true, false⟩).blks.get h1.next = some ⟨[I a], 1, 1, true, false⟩ := by rw [new_get, if_pos rfl]
  have x2 : (h1.new ⟨[I a], 1, 1, true, false⟩).next = h1.next + 1 := rfl
  generalize h1.new ⟨[I a], 1, 1, true, false⟩ = h2 at s2 g2 x2
  have sf := s1.trans s2 (fun _ _ x => x)
  rw [tail_marks h h2 sf.marks]
  rw [x1] at g2
  refine ⟨by rw [x1], ?_, ?_, by omega, sf⟩
  · rw [rd_of (by rw [s2.get h.next (by omega) (fun x => x)]; exact g1)]; rfl
  · rw [rd_of g2]; rfl

/-- one child behind the other -/
theorem children1_spec (H : Has tab) (V5 : HasV5 tab) {yv : Value} {bm : Nat} {um : Option Nat} {C : List Int} {z c o r : Int} {a d pm pa : Nat} {cs : List Tr} (hd : d = cs.length) (hC : C.length ≤ 65536) (ha : a + 4 + 2 * d < 1000000) (h0 : at0 C a = d) (hcs : ∀ i (h : i < cs.length), at0 C (a + 4 + cs.length + i) = cs[i].word) (hoks : oks C cs) (yf : notFn yv [118]) (yg : notFn yv [76]) (J : Nat → Heap → Prop)
    (Jm : ∀ i h, J i h → MemAt h bm um C z c o r ∧ h.rd pm 0 = some (.pointer (some ⟨bm, 0, none⟩)) ∧ h.rd pa 0 = some (I a)) (Js : ∀ i h h', J i h → Same h h' (fun _ => False) → J i h') (Jk : ∀ i h h', J i h → J (i + 1) h' → h'.marks = h.marks)
    (Jy : ∀ i (hi : i < cs.length) h, J i h → callV P yv [I i, I cs[i].word] h fun v h' => v = .bool true ∧ J (i + 1) h') {h : Heap} (j0 : J 0 h) :
    FSpec P 125 [yv, .pointer (some ⟨pm, 0, none⟩), .pointer (some ⟨pa, 0, none⟩)] h fun _ h' => J d h' := by
  refine fspec_cwf hT V5.v125 rfl ?_
  obtain ⟨m0, rm0, ra0⟩ := Jm 0 h j0
  have wz : wrapF .i64 ((a : Int) + 0) = (a : Int) := by rw [wrapI] <;> omega
  have F0 : Fact P 58 [.pointer (some ⟨bm, 0, none⟩), I a] h (I d) h := by
    obtain ⟨_, _, F, e, rfl⟩ := at_spec hT V m0 a (by omega)
    rw [h0] at e; subst e; exact F
  simp only [af125, cwf_seq, cwf_ops, o_p, o_r, owf_call, bo_eq, optQ_some, pop, popQ, rop_load1, ldV_ptr, ev, evs, putA, putArgs, look_put, abinF_eq, abin, decide_true, cond_true, ite_true, ite_false, Nat.reduceEqDiff, Nat.reduceAdd, Nat.zero_add, rm0, ra0, wz]
  refine ⟨_, _, F0, ?_⟩
  simp only [cwf_seq, cwf_ops, cwf_block, cwf_loop, andThen_normal, owf_nil, o_p, behind_eq, bo_eq, optQ_some, pop, popQ, ev, putA, look_put, ite_true, ite_false, Nat.reduceEqDiff]
  refine cw_loop (fun k ts h' => ∃ i : Nat, k = d - i ∧ i ≤ d ∧ look ts 0 = yv ∧ look ts 1 = .pointer (some ⟨pm, 0, none⟩) ∧ look ts 2 = .pointer (some ⟨pa, 0, none⟩) ∧ look ts 4 = I d ∧ look ts 10 = I d ∧ look ts 11 = I i ∧ J i h' ∧ h'.marks = h.marks) ?_ (n := d) ⟨0, rfl, Nat.zero_le _, by simp only [look_put, ite_true, ite_false, Nat.reduceEqDiff], by simp only [look_put, ite_true, ite_false, Nat.reduceEqDiff], by simp only [look_put, ite_true, ite_false, Nat.reduceEqDiff], by simp only [look_put, ite_true, ite_false, Nat.reduceEqDiff], by simp only [look_put, ite_true, ite_false, Nat.reduceEqDiff], by simp only [look_put, Int.cast_ofNat_Int, ite_true, ite_false, Nat.reduceEqDiff] <;> rfl, j0, rfl⟩
  rintro k ts h' ⟨i, rfl, i2, t0, t1, t2, t4, t10, t11, ji, hmk⟩
  obtain ⟨mm, rm, ra⟩ := Jm i h' ji
  refine cwf_cw ?_
  by_cases hi : i < d
  · have ci : ((i : Int) < d) = True := by simp [hi]
    have wi : wrapF .i64 ((i : Int) + 1) = ((i + 1 : Nat) : Int) := by rw [wrapI] <;> omega
    have hic : i < cs.length := by omega
    obtain ⟨_, h2, F1, rfl, s1⟩ := childat_spec hT V h' a d i (by omega) (by omega) (by omega)
    have j1 := Js i h' h2 ji s1
    obtain ⟨mm2, rm2, ra2⟩ := Jm i h2 j1
    obtain ⟨kk, k1, k2, hk⟩ := word_parts cs[i]
    obtain ⟨a1, a2⟩ := ok_adr (oks_mem hoks i hic) hC
    have hcell : at0 C (a + 4 + d + i) = cs[i].word := by
      have := hcs i hic
      rwa [← hd] at this
    have F2 := logic_spec hT V H mm2 (a + 4 + d + i) (by omega) a1 a2 k1 (by omega) (hcell.trans hk)
    rw [← hk] at F2
    obtain ⟨_, h2, F2, rfl, rfl⟩ := F2
    obtain ⟨v3, h3, CF, hcf, gv, rfl, j3⟩ := callV_cf (Jy i hic h2 j1)
    have hmk3 := Jk i h2 h3 j1 j3
    obtain ⟨CG, hcg, g118, g76, gy⟩ : ∃ CG : CallF, CfOk P CG ∧ CG (.fn 118) [I a, I d, I i] h' = some (I ((a + 4 + d + i : Nat) : Int), h2) ∧ CG (.fn 76) [.pointer (some ⟨bm, 0, none⟩), I ((a + 4 + d + i : Nat) : Int)] h2 = some (I cs[i].word, h2) ∧ callW CG yv [I i, I cs[i].word] h2 = some (.bool true, h3) :=
      ⟨cfOf 118 _ h' _ h2 (cfOf 76 _ h2 _ h2 CF), cfOf_ok F1 (cfOf_ok F2 hcf), cfOf_eq, by rw [cfOf_ne (by decide)]; exact cfOf_eq, by rw [callW_cfOf yf, callW_cfOf yg]; exact gv⟩
    simp only [cwf_seq, cwf_ops, c_true, cwf_skip, cwf_block, andThen_normal, owf_nil, o_p, bo_eq, optQ_some, pop, popQ, ev, putA, look_put, isB_true, abinF_eq, abin, decide_true, cond_true, ite_true, ite_false, Nat.reduceEqDiff, t10, t11, ci]
    let Jw : Nat → Heap → Prop := fun i k => i ≤ 1 → k.rd pm 0 = some (.pointer (some ⟨bm, 0, none⟩)) ∧ k.rd pa 0 = some (I a)
    have w0 : Jw 0 h' := fun _ => ⟨rm, ra⟩
    have w1 : Jw (0 + 1) h2 := fun _ => ⟨rm2, ra2⟩
    have w2 : Jw (0 + 1 + 1) h2 := fun h => by omega
    have w3 : Jw (0 + 1 + 1 + 1) h3 := fun h => by omega
    have l1 : ∀ j k, 0 ≤ j → j ≤ 1 → Jw j k → k.rd pm 0 = some (.pointer (some ⟨bm, 0, none⟩)) := fun j k _ hj q => (q hj).1
    have l2 : ∀ j k, 0 ≤ j → j ≤ 0 → Jw j k → k.rd pa 0 = some (I a) := fun j k _ hj q => (q (by omega)).2
    have vp : veq (.pointer (some ⟨bm, 0, none⟩)) (.pointer (some ⟨bm, 0, none⟩)) = true := by simp [veq, veq1]
    clear_value Jw
    refine cwf_win Jw CG hcg w0 ?_
    simp only [optQ_some, opt2_some, pop, popQ, rop_load1, ldV_ptr, ev, evs, putA, look_put, ite_true, ite_false, Nat.reduceEqDiff, Nat.reduceAdd, Nat.zero_add, true_and, w_p, w_r, w_call, bw_eq, bwr_eq, bw2_eq, t0, t1, t2, t4, rm, ra, veq_int, vp, g118]
    refine ⟨l1, l2, w1, ?_⟩
    simp only [opt2_some, ev, evs, putA, look_put, ite_true, ite_false, Nat.reduceEqDiff, Nat.reduceAdd, w_callv, bw2_eq, g76]
    refine ⟨w2, ?_⟩
    simp only [cwf_ops, c_false, cwf_skip, andThen_normal, blockQ_normal, roundQ_normal, owf_nil, o_p, bo_eq, optQ_some, opt2_some, pop, popQ, ev, putA, look_put, isB_false, abinF_eq, abin, decide_true, cond_true, ite_true, ite_false, Bool.not_true, Bool.not_false, Nat.reduceEqDiff, true_and, w_nil, w_p, bw_eq, bw2_eq, t0, t1, t2, t4, t10, t11, gy]
    refine ⟨w3, ?_⟩
    simp only [wi]
    exact ⟨d - (i + 1), by omega, i + 1, rfl, by omega, rfl, j3, by rw [hmk3, s1.marks, hmk]⟩
  · have hid : i = d := by omega
    have ci : ((i : Int) < d) = False := by simp; omega
    simp only [cwf_seq, cwf_ops, c_false, cwf_exit, andThen_normal, andThen_exit, blockQ_exit, roundQ_exit, fnQ_normal, owf_nil, o_p, bo_eq, optQ_some, pop, popQ, ev, putA, look_put, isB_false, abinF_eq, abin, resAll, decide_true, decide_false, cond_true, ite_true, Bool.not_false, Option.some.injEq, exists_eq_left', t10, t11, ci]
    rw [tail_marks h h' hmk]
    rw [hid] at ji
    exact ji
end
end
end Go.Proofs.Ytedldiimhbebdaa.Ai
