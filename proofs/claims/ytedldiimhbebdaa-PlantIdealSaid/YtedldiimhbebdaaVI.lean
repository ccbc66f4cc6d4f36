/- How deep it is. -/
import Derived.Test.YtedldiimhbebdaaVH
import Derived.Test.YtedldiimhbebdaaTabOk
namespace Go.Proofs.Ytedldiimhbebdaa.Ai
open Go.Proofs.Ytedldiimhbebdaa
noncomputable section
open Go.RowKit
structure HasV7 (tab : Nat → Option AFunc) : Prop where
  v49 : tab 49 = some af49
  v81 : tab 81 = some af81

theorem hasV7 : HasV7 tabT.get := ⟨by kernel_rfl, by kernel_rfl⟩

/-- of a tree -/
def DeepP (P : Program) (bm : Nat) (um : Option Nat) (C : List Int) (z c o r : Int) (t : Tr) : Prop :=
  ∀ (h : Heap), MemAt h bm um C z c o r → t.ok C → FSpec P 81 [.pointer (some ⟨bm, 0, none⟩), I t.word] h fun v h' => v = I t.deep ∧ Same h h' (fun _ => False)

section
variable {P : Program} {tab : Nat → Option AFunc} (hT : TabOk P tab) (V : HasV tab)
include hT V

theorem depth_low (H : Has tab) (V5 : HasV5 tab) (V7 : HasV7 tab) {h : Heap} {bm : Nat} (a k : Nat) (a1 : 1 ≤ a) (a2 : a ≤ 65536) (k1 : 1 ≤ k) (k2 : k ≤ 2) : FSpec P 81 [.pointer (some ⟨bm, 0, none⟩), I ((a : Int) * 8 + k)] h fun v h' => v = I 0 ∧ Same h h' (fun _ => False) := by
  refine fspec_cwf hT V7.v81 rfl ?_
  have s1 : Same h (h.new ⟨[.pointer (some ⟨bm, 0, none⟩)], 1, 1, true, false⟩) (fun _ => False) := Same.new
  have r1 : (h.new ⟨[.pointer (some ⟨bm, 0, none⟩)], 1, 1, true, false⟩).rd h.next 0 = some (.pointer (some ⟨bm, 0, none⟩)) := by rw [rd_of (by rw [new_get, if_pos rfl])]; rfl
  generalize hh1 : h.new ⟨[.pointer (some ⟨bm, 0, none⟩)], 1, 1, true, false⟩ = h1 at s1 r1
  obtain ⟨_, h1, F1, rfl, rfl⟩ := inside_spec hT V H V5 h1 (.pointer (some ⟨bm, 0, none⟩)) a k a1 a2 k1 (by omega)
  obtain ⟨_, h1, F2, rfl, rfl⟩ := kind_spec hT V H h1 a k a1 a2 k1 (by omega)
  have c3 : ((k : Int) != 3) = true := by simp; omega
  simp only [af81, cwf_seq, cwf_ops, andThen_normal, owf_nil, o_p, o_r, o_e, owf_call, behind_eq, bo_eq, optQ_some, opt2_some, pop, popQ, rop_load1, ldV_ptr, ev, evs, putA, putArgs, look_put, eop_box, scalar_ptr, ite_true, ite_false, Nat.reduceEqDiff, Nat.zero_add, box1, hh1, r1]
  refine ⟨_, _, F1, ?_⟩
  simp only [cwf_seq, cwf_ops, andThen_normal, owf_nil, o_p, owf_call, behind_eq, bo_eq, optQ_some, pop, popQ, ev, evs, putA, look_put, ite_true, ite_false, Nat.reduceEqDiff]
  refine ⟨_, _, F2, ?_⟩
  simp only [cwf_seq, cwf_ops, cwf_ret, c_true, andThen_normal, andThen_ret, fnQ_ret, owf_nil, o_p, behind_eq, bo_eq, optQ_some, pop, popQ, ev, putA, look_put, isB_true, abinF_eq, abin, resAll, resA, mkRes1, decide_true, cond_true, ite_true, ite_false, Nat.reduceEqDiff, Option.some.injEq, exists_eq_left', true_and, c3]
  rw [tail_marks h h1 s1.marks]
  exact s1

theorem depth_spec (H : Has tab) (V5 : HasV5 tab) (V7 : HasV7 tab) {bm : Nat} {um : Option Nat} {C : List Int} {z c o r : Int} (hC : C.length ≤ 65536) : ∀ t : Tr, t.deep < 1000000 → DeepP P bm um C z c o r t := by
  intro t
  induction t using Tr.ind with
  | e a => exact fun _ h m hok => depth_low hT V H V5 V7 a 1 hok.1 (by have := hok.2; omega) (by omega) (by omega)
  | l a k v => exact fun _ h m hok => depth_low hT V H V5 V7 a 2 hok.1 (by have := hok.2.1; omega) (by omega) (by omega)
  | i a sz sh ch sm ks cs ih =>
    intro hdl h m hok
    refine fspec_cwf hT V7.v81 rfl ?_
    obtain ⟨⟨q1, q2, q3, q4⟩, ⟨p0, p1, p2, p3, p4⟩, hsh, hsz, hks, hcs, hoks⟩ := hok
    have hdc : ∀ i, i ≤ cs.length → deeps (cs.take i) ≤ deeps cs := by
      intro i _
      have e : deeps cs = deeps (cs.take i ++ cs.drop i) := by rw [List.take_append_drop]
      rw [e, deeps_app]; omega
    have hdm : ∀ i (hi : i < cs.length), cs[i].deep ≤ deeps cs := by
      intro i hi
      have := hdc (i + 1) (by omega)
      rw [take_one cs hi, deeps_app] at this
      simp only [deeps] at this; omega
    have hdl' : 1 + deeps cs < 1000000 := hdl
    have hbm := m.lt
    have huml := fun y hy => (m.use y hy).2.2.1
    have ew : (Tr.inner a sz sh ch sm ks cs).word = (a : Int) * 8 + ((3 : Nat) : Int) := rfl
    have s1 : Same h (h.new ⟨[.pointer (some ⟨bm, 0, none⟩)], 1, 1, true, false⟩) (fun _ => False) := Same.new
    have g1 : (h.new ⟨[.pointer (some ⟨bm, 0, none⟩)], 1, 1, true, false⟩).blks.get h.next = some ⟨[.pointer (some ⟨bm, 0, none⟩)], 1, 1, true, false⟩ := by rw [new_get, if_pos rfl]
    have x1 : (h.new ⟨[.pointer (some ⟨bm, 0, none⟩)], 1, 1, true, false⟩).next = h.next + 1 := rfl
    generalize hh1 : h.new ⟨[.pointer (some ⟨bm, 0, none⟩)], 1, 1, true, false⟩ = h1 at s1 g1 x1
    have r1 : h1.rd h.next 0 = some (.pointer (some ⟨bm, 0, none⟩)) := rd_of g1
    obtain ⟨_, h1, F1, rfl, rfl⟩ := inside_spec hT V H V5 h1 (.pointer (some ⟨bm, 0, none⟩)) a 3 q1 (by omega) (by omega) (by omega)
    obtain ⟨_, h1, F2, rfl, rfl⟩ := kind_spec hT V H h1 a 3 q1 (by omega) (by omega) (by omega)
    have s2 : Same h1 (h1.new ⟨[I 0], 1, 1, true, false⟩) (fun _ => False) := Same.new
    have g2 : (h1.new ⟨[I 0], 1, 1, true, false⟩).blks.get h1.next = some ⟨[I 0], 1, 1, true, false⟩ := by rw [new_get, if_pos rfl]
    have x2 : (h1.new ⟨[I 0], 1, 1, true, false⟩).next = h1.next + 1 := rfl
    generalize hh2 : h1.new ⟨[I 0], 1, 1, true, false⟩ = h2 at s2 g2 x2
    have w2 : h2.wrs h1.next 0 [I 0] = some (h2.setB h1.next ⟨[I 0], 1, 1, true, false⟩) := wrs1_of g2 rfl (by simp) rfl
    have s3 : Same h2 (h2.setB h1.next ⟨[I 0], 1, 1, true, false⟩) (fun j => j = h1.next) := Same.setB rfl
    have g3 : (h2.setB h1.next ⟨[I 0], 1, 1, true, false⟩).blks.get h1.next = some ⟨[I 0], 1, 1, true, false⟩ := by rw [setB_get, if_pos rfl]
    have x3 : (h2.setB h1.next ⟨[I 0], 1, 1, true, false⟩).next = h2.next := rfl
    generalize hh3 : h2.setB h1.next ⟨[I 0], 1, 1, true, false⟩ = h3 at w2 s3 g3 x3
    have s03 : Same h h3 (fun _ => False) := (s1.trans s2 (fun _ _ x => x)).trans s3 (fun j hj e => by omega)
    have k1 : h3.blks.get h.next = some ⟨[.pointer (some ⟨bm, 0, none⟩)], 1, 1, true, false⟩ := by rw [s3.get h.next (by omega) (by omega), s2.get h.next (by omega) (fun x => x)]; exact g1
    have r13 : h3.rd h.next 0 = some (.pointer (some ⟨bm, 0, none⟩)) := rd_of k1
    obtain ⟨_, h3, F91, rfl, rfl⟩ := refat_spec hT V H h3 a 3 q1 (by omega) (by omega) (by omega)
    obtain ⟨_, h4, F109, rfl, c1, c2, x4, s4⟩ := children_spec hT V5 h3 (some ⟨bm, 0, none⟩) a
    have k14 : h4.rd h.next 0 = some (.pointer (some ⟨bm, 0, none⟩)) := by
      rw [rd_of (by rw [s4.get h.next (by omega) (fun x => x)]; exact k1)]; rfl
    have c3n : ((3 : Int) != 3) = false := rfl
    obtain ⟨CG, hcg, g91, g109⟩ : ∃ CG : CallF, CfOk P CG ∧ CG (.fn 91) [I ((a : Int) * 8 + 3)] h3 = some (I a, h3) ∧ CG (.fn 109) [.pointer (some ⟨bm, 0, none⟩), I a] h3 = some (.func (.func 125) #[] #[.pointer (some ⟨h3.next, 0, none⟩), .pointer (some ⟨h3.next + 1, 0, none⟩)], h4) :=
      ⟨cfOf 91 _ h3 _ h3 (cfOf 109 _ h3 _ h4 cf00), cfOf_ok F91 (cfOf_ok F109 cf00_ok), cfOf_eq, by rw [cfOf_ne (by decide)]; exact cfOf_eq⟩
    rw [ew]
    simp only [af81, cwf_seq, cwf_ops, andThen_normal, owf_nil, o_p, o_r, o_e, owf_call, behind_eq, bo_eq, optQ_some, opt2_some, pop, popQ, rop_load1, ldV_ptr, ev, evs, putA, putArgs, look_put, eop_box, Int.cast_ofNat_Int, scalar_ptr, ite_true, ite_false, Nat.reduceEqDiff, Nat.zero_add, box1, hh1, r1]
    refine ⟨_, _, F1, ?_⟩
    simp only [cwf_seq, cwf_ops, andThen_normal, owf_nil, o_p, owf_call, behind_eq, bo_eq, optQ_some, pop, popQ, ev, evs, putA, look_put, Int.cast_ofNat_Int, ite_true, ite_false, Nat.reduceEqDiff]
    refine ⟨_, _, F2, ?_⟩
    simp only [cwf_seq, cwf_ops, c_false, cwf_skip, andThen_normal, owf_nil, o_p, o_e, behind_eq, bo_eq, optQ_some, opt2_some, pop, popQ, ev, putA, look_put, isB_false, abinF_eq, abin, eop_store1, st1, List.length_cons, List.length_nil, Int.cast_ofNat_Int, scalar_int, decide_true, cond_true, ite_true, ite_false, Bool.not_false, Nat.reduceEqDiff, Nat.zero_add, eop_alloc, c3n, List.length_cons, List.length_nil, hh2, w2]
    let Jw : Nat → Heap → Prop := fun i q => i ≤ 1 → q.rd h.next 0 = some (.pointer (some ⟨bm, 0, none⟩))
    have w0 : Jw 0 h3 := fun _ => r13
    have w1 : Jw (0 + 1) h3 := fun _ => r13
    have w22 : Jw (0 + 1 + 1) h4 := fun h => by omega
    have l1 : ∀ j q, 0 ≤ j → j ≤ 1 → Jw j q → q.rd h.next 0 = some (.pointer (some ⟨bm, 0, none⟩)) := fun j q _ hj x => x hj
    have vp : veq (.pointer (some ⟨bm, 0, none⟩)) (.pointer (some ⟨bm, 0, none⟩)) = true := by simp [veq, veq1]
    clear_value Jw
    refine cwf_win Jw CG hcg w0 ?_
    simp only [optQ_some, opt2_some, pop, popQ, rop_load1, ldV_ptr, ev, evs, putA, look_put, ite_true, ite_false, Nat.reduceEqDiff, Nat.reduceAdd, Nat.zero_add, true_and, w_p, w_r, w_call, bw_eq, bwr_eq, bw2_eq, r13, vp, g91]
    refine ⟨l1, w1, ?_⟩
    simp only [cwf_block, andThen_normal, opt2_some, putA, cwf_range, w_nil, bw2_eq, g109]
    refine ⟨w22, ?_⟩
    refine cw_gen (fun t => look t 2 = .pointer (some ⟨h.next, 0, none⟩) ∧ look t 5 = .pointer (some ⟨h1.next, 0, none⟩) ∧ look t 17 = .func (.func 125) #[] #[.pointer (some ⟨h3.next, 0, none⟩), .pointer (some ⟨h3.next + 1, 0, none⟩)]) ⟨by simp only [look_put, ite_true, ite_false, Nat.reduceEqDiff], by simp only [look_put, ite_true, ite_false, Nat.reduceEqDiff], by simp only [look_put, ite_true, ite_false, Nat.reduceEqDiff]⟩ ?_
    rintro tsX ⟨t2, t5, t17⟩
    refine cw_range' t17 (fun k kts kn kps kasg kbody kst kpd => ?_)
    have s4E : SameB h3 (h4.enter k) (fun _ => False) := s4.toB.trans (sameB_enter h4 k) (fun _ _ x => x)
    have xE : (h4.enter k).next = h4.next + 2 := rfl
    have lE : (h4.enter k).loops.get (h4.next + 1) = some k := by rw [enter_loops, if_pos rfl]
    have s0E : SameB h (h4.enter k) (fun _ => False) := s03.toB.trans s4E (fun _ _ x => x)
    have bE : ∀ j, (h4.enter k).blks.get j = h4.blks.get j := fun j => rfl
    have p1E : (h4.enter k).rd h.next 0 = some (.pointer (some ⟨bm, 0, none⟩)) := k14
    have p5E : (h4.enter k).blks.get h1.next = some ⟨[I 0], 1, 1, true, false⟩ := by rw [bE, s4.get h1.next (by omega) (fun x => x)]; exact g3
    have e1 : (h4.enter k).rd h3.next 0 = some (.pointer (some ⟨bm, 0, none⟩)) := c1
    have e2 : (h4.enter k).rd (h3.next + 1) 0 = some (I a) := c2
    generalize hE : h4.enter k = E at s4E xE lE s0E p1E p5E e1 e2
    have mE : MemAt E bm um C z c o r := m.sameB s0E (fun x => x) (fun _ _ x => x)
    have rdk : ∀ (q : Heap) (b : Nat) (v : Value), Same E q (fun j => j = h1.next) → b ≠ h1.next → b < E.next → E.rd b 0 = some v → q.rd b 0 = some v := by
      intro q b v s hb hb2 hv
      unfold Heap.rd at hv ⊢
      rw [s.get b hb2 hb]; exact hv
    have memk : ∀ q, Same E q (fun j => j = h1.next) → MemAt q bm um C z c o r := fun q s => mE.same s (fun e => by omega) (fun y hy e => by have := huml y hy; omega)
    obtain ⟨vv, hX, FX, g5X, sX⟩ := children1_spec hT V H V5 (yv := .func (.yield (h4.next + 1)) #[] #[]) (bm := bm) (um := um) (C := C) (z := z) (c := c) (o := o) (r := r) (a := a) (d := cs.length) (pm := h3.next) (pa := h3.next + 1) (cs := cs) rfl hC (by omega) p0 hcs hoks (fun f fs cs e => by cases e) (fun f fs cs e => by cases e)
      (fun i q => q.blks.get h1.next = some ⟨[I (deeps (cs.take i))], 1, 1, true, false⟩ ∧ Same E q (fun j => j = h1.next))
      (fun i q ⟨_, s⟩ => ⟨memk q s, rdk q _ _ s (by omega) (by omega) e1, rdk q _ _ s (by omega) (by omega) e2⟩)
      (fun i q q' ⟨g, s⟩ s' => ⟨by rw [s'.get h1.next (by have := s.next; omega) (fun x => x)]; exact g, s.trans s' (fun _ _ x => x.elim)⟩)
      (fun i q q' ⟨_, s⟩ ⟨_, s'⟩ => by rw [s'.marks, s.marks])
      (fun i hi q ⟨g, s⟩ => by
        rw [callV_y]
        have lq : q.loops.get (h4.next + 1) = some k := by rw [s.loops _ (by omega) (by omega)]; exact lE
        refine yspec_round lq kts kn kps kasg kbody kst kpd rfl rfl (fun q1 hq1 => ?_)
        have b1 : SameB q (q.setL (h4.next + 1) { k with st := 1 } q.marks) (fun j => j = h4.next + 1) := sameB_setL _ _ _ _
        have l1 : (q.setL (h4.next + 1) { k with st := 1 } q.marks).loops.get (h4.next + 1) = some { k with st := 1 } := by rw [setL_loops, if_pos rfl]
        have x1q : (q.setL (h4.next + 1) { k with st := 1 } q.marks).next = q.next := rfl
        have m1q : (q.setL (h4.next + 1) { k with st := 1 } q.marks).marks = q.marks := rfl
        have bl1 : ∀ j, (q.setL (h4.next + 1) { k with st := 1 } q.marks).blks.get j = q.blks.get j := fun j => rfl
        rw [← hq1] at b1 l1 x1q m1q bl1
        have xs := s.next
        have u1 : q1.rd h.next 0 = some (.pointer (some ⟨bm, 0, none⟩)) := by
          have := rdk q h.next _ s (by omega) (by omega) p1E
          unfold Heap.rd at this ⊢
          rw [bl1]; exact this
        have g5 : q1.blks.get h1.next = some ⟨[I (deeps (cs.take i))], 1, 1, true, false⟩ := by rw [bl1]; exact g
        have u5 : q1.rd h1.next 0 = some (I (deeps (cs.take i))) := rd_of g5
        have mq1 : MemAt q1 bm um C z c o r := (memk q s).sameB b1 (fun e => by omega) (fun y hy e => by have := huml y hy; omega)
        have hdi := hdm i hi
        have hdt := hdc i (by omega)
        obtain ⟨_, q2, F2, rfl, s2q⟩ := ih cs[i] (List.getElem_mem _) (by omega) q1 mq1 (oks_mem hoks i hi)
        have x2q := s2q.next
        have g52 : q2.blks.get h1.next = some ⟨[I (deeps (cs.take i))], 1, 1, true, false⟩ := by rw [s2q.get h1.next (by omega) (fun x => x)]; exact g5
        have edt : ((max (deeps (cs.take i)) cs[i].deep : Nat) : Int) = ((deeps (cs.take (i + 1)) : Nat) : Int) := by
          rw [take_one cs hi, deeps_app]; simp [deeps]
        have w5 : q2.wrs h1.next 0 [I ((deeps (cs.take (i + 1)) : Nat) : Int)] = some (q2.setB h1.next ⟨[I ((deeps (cs.take (i + 1)) : Nat) : Int)], 1, 1, true, false⟩) := wrs1_of g52 rfl (by simp) rfl
        have s5 : Same q2 (q2.setB h1.next ⟨[I ((deeps (cs.take (i + 1)) : Nat) : Int)], 1, 1, true, false⟩) (fun j => j = h1.next) := Same.setB rfl
        have g55 : (q2.setB h1.next ⟨[I ((deeps (cs.take (i + 1)) : Nat) : Int)], 1, 1, true, false⟩).blks.get h1.next = some ⟨[I ((deeps (cs.take (i + 1)) : Nat) : Int)], 1, 1, true, false⟩ := by rw [setB_get, if_pos rfl]
        generalize hq3 : q2.setB h1.next ⟨[I ((deeps (cs.take (i + 1)) : Nat) : Int)], 1, 1, true, false⟩ = q3 at w5 s5 g55
        have x3q := s5.next
        obtain ⟨CR, hcr, g81⟩ : ∃ CR : CallF, CfOk P CR ∧ CR (.fn 81) [.pointer (some ⟨bm, 0, none⟩), I cs[i].word] q1 = some (I cs[i].deep, q2) := ⟨cfOf 81 _ q1 _ q2 cf00, cfOf_ok F2 cf00_ok, cfOf_eq⟩
        simp only [cwf_ops, cwf_block, owf_nil, o_p, bo_eq, optQ_some, pop, popQ, ev, putA, look_put, ite_true, ite_false, Nat.reduceEqDiff, true_and, putPs_nil, putPs_cons]
        let Jr : Nat → Heap → Prop := fun i' q => i' ≤ 1 → q.rd h1.next 0 = some (I (deeps (cs.take i))) ∧ q.rd h.next 0 = some (.pointer (some ⟨bm, 0, none⟩))
        have v0 : Jr 0 q1 := fun _ => ⟨u5, u1⟩
        have v1 : Jr (0 + 1) q2 := fun _ => ⟨rd_of g52, by
          unfold Heap.rd at u1 ⊢
          rw [s2q.get h.next (by omega) (fun x => x)]; exact u1⟩
        have v2 : Jr (0 + 1 + 1) q3 := fun h => by omega
        have m1 : ∀ j q, 0 ≤ j → j ≤ 1 → Jr j q → q.rd h1.next 0 = some (I (deeps (cs.take i))) := fun j q _ hj x => (x hj).1
        have m2 : ∀ j q, 0 ≤ j → j ≤ 0 → Jr j q → q.rd h.next 0 = some (.pointer (some ⟨bm, 0, none⟩)) := fun j q _ hj x => (x (by omega)).2
        have emx : (bif decide ((cs[i].deep : Int) > (deeps (cs.take i) : Int)) then (cs[i].deep : Int) else (deeps (cs.take i) : Int)) = ((deeps (cs.take (i + 1)) : Nat) : Int) := by
          rw [← edt]
          by_cases hm : (cs[i].deep : Int) > (deeps (cs.take i) : Int)
          · rw [show decide _ = true from decide_eq_true hm]; show (cs[i].deep : Int) = _; omega
          · rw [show decide _ = false from decide_eq_false hm]; show (deeps (cs.take i) : Int) = _; omega
        clear_value Jr
        refine cwf_win Jr CR hcr v0 ?_
        simp only [optQ_some, opt2_some, pop, popQ, rop_load1, ldV_ptr, ev, evs, putA, look_put, eop_store1, st1, scalar_int, ite_true, ite_false, Nat.reduceEqDiff, Nat.reduceAdd, Nat.zero_add, true_and, w_p, w_r, w_e, w_call, bw_eq, bwr_eq, bw2_eq, t2, t5, u5, u1, vp, veq_int, g81]
        refine ⟨m1, m2, v1, ?_⟩
        rw [emx, w5]
        simp only [blockQ_normal, opt2_some, putA, true_and, w_nil, bw2_eq]
        refine ⟨v2, ?_⟩
        have l2 : q3.loops.get (h4.next + 1) = some { k with st := 1 } := by rw [s5.loops _ (by omega) (by omega), s2q.loops _ (by omega) (fun x => x)]; exact l1
        refine ⟨l2, g55, ?_⟩
        refine SameB.of ?_ ?_
        · refine SameB.less (b := h4.next + 1) ((((s.toB.mono (T := fun j => j = h1.next ∨ j = h4.next + 1) (fun j e => .inl e)).trans b1 (fun j hj e => .inr e)).trans s2q.toB (fun j hj e => e.elim)).trans s5.toB (fun j hj e => .inl e) |>.trans (sameB_setL q3 (h4.next + 1) k q.marks) (fun j hj e => .inr e)) ?_ ?_
          · rw [setL_loops, if_pos rfl]; exact lE.symm
          · show q3.blks.get _ = _
            rw [s5.get _ (by omega) (by omega), s2q.get _ (by omega) (fun x => x), bl1, s.get _ (by omega) (by omega)]
        · rw [setL_marks, s.marks]) (h := E) ⟨by simpa [deeps] using p5E, Same.refl _ _⟩
    rw [List.take_length] at g5X
    have lX : hX.loops.get (h4.next + 1) = some k := by rw [sX.loops _ (by omega) (by omega)]; exact lE
    refine ⟨vv, hX, FX, lX, ?_⟩
    have xX := sX.next
    have bX : SameB hX (hX.setL (h4.next + 1) { k with st := 3 } hX.marks) (fun j => j = h4.next + 1) := sameB_setL _ _ _ _
    have blX : ∀ j, (hX.setL (h4.next + 1) { k with st := 3 } hX.marks).blks.get j = hX.blks.get j := fun j => rfl
    have xY : (hX.setL (h4.next + 1) { k with st := 3 } hX.marks).next = hX.next := rfl
    simp only [cwf_seq, cwf_ops, andThen_normal, blockQ_normal, o_r, rop_load1, ev]
    generalize hX.setL (h4.next + 1) { k with st := 3 } hX.marks = Y at bX blX xY
    have g6 : Y.rd h1.next 0 = some (I (deeps cs)) := rd_of (by rw [blX]; exact g5X)
    have wd : wrapF .i64 (1 + (deeps cs : Int)) = ((1 + deeps cs : Nat) : Int) := by rw [wrapI] <;> omega
    simp only [cwf_ret, andThen_normal, fnQ_ret, owf_nil, o_p, bo_eq, optQ_some, pop, popQ, ldV_ptr, ev, putA, look_put, abinF_eq, abin, resAll, resA, mkRes1, decide_true, cond_true, ite_true, ite_false, Nat.reduceEqDiff, Option.some.injEq, exists_eq_left', t5, g6, wd]
    have sZ : SameB h Y (fun _ => False) := (s0E.trans sX.toB (fun j hj e => by omega)).trans bX (fun j hj e => by omega)
    exact ⟨rfl, sZ.close⟩

theorem depth1_spec (H : Has tab) (V2 : HasV2 tab) (V3 : HasV3 tab) (V4 : HasV4 tab) (V5 : HasV5 tab) (V6 : HasV6 tab) (V7 : HasV7 tab) {bm : Nat} {um : Option Nat} {C : List Int} {z c o r : Int} {t : Tr} (hd : t.deep < 1000000) {h : Heap} (m : MemAt h bm um C z c o r) (R : Rooted C t) : FSpec P 49 [.pointer (some ⟨bm, 0, none⟩), I t.word] h fun v h' => v = I t.deep ∧ Same h h' (fun _ => False) := by
  refine fspec_cwf hT V7.v49 rfl ?_
  obtain ⟨_, h1, F1, bt, ut, us, rfl, w, _, s1⟩ := survey_spec hT V H V2 V3 V4 m R
  obtain ⟨_, h2, F2, rfl, s2⟩ := has_spec hT V V6 w (by have := R.few; simp; omega) (x := t.word) ⟨((6 : Int), t.word), by simp, rfl⟩
  have s02 := s1.trans s2 (fun _ _ x => x)
  have m2 := m.same s02 (fun x => x) (fun _ _ x => x)
  obtain ⟨_, h3, F3, rfl, s3⟩ := depth_spec hT V H V5 V7 R.len.2 t hd h2 m2 R.ok
  simp only [af49, cwf_seq, cwf_ops, andThen_normal, owf_nil, o_p, owf_call, bo_eq, optQ_some, pop, popQ, ev, evs, putA, putArgs, look_put, ite_true, ite_false, Nat.reduceEqDiff, Nat.zero_add]
  refine ⟨_, _, F1, ?_⟩
  simp only [cwf_seq, cwf_ops, andThen_normal, owf_nil, o_p, owf_call, o_on, behind_eq, bo_eq, optQ_some, pop, popQ, ev, evs, putA, look_put, isB_false, ite_true, ite_false, Bool.not_true, Bool.not_false, Nat.reduceEqDiff, List.getElem?_cons_zero, List.getElem?_cons_succ]
  refine ⟨_, _, F2, ?_⟩
  simp only [cwf_seq, cwf_ops, c_false, cwf_skip, andThen_normal, owf_nil, o_p, owf_call, o_on, behind_eq, bo_eq, optQ_some, pop, popQ, ev, evs, putA, look_put, isB_false, cond_false, ite_true, ite_false, Bool.not_true, Bool.not_false, Nat.reduceEqDiff]
  refine ⟨_, _, F3, ?_⟩
  simp only [cwf_ret, andThen_normal, fnQ_ret, owf_nil, o_p, behind_eq, bo_eq, optQ_some, pop, popQ, ev, putA, look_put, resAll, resA, mkRes1, ite_true, ite_false, Nat.reduceEqDiff, Option.some.injEq, exists_eq_left', true_and]
  have sf := s02.trans s3 (fun _ _ x => x)
  rw [tail_marks h h3 sf.marks]
  exact sf
end
end
end Go.Proofs.Ytedldiimhbebdaa.Ai
