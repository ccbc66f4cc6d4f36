/- An Inner, a record, the whole tree. -/
import Derived.Test.YtedldiimhbebdaaVD
import Derived.Test.YtedldiimhbebdaaTabOk
namespace Go.Proofs.Ytedldiimhbebdaa.Ai
open Go.Proofs.Ytedldiimhbebdaa
noncomputable section
open Go.RowKit
structure HasV4 (tab : Nat → Option AFunc) : Prop where
  v77 : tab 77 = some af77

theorem hasV4 : HasV4 tabT.get := ⟨by kernel_rfl⟩

section
variable {P : Program} {tab : Nat → Option AFunc} (hT : TabOk P tab) (V : HasV tab)
include hT V

theorem inner_rec (H : Has tab) (V2 : HasV2 tab) (V3 : HasV3 tab) {a : Nat} {sz sh ch sm : Int} {ks : List Int} {cs : List Tr} (ih : ∀ t ∈ cs, RecP P t) {h : Heap} {bt bm ut : Nat} {us um : Option Nat} {C : List Int} {z c o r : Int} {T : List Bool} {Sp : List Pr} {bs : Bool} {lo hi : Int} (w : Vw h bt bm ut us um C z c o r T Sp bs) (hok : (Tr.inner a sz sh ch sm ks cs).ok C) (hord : (Tr.inner a sz sh ch sm ks cs).ord lo hi) (hfree : (Tr.inner a sz sh ch sm ks cs).free T) (hC : C.length ≤ 65536) (hTl : T.length = C.length + 1) (hsp : Sp.length + (Tr.inner a sz sh ch sm ks cs).spots.length ≤ 100000) (h1 : -9223372036854775808 ≤ lo) (h2 : hi ≤ 9223372036854775807) :
    FSpec P 136 [.pointer (some ⟨bt, 0, none⟩), I a, I lo, I hi] h fun v h' => v = .bool true ∧ (∃ us', Vw h' bt bm ut us' um C z c o r ((Tr.inner a sz sh ch sm ks cs).marks T) (Sp ++ (Tr.inner a sz sh ch sm ks cs).spots) (bs || (Tr.inner a sz sh ch sm ks cs).busy) ∧ ∀ y, us' = some y → us = some y ∨ h.next ≤ y) ∧ Same h h' (VwS bt ut us) := by
  refine fspec_cwf hT V3.v136 rfl ?_
  obtain ⟨⟨q1, q2, q3, q4⟩, ⟨p0, p1, p2, p3, p4⟩, hsh, hsz, hks, hcs, hoks⟩ := hok
  have hord' : ords lo hi ks cs := hord
  obtain ⟨hf1, hf2⟩ := hfree
  have hsp' : Sp.length + (spotss (a + 4 + cs.length) cs).length ≤ 100000 := hsp
  obtain ⟨d, hd⟩ : ∃ d, d = cs.length := ⟨_, rfl⟩
  rw [← hd] at q2 q3 p0 hf1 hf2 hsp'
  -- the record's own cells
  have F0 : Fact P 58 [.pointer (some ⟨bm, 0, none⟩), I a] h (I d) h := by
    obtain ⟨_, _, F, e, rfl⟩ := at_spec hT V w.mem a (by omega)
    rw [p0] at e; subst e; exact F
  have F2 : Fact P 58 [.pointer (some ⟨bm, 0, none⟩), I ((a + 2 : Nat) : Int)] h (I sh) h := by
    obtain ⟨_, _, F, e, rfl⟩ := at_spec hT V w.mem (a + 2) (by omega)
    rw [p2] at e; subst e; exact F
  obtain ⟨_, h, F4, rfl, rfl⟩ := used_spec hT H w.mem
  have r0 : h.rd bt 0 = some (.pointer (some ⟨bm, 0, none⟩)) := rd_of w.blk
  obtain ⟨_, h5, F5, rfl, w5, s5⟩ := take_spec hT V V2 w q1 (n := 2 * d + 4) (by omega) (by omega) (by omega) hf1
  have m5 := w5.mem
  obtain ⟨_, h5, F6, rfl, rfl⟩ := limit_spec hT V h5 sz hsz.1 hsz.2
  have F7 : Fact P 58 [.pointer (some ⟨bm, 0, none⟩), I ((a + 3 : Nat) : Int)] h5 (I ch) h5 := by
    obtain ⟨_, _, F, e, rfl⟩ := at_spec hT V m5 (a + 3) (by omega)
    rw [p3] at e; subst e; exact F
  have F8 : Fact P 58 [.pointer (some ⟨bm, 0, none⟩), I ((a + 1 : Nat) : Int)] h5 (I sz) h5 := by
    obtain ⟨_, _, F, e, rfl⟩ := at_spec hT V m5 (a + 1) (by omega)
    rw [p1] at e; subst e; exact F
  have wz : wrapF .i64 ((a : Int) + 0) = (a : Int) := by rw [wrapI] <;> omega
  have w1 : wrapF .i64 ((a : Int) + 1) = ((a + 1 : Nat) : Int) := by rw [wrapI] <;> omega
  have w2 : wrapF .i64 ((a : Int) + 2) = ((a + 2 : Nat) : Int) := by rw [wrapI] <;> omega
  have w3 : wrapF .i64 ((a : Int) + 3) = ((a + 3 : Nat) : Int) := by rw [wrapI] <;> omega
  have wd1 : wrapF .i64 (2 * (d : Int)) = ((2 * d : Nat) : Int) := by rw [wrapI] <;> omega
  have wd2 : wrapF .i64 (4 + ((2 * d : Nat) : Int)) = ((2 * d + 4 : Nat) : Int) := by rw [wrapI] <;> omega
  have c1 : ((d : Int) < 2) = False := by simp; omega
  have c2 : ((d : Int) > C.length) = False := by simp; omega
  -- is it busy?
  have fin : ∀ (h6 : Heap) (B1 : Bool) (ts : Ai.T Value), B1 = (bs || (decide (sh = 1) || decide (limN sz ≤ ch))) → Vw h6 bt bm ut us um C z c o r (setR T a (2 * d + 4)) Sp B1 → Same h h6 (VwS bt ut us) → look ts 0 = .pointer (some ⟨bt, 0, none⟩) → look ts 1 = I a → look ts 2 = I lo → look ts 3 = I hi → look ts 9 = .pointer (some ⟨bm, 0, none⟩) → look ts 10 = I d →
      cwf P 128 none rest136_5 ts h6 (fnQ h [.tmp 8] fun v h' => v = .bool true ∧ (∃ us', Vw h' bt bm ut us' um C z c o r ((Tr.inner a sz sh ch sm ks cs).marks T) (Sp ++ (Tr.inner a sz sh ch sm ks cs).spots) (bs || (Tr.inner a sz sh ch sm ks cs).busy) ∧ ∀ y, us' = some y → us = some y ∨ h.next ≤ y) ∧ Same h h' (VwS bt ut us)) := by
    intro h6 B1 ts hB w6 s6 t0 t1 t2 t3 t9 t10
    have := inner_tail hT V H V3 ih (h0 := h) hd w6 q2 q3 q4 hks hcs hoks hord' hf2 hC (by rw [setR_len]; exact hTl) hsp' h1 h2 s6 ts t0 t1 t2 t3 t9 t10
    have e1 : (Tr.inner a sz sh ch sm ks cs).marks T = markss (setR T a (2 * d + 4)) cs := by rw [hd]; rfl
    have e2 : (Tr.inner a sz sh ch sm ks cs).spots = spotss (a + 4 + d) cs := by rw [hd]; rfl
    have e3 : (bs || (Tr.inner a sz sh ch sm ks cs).busy) = (B1 || busys cs) := by
      rw [hB]; simp only [Tr.busy, Bool.or_assoc]
    rw [e1, e2, e3]
    exact this
  have mark : ∃ h6, h5.wrs bt 4 [.bool true] = some h6 ∧ Vw h6 bt bm ut us um C z c o r (setR T a (2 * d + 4)) Sp true ∧ Same h h6 (VwS bt ut us) := by
    have ww : h5.wrs bt 4 [.bool true] = some (h5.setB bt ⟨[.pointer (some ⟨bm, 0, none⟩), .slice (some ⟨ut, 0, none⟩) (setR T a (2 * d + 4)).length (setR T a (2 * d + 4)).length, ownSl us Sp.length, .slice none 0 0, .bool true], 5, 5, true, false⟩) := wrs1_of w5.blk rfl (by simp) rfl
    have sw : Same h5 (h5.setB bt ⟨[.pointer (some ⟨bm, 0, none⟩), .slice (some ⟨ut, 0, none⟩) (setR T a (2 * d + 4)).length (setR T a (2 * d + 4)).length, ownSl us Sp.length, .slice none 0 0, .bool true], 5, 5, true, false⟩) (fun j => j = bt) := Same.setB rfl
    refine ⟨_, ww, ⟨w5.mem.same sw (fun e => w.ne.1 e.symm) (fun y hy => (w.ne.2.2.2.1 y hy).1), ?_, ?_, w5.sp.same sw (fun y hy e => (w.ne.2.2.2.2 y hy).1 e), ⟨Nat.lt_of_lt_of_le w5.lt.1 sw.next, Nat.lt_of_lt_of_le w5.lt.2 sw.next⟩, w.ne⟩, (s5.mono (T := VwS bt ut us) (fun j e => .inr (.inl e))).trans sw (fun j hj e => .inl e)⟩
    · rw [setB_get, if_pos rfl]
    · rw [setB_get, if_neg w.ne.2.2.1]; exact w5.tk
  obtain ⟨h6, ww, w6, s6⟩ := mark
  show cwf P 128 none af136.body _ h (fnQ h [.tmp 8] _)
  rw [cut136_5]
  rcases hsh with rfl | rfl
  · have k0 : ((0 : Int) != 0) = false := rfl
    have k1 : ((0 : Int) == 1) = false := rfl
    by_cases hb : limN sz ≤ ch
    · have cb : (ch ≥ limN sz) = True := by simp; omega
      simp only [pre136_5, cwf_seq, cwf_ops, andThen_normal, owf_nil, o_p, o_r, owf_call, bo_eq, optQ_some, pop, popQ, rop_load1, ldV_ptr, ev, evs, putA, putArgs, look_put, abinF_eq, abin, Nat.add_zero, decide_true, cond_true, ite_true, ite_false, Nat.reduceEqDiff, Nat.reduceAdd, Nat.zero_add, r0, wz]
      refine ⟨_, _, F0, ?_⟩
      simp only [o_p, owf_call, behind_eq, bo_eq, optQ_some, pop, popQ, ev, evs, putA, look_put, abinF_eq, abin, decide_true, cond_true, ite_true, ite_false, Nat.reduceEqDiff, w2]
      refine ⟨_, _, F2, ?_⟩
      simp only [cwf_seq, cwf_ops, andThen_normal, owf_nil, o_p, owf_call, o_on, behind_eq, bo_eq, optQ_some, pop, popQ, ev, evs, putA, look_put, isB_false, abinF_eq, abin, decide_true, decide_false, cond_true, ite_true, ite_false, Bool.not_false, Nat.reduceEqDiff, c1]
      refine ⟨_, _, F4, ?_⟩
      simp only [o_p, owf_call, o_on, behind_eq, bo_eq, optQ_some, pop, popQ, ev, evs, putA, look_put, isB_false, abinF_eq, abin, decide_true, decide_false, cond_true, cond_false, ite_true, ite_false, Bool.not_false, Nat.reduceEqDiff, c2, wd1, wd2]
      refine ⟨_, _, F5, ?_⟩
      simp only [cwf_seq, cwf_ops, c_false, cwf_skip, andThen_normal, owf_nil, o_p, owf_call, o_on, o_off, behind_eq, bo_eq, optQ_some, pop, popQ, ev, evs, putA, look_put, isB_true, isB_false, abinF_eq, abin, decide_true, cond_true, cond_false, ite_true, ite_false, Bool.not_true, Bool.not_false, Nat.reduceEqDiff, k0, k1, w3]
      refine ⟨_, _, F7, ?_⟩
      simp only [o_p, owf_call, o_on, behind_eq, bo_eq, optQ_some, pop, popQ, ev, evs, putA, look_put, isB_false, abinF_eq, abin, decide_true, cond_true, ite_true, ite_false, Bool.not_false, Nat.reduceEqDiff, w1]
      refine ⟨_, _, F8, ?_⟩
      simp only [owf_call, o_on, behind_eq, ev, evs, putA, look_put, isB_false, ite_true, ite_false, Bool.not_false, Nat.reduceEqDiff]
      refine ⟨_, _, F6, ?_⟩
      simp only [cwf_ops, c_true, andThen_normal, owf_nil, o_p, o_e, o_on, behind_eq, bo_eq, optQ_some, opt2_some, pop, popQ, ev, putA, look_put, isB_true, isB_false, abinF_eq, abin, eop_store1, st1, scalar_bool, decide_true, cond_true, cond_false, ite_true, ite_false, Bool.not_false, Nat.reduceEqDiff, Nat.zero_add, cb, ww]
      exact fin h6 true _ (by simp [hb]) w6 s6 (by simp only [look_put, ite_true, ite_false, Nat.reduceEqDiff]) (by simp only [look_put, ite_true, ite_false, Nat.reduceEqDiff]) (by simp only [look_put, ite_true, ite_false, Nat.reduceEqDiff]) (by simp only [look_put, ite_true, ite_false, Nat.reduceEqDiff]) (by simp only [look_put, ite_true, ite_false, Nat.reduceEqDiff]) (by simp only [look_put, ite_true, ite_false, Nat.reduceEqDiff])
    · have cb : (ch ≥ limN sz) = False := by simp; omega
      simp only [pre136_5, cwf_seq, cwf_ops, andThen_normal, owf_nil, o_p, o_r, owf_call, bo_eq, optQ_some, pop, popQ, rop_load1, ldV_ptr, ev, evs, putA, putArgs, look_put, abinF_eq, abin, Nat.add_zero, decide_true, cond_true, ite_true, ite_false, Nat.reduceEqDiff, Nat.reduceAdd, Nat.zero_add, r0, wz]
      refine ⟨_, _, F0, ?_⟩
      simp only [o_p, owf_call, behind_eq, bo_eq, optQ_some, pop, popQ, ev, evs, putA, look_put, abinF_eq, abin, decide_true, cond_true, ite_true, ite_false, Nat.reduceEqDiff, w2]
      refine ⟨_, _, F2, ?_⟩
      simp only [cwf_seq, cwf_ops, andThen_normal, owf_nil, o_p, owf_call, o_on, behind_eq, bo_eq, optQ_some, pop, popQ, ev, evs, putA, look_put, isB_false, abinF_eq, abin, decide_true, decide_false, cond_true, ite_true, ite_false, Bool.not_false, Nat.reduceEqDiff, c1]
      refine ⟨_, _, F4, ?_⟩
      simp only [o_p, owf_call, o_on, behind_eq, bo_eq, optQ_some, pop, popQ, ev, evs, putA, look_put, isB_false, abinF_eq, abin, decide_true, decide_false, cond_true, cond_false, ite_true, ite_false, Bool.not_false, Nat.reduceEqDiff, c2, wd1, wd2]
      refine ⟨_, _, F5, ?_⟩
      simp only [cwf_seq, cwf_ops, c_false, cwf_skip, andThen_normal, owf_nil, o_p, owf_call, o_on, o_off, behind_eq, bo_eq, optQ_some, pop, popQ, ev, evs, putA, look_put, isB_true, isB_false, abinF_eq, abin, decide_true, cond_true, cond_false, ite_true, ite_false, Bool.not_true, Bool.not_false, Nat.reduceEqDiff, k0, k1, w3]
      refine ⟨_, _, F7, ?_⟩
      simp only [o_p, owf_call, o_on, behind_eq, bo_eq, optQ_some, pop, popQ, ev, evs, putA, look_put, isB_false, abinF_eq, abin, decide_true, cond_true, ite_true, ite_false, Bool.not_false, Nat.reduceEqDiff, w1]
      refine ⟨_, _, F8, ?_⟩
      simp only [owf_call, o_on, behind_eq, ev, evs, putA, look_put, isB_false, ite_true, ite_false, Bool.not_false, Nat.reduceEqDiff]
      refine ⟨_, _, F6, ?_⟩
      simp only [c_false, cwf_skip, andThen_normal, owf_nil, o_p, o_on, behind_eq, bo_eq, optQ_some, pop, popQ, ev, putA, look_put, isB_false, abinF_eq, abin, decide_true, decide_false, cond_true, cond_false, ite_true, ite_false, Bool.not_false, Nat.reduceEqDiff, cb]
      exact fin h5 bs _ (by simp [hb]) w5 (s5.mono (fun j e => .inr (.inl e))) (by simp only [look_put, ite_true, ite_false, Nat.reduceEqDiff]) (by simp only [look_put, ite_true, ite_false, Nat.reduceEqDiff]) (by simp only [look_put, ite_true, ite_false, Nat.reduceEqDiff]) (by simp only [look_put, ite_true, ite_false, Nat.reduceEqDiff]) (by simp only [look_put, ite_true, ite_false, Nat.reduceEqDiff]) (by simp only [look_put, ite_true, ite_false, Nat.reduceEqDiff])
  · have k0 : ((1 : Int) != 0) = true := rfl
    have k2 : ((1 : Int) != 1) = false := rfl
    have k1 : ((1 : Int) == 1) = true := rfl
    simp only [pre136_5, cwf_seq, cwf_ops, andThen_normal, owf_nil, o_p, o_r, owf_call, bo_eq, optQ_some, pop, popQ, rop_load1, ldV_ptr, ev, evs, putA, putArgs, look_put, abinF_eq, abin, Nat.add_zero, decide_true, cond_true, ite_true, ite_false, Nat.reduceEqDiff, Nat.reduceAdd, Nat.zero_add, r0, wz]
    refine ⟨_, _, F0, ?_⟩
    simp only [o_p, owf_call, behind_eq, bo_eq, optQ_some, pop, popQ, ev, evs, putA, look_put, abinF_eq, abin, decide_true, cond_true, ite_true, ite_false, Nat.reduceEqDiff, w2]
    refine ⟨_, _, F2, ?_⟩
    simp only [cwf_seq, cwf_ops, andThen_normal, owf_nil, o_p, owf_call, o_on, behind_eq, bo_eq, optQ_some, pop, popQ, ev, evs, putA, look_put, isB_false, abinF_eq, abin, decide_true, decide_false, cond_true, ite_true, ite_false, Bool.not_false, Nat.reduceEqDiff, c1]
    refine ⟨_, _, F4, ?_⟩
    simp only [o_p, owf_call, o_on, behind_eq, bo_eq, optQ_some, pop, popQ, ev, evs, putA, look_put, isB_false, abinF_eq, abin, decide_true, decide_false, cond_true, cond_false, ite_true, ite_false, Bool.not_false, Nat.reduceEqDiff, c2, wd1, wd2]
    refine ⟨_, _, F5, ?_⟩
    simp only [cwf_seq, cwf_ops, c_true, c_false, cwf_skip, andThen_normal, owf_nil, o_p, o_e, o_on, o_off, behind_eq, bo_eq, optQ_some, opt2_some, pop, popQ, ev, putA, look_put, isB_true, isB_false, abinF_eq, abin, eop_store1, st1, scalar_bool, decide_true, cond_true, cond_false, ite_true, ite_false, Bool.not_true, Bool.not_false, Nat.reduceEqDiff, Nat.zero_add, k0, k1, k2, ww]
    exact fin h6 true _ (by simp) w6 s6 (by simp only [look_put, ite_true, ite_false, Nat.reduceEqDiff]) (by simp only [look_put, ite_true, ite_false, Nat.reduceEqDiff]) (by simp only [look_put, ite_true, ite_false, Nat.reduceEqDiff]) (by simp only [look_put, ite_true, ite_false, Nat.reduceEqDiff]) (by simp only [look_put, ite_true, ite_false, Nat.reduceEqDiff]) (by simp only [look_put, ite_true, ite_false, Nat.reduceEqDiff])

theorem record_rec (H : Has tab) (V2 : HasV2 tab) (V3 : HasV3 tab) : ∀ t : Tr, RecP P t := by
  intro t
  induction t using Tr.ind with
  | e a =>
    intro h bt bm ut us um C z c o r T Sp bs lo hi w hok hord hfree hC hTl hsp h1 h2
    refine fspec_cwf hT V3.v127 rfl ?_
    have hok' : 1 ≤ a ∧ a ≤ C.length := hok
    have hf : freeR T a 1 := hfree
    obtain ⟨_, h, F1, rfl, rfl⟩ := refat_spec hT V H h a 1 hok'.1 (by omega) (by omega) (by omega)
    obtain ⟨_, h, F2, rfl, rfl⟩ := kind_spec hT V H h a 1 hok'.1 (by omega) (by omega) (by omega)
    obtain ⟨_, h3, F3, rfl, w3, s3⟩ := take_spec hT V V2 w hok'.1 (n := 1) (by omega) (by omega) (by omega) hf
    have ew : (Tr.empty a).word = (a : Int) * 8 + ((1 : Nat) : Int) := rfl
    have k1 : ((1 : Int) == 1) = true := rfl
    rw [ew]
    simp only [af127, cwf_seq, cwf_ops, andThen_normal, owf_nil, o_p, owf_call, bo_eq, optQ_some, pop, popQ, ev, evs, putA, putArgs, look_put, Int.cast_ofNat_Int, ite_true, ite_false, Nat.reduceEqDiff, Nat.reduceAdd, Nat.zero_add]
    refine ⟨_, _, F1, ?_⟩
    simp only [cwf_seq, cwf_ops, andThen_normal, owf_nil, o_p, owf_call, behind_eq, bo_eq, optQ_some, pop, popQ, ev, evs, putA, look_put, ite_true, ite_false, Nat.reduceEqDiff]
    refine ⟨_, _, F2, ?_⟩
    simp only [cwf_seq, cwf_ops, c_true, cwf_block, andThen_normal, owf_nil, o_p, owf_call, behind_eq, bo_eq, optQ_some, pop, popQ, ev, evs, putA, look_put, isB_true, abinF_eq, abin, Int.cast_ofNat_Int, decide_true, cond_true, ite_true, ite_false, Nat.reduceEqDiff, k1]
    refine ⟨_, _, F3, ?_⟩
    simp only [cwf_ret, andThen_normal, andThen_ret, blockQ_ret, fnQ_ret, owf_nil, o_p, behind_eq, bo_eq, optQ_some, pop, popQ, ev, putA, look_put, resAll, resA, mkRes1, ite_true, ite_false, Nat.reduceEqDiff, Option.some.injEq, exists_eq_left', true_and]
    rw [tail_marks h h3 s3.marks]
    refine ⟨⟨us, ?_, fun y hy => .inl hy⟩, s3.mono (fun j e => .inr (.inl e))⟩
    have e1 : Sp ++ (Tr.empty a).spots = Sp := List.append_nil _
    have e2 : (bs || (Tr.empty a).busy) = bs := Bool.or_false _
    rw [e1, e2]; exact w3
  | l a k v =>
    intro h bt bm ut us um C z c o r T Sp bs lo hi w hok hord hfree hC hTl hsp h1 h2
    refine fspec_cwf hT V3.v127 rfl ?_
    obtain ⟨q1, q2, q3, q4⟩ := hok
    have hf : freeR T a 2 := hfree
    have hord' : lo ≤ k ∧ k ≤ hi := hord
    obtain ⟨_, h, F1, rfl, rfl⟩ := refat_spec hT V H h a 2 q1 (by omega) (by omega) (by omega)
    obtain ⟨_, h, F2, rfl, rfl⟩ := kind_spec hT V H h a 2 q1 (by omega) (by omega) (by omega)
    have F4 : Fact P 58 [.pointer (some ⟨bm, 0, none⟩), I a] h (I k) h := by
      obtain ⟨_, _, F, e, rfl⟩ := at_spec hT V w.mem a (by omega)
      rw [q3] at e; subst e; exact F
    obtain ⟨_, h3, F3, rfl, w3, s3⟩ := take_spec hT V V2 w q1 (n := 2) (by omega) (by omega) (by omega) hf
    have r0 : h.rd bt 0 = some (.pointer (some ⟨bm, 0, none⟩)) := rd_of w.blk
    have wz : wrapF .i64 ((a : Int) + 0) = (a : Int) := by rw [wrapI] <;> omega
    have ew : (Tr.leaf a k v).word = (a : Int) * 8 + ((2 : Nat) : Int) := rfl
    have k1 : ((2 : Int) == 1) = false := rfl
    have k2 : ((2 : Int) == 2) = true := rfl
    have cl : (k ≥ lo) = True := by simp; omega
    have ch : (k ≤ hi) = True := by simp; omega
    rw [ew]
    simp only [af127, cwf_seq, cwf_ops, andThen_normal, owf_nil, o_p, owf_call, bo_eq, optQ_some, pop, popQ, ev, evs, putA, putArgs, look_put, Int.cast_ofNat_Int, ite_true, ite_false, Nat.reduceEqDiff, Nat.reduceAdd, Nat.zero_add]
    refine ⟨_, _, F1, ?_⟩
    simp only [cwf_seq, cwf_ops, andThen_normal, owf_nil, o_p, owf_call, behind_eq, bo_eq, optQ_some, pop, popQ, ev, evs, putA, look_put, ite_true, ite_false, Nat.reduceEqDiff]
    refine ⟨_, _, F2, ?_⟩
    simp only [cwf_seq, cwf_ops, c_true, c_false, cwf_block, andThen_normal, owf_nil, o_p, o_r, owf_call, behind_eq, bo_eq, optQ_some, pop, popQ, rop_load1, ldV_ptr, ev, evs, putA, look_put, isB_true, isB_false, abinF_eq, abin, Nat.add_zero, Int.cast_ofNat_Int, decide_true, cond_true, ite_true, ite_false, Bool.not_false, Nat.reduceEqDiff, k1, k2, r0, wz]
    refine ⟨_, _, F4, ?_⟩
    simp only [cwf_seq, cwf_ops, andThen_normal, owf_nil, o_p, owf_call, behind_eq, bo_eq, optQ_some, pop, popQ, ev, evs, putA, look_put, ite_true, ite_false, Nat.reduceEqDiff]
    refine ⟨_, _, F3, ?_⟩
    simp only [cwf_ret, andThen_normal, andThen_ret, blockQ_ret, fnQ_ret, owf_nil, o_p, o_on, behind_eq, bo_eq, optQ_some, pop, popQ, ev, putA, look_put, isB_true, abinF_eq, abin, resAll, resA, mkRes1, decide_true, cond_true, ite_true, ite_false, Nat.reduceEqDiff, Option.some.injEq, exists_eq_left', true_and, cl, ch]
    rw [tail_marks h h3 s3.marks]
    refine ⟨⟨us, ?_, fun y hy => .inl hy⟩, s3.mono (fun j e => .inr (.inl e))⟩
    have e1 : Sp ++ (Tr.leaf a k v).spots = Sp := List.append_nil _
    have e2 : (bs || (Tr.leaf a k v).busy) = bs := Bool.or_false _
    rw [e1, e2]; exact w3
  | i a sz sh ch sm ks cs ih =>
    intro h bt bm ut us um C z c o r T Sp bs lo hi w hok hord hfree hC hTl hsp h1 h2
    refine fspec_cwf hT V3.v127 rfl ?_
    have q1 : 1 ≤ a := hok.1.1
    have q2 : a + (2 * cs.length + 4) ≤ C.length + 1 := hok.1.2.1
    obtain ⟨_, h, F1, rfl, rfl⟩ := refat_spec hT V H h a 3 q1 (by omega) (by omega) (by omega)
    obtain ⟨_, h, F2, rfl, rfl⟩ := kind_spec hT V H h a 3 q1 (by omega) (by omega) (by omega)
    obtain ⟨_, h3, F3, rfl, hw3, s3⟩ := inner_rec hT V H V2 V3 ih w hok hord hfree hC hTl hsp h1 h2
    have ew : (Tr.inner a sz sh ch sm ks cs).word = (a : Int) * 8 + ((3 : Nat) : Int) := rfl
    have k1 : ((3 : Int) == 1) = false := rfl
    have k2 : ((3 : Int) == 2) = false := rfl
    have k3 : ((3 : Int) == 3) = true := rfl
    rw [ew]
    simp only [af127, cwf_seq, cwf_ops, andThen_normal, owf_nil, o_p, owf_call, bo_eq, optQ_some, pop, popQ, ev, evs, putA, putArgs, look_put, Int.cast_ofNat_Int, ite_true, ite_false, Nat.reduceEqDiff, Nat.reduceAdd, Nat.zero_add]
    refine ⟨_, _, F1, ?_⟩
    simp only [cwf_seq, cwf_ops, andThen_normal, owf_nil, o_p, owf_call, behind_eq, bo_eq, optQ_some, pop, popQ, ev, evs, putA, look_put, ite_true, ite_false, Nat.reduceEqDiff]
    refine ⟨_, _, F2, ?_⟩
    simp only [cwf_seq, cwf_ops, c_true, c_false, cwf_block, andThen_normal, owf_nil, o_p, owf_call, behind_eq, bo_eq, optQ_some, pop, popQ, ev, evs, putA, look_put, isB_true, isB_false, abinF_eq, abin, Int.cast_ofNat_Int, decide_true, cond_true, ite_true, ite_false, Bool.not_false, Nat.reduceEqDiff, k1, k2, k3]
    refine ⟨_, _, F3, ?_⟩
    simp only [cwf_ret, andThen_normal, andThen_ret, blockQ_ret, fnQ_ret, owf_nil, o_p, behind_eq, bo_eq, optQ_some, pop, popQ, ev, putA, look_put, resAll, resA, mkRes1, ite_true, ite_false, Nat.reduceEqDiff, Option.some.injEq, exists_eq_left', true_and]
    rw [tail_marks h h3 s3.marks]
    exact ⟨hw3, s3⟩

/-- the base, taken -/
def base0 (n : Nat) : List Bool := setR (List.replicate (n + 1) false) 1 6

/-- a memory whose Root leads to a tree -/
structure Rooted (C : List Int) (t : Tr) : Prop where
  len : 7 ≤ C.length ∧ C.length ≤ 65536
  base : at0 C 1 = 1 ∧ at0 C 3 = 0
  root : at0 C 6 = t.word
  ok : t.ok C
  ord : t.ord (-9223372036854775808) 9223372036854775807
  free : t.free (base0 C.length)
  few : t.spots.length < 90000

theorem survey_spec (H : Has tab) (V2 : HasV2 tab) (V3 : HasV3 tab) (V4 : HasV4 tab) {h : Heap} {bm : Nat} {um : Option Nat} {C : List Int} {z c o r : Int} {t : Tr} (m : MemAt h bm um C z c o r) (R : Rooted C t) :
    FSpec P 77 [.pointer (some ⟨bm, 0, none⟩)] h fun v h' => ∃ bt ut us, v = .tuple #[.pointer (some ⟨bt, 0, none⟩), .bool true] ∧ Vw h' bt bm ut us um C z c o r (t.marks (base0 C.length)) (((6 : Int), t.word) :: t.spots) t.busy ∧ h.next ≤ bt ∧ Same h h' (fun _ => False) := by
  refine fspec_cwf hT V4.v77 rfl ?_
  obtain ⟨_, h, F1, rfl, rfl⟩ := used_spec hT H m
  have hl := R.len
  have hbm := m.lt
  have huml := fun y hy => (m.use y hy).2.2.1
  have wl : wrapF .i64 ((C.length : Int) + 1) = ((C.length + 1 : Nat) : Int) := by rw [wrapI] <;> omega
  have mk := mkS_ok (h := h) (s := 1) (bytes := 1) (n := C.length + 1) (zero := [.bool false]) (by omega) (by omega)
  have erep : rep [Value.bool false] (C.length + 1) = (List.replicate (C.length + 1) false).map .bool := by
    generalize C.length + 1 = n
    induction n with
    | zero => rfl
    | succ n ih => rw [rep, ih]; rfl
  rw [erep] at mk
  have s1 : Same h (h.new ⟨(List.replicate (C.length + 1) false).map .bool, (C.length + 1) * 1, 1, true, false⟩) (fun _ => False) := Same.new
  have x1 : (h.new ⟨(List.replicate (C.length + 1) false).map .bool, (C.length + 1) * 1, 1, true, false⟩).next = h.next + 1 := rfl
  have g1 : (h.new ⟨(List.replicate (C.length + 1) false).map .bool, (C.length + 1) * 1, 1, true, false⟩).blks.get h.next = some ⟨(List.replicate (C.length + 1) false).map .bool, (C.length + 1) * 1, 1, true, false⟩ := by rw [new_get, if_pos rfl]
  generalize hh1 : h.new ⟨(List.replicate (C.length + 1) false).map .bool, (C.length + 1) * 1, 1, true, false⟩ = h1 at mk s1 x1 g1
  have s2 : Same h1 (h1.new ⟨[.pointer (some ⟨bm, 0, none⟩), .slice (some ⟨h.next, 0, none⟩) (C.length + 1) (C.length + 1), .slice none 0 0, .slice none 0 0, .bool false], 5, 5, true, false⟩) (fun _ => False) := Same.new
  have g2 : (h1.new ⟨[.pointer (some ⟨bm, 0, none⟩), .slice (some ⟨h.next, 0, none⟩) (C.length + 1) (C.length + 1), .slice none 0 0, .slice none 0 0, .bool false], 5, 5, true, false⟩).blks.get h1.next = some ⟨[.pointer (some ⟨bm, 0, none⟩), .slice (some ⟨h.next, 0, none⟩) (C.length + 1) (C.length + 1), .slice none 0 0, .slice none 0 0, .bool false], 5, 5, true, false⟩ := by rw [new_get, if_pos rfl]
  have x2 : (h1.new ⟨[.pointer (some ⟨bm, 0, none⟩), .slice (some ⟨h.next, 0, none⟩) (C.length + 1) (C.length + 1), .slice none 0 0, .slice none 0 0, .bool false], 5, 5, true, false⟩).next = h1.next + 1 := rfl
  generalize hh2 : h1.new ⟨[.pointer (some ⟨bm, 0, none⟩), .slice (some ⟨h.next, 0, none⟩) (C.length + 1) (C.length + 1), .slice none 0 0, .slice none 0 0, .bool false], 5, 5, true, false⟩ = h2 at s2 g2 x2
  have w2 : Vw h2 h1.next bm h.next none um C z c o r (List.replicate (C.length + 1) false) [] false := by
    refine ⟨(m.same s1 (fun x => x) (fun _ _ x => x)).same s2 (fun x => x) (fun _ _ x => x), ?_, ?_, OwnAt.nil _ _, ⟨by omega, by omega⟩, by omega, by omega, by omega, fun y hy => ?_, fun y hy => by cases hy⟩
    · rw [g2]; simp
    · rw [s2.get h.next (by omega) (fun x => x), g1]; simp
    · have := huml y hy; omega
  obtain ⟨_, h3, F3, rfl, w3, s3⟩ := take_spec hT V V2 w2 (a := 1) (n := 6) (by omega) (by omega) (by simp; omega) (by simp; omega) (fun i h1 h2 => by rw [List.getElem?_replicate, if_pos (by omega)])
  have F4 : Fact P 58 [.pointer (some ⟨bm, 0, none⟩), I 1] h3 (I 1) h3 := by
    obtain ⟨_, _, F, e, rfl⟩ := at_spec hT V w3.mem 1 (by omega)
    rw [R.base.1] at e; subst e; exact F
  have F5 : Fact P 58 [.pointer (some ⟨bm, 0, none⟩), I 3] h3 (I 0) h3 := by
    obtain ⟨_, _, F, e, rfl⟩ := at_spec hT V w3.mem 3 (by omega)
    rw [R.base.2] at e; subst e; exact F
  obtain ⟨_, h6, F6, rfl, ⟨us, w6, n6⟩, s6⟩ := slot_spec hT V H V3 (record_rec hT V H V2 V3 t) w3 R.ok R.ord R.free hl.2 (by rw [setR_len]; simp) (s := 6) (by omega) R.root (by have := R.few; simp; omega) (by omega) (by omega)
  have c1 : ((1 : Int) != 1) = false := rfl
  have c0 : ((0 : Int) != 0) = false := rfl
  simp only [af77, cwf_seq, cwf_ops, andThen_normal, owf_nil, o_p, owf_call, bo_eq, optQ_some, pop, popQ, ev, evs, putA, putArgs, look_put, Int.reduceNeg, ite_true, ite_false, Nat.reduceEqDiff]
  refine ⟨_, _, F1, ?_⟩
  simp only [cwf_seq, cwf_ops, andThen_normal, owf_nil, o_p, o_e, owf_call, behind_eq, bo_eq, optQ_some, opt2_some, pop, popQ, ev, evs, putA, look_put, abinF_eq, abin, eop_box, boxV5, evP_nil, evP_cons, fillA_nil, fillA_one, List.length_cons, List.length_nil, List.set_cons_zero, List.set_cons_succ, Nat.reduceLT, Int.reduceNeg, scalar_slice, scalar_ptr, decide_true, cond_true, ite_true, ite_false, Nat.reduceEqDiff, Nat.reduceAdd, Nat.zero_add, wl, eop_mkS, mk, hh2]
  refine ⟨_, _, F3, ?_⟩
  simp only [o_p, owf_call, o_on, behind_eq, bo_eq, optQ_some, pop, popQ, ev, evs, putA, look_put, isB_false, Int.reduceNeg, ite_true, ite_false, Bool.not_true, Bool.not_false, Nat.reduceEqDiff]
  refine ⟨_, _, F4, ?_⟩
  simp only [o_p, owf_call, o_on, behind_eq, bo_eq, optQ_some, pop, popQ, ev, evs, putA, look_put, isB_false, abinF_eq, abin, Int.reduceNeg, decide_true, cond_true, cond_false, ite_true, ite_false, Bool.not_false, Nat.reduceEqDiff, c1]
  refine ⟨_, _, F5, ?_⟩
  simp only [cwf_seq, cwf_ops, c_false, cwf_skip, andThen_normal, owf_nil, o_p, owf_call, o_on, behind_eq, bo_eq, optQ_some, pop, popQ, ev, evs, putA, look_put, isB_false, abinF_eq, abin, Int.reduceNeg, decide_true, cond_true, cond_false, ite_true, ite_false, Bool.not_false, Nat.reduceEqDiff, c0]
  refine ⟨_, _, F6, ?_⟩
  simp only [cwf_seq, cwf_ops, cwf_ret, c_false, cwf_skip, andThen_normal, fnQ_ret, owf_nil, o_p, behind_eq, bo_eq, optQ_some, pop, popQ, ev, putA, look_put, isB_false, resAll, resA, mkRes2, ite_true, ite_false, Bool.not_true, Bool.not_false, Nat.reduceEqDiff, Option.some.injEq, exists_eq_left']
  have sf : Same h h6 (fun _ => False) := ((s1.trans s2 (fun _ _ x => x)).trans s3 (fun j hj e => by omega)).trans s6 (fun j hj e => by
    have := s3.next
    rcases e with e | e | e
    · omega
    · omega
    · cases e)
  rw [tail_marks h h6 sf.marks]
  refine ⟨h1.next, h.next, us, rfl, ?_, by omega, sf⟩
  exact w6
end
end
end Go.Proofs.Ytedldiimhbebdaa.Ai
