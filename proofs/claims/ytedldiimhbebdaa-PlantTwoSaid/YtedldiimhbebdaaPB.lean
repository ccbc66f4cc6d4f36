/- What made, InnerWords, lay come to. -/
import Derived.Test.YtedldiimhbebdaaPA
namespace Go.Proofs.Ytedldiimhbebdaa.Ai
open Go.Proofs.Ytedldiimhbebdaa
noncomputable section
open Go.RowKit
section
variable {P : Program} {tab : Nat → Option AFunc} (hT : TabOk P tab) (H : Has tab)
include hT H

theorem made_spec {h : Heap} {b : Nat} {u : Option Nat} {C : List Int} {z c o r k : Int} (m : MemAt h b u C z c o r) {x p cap : Nat} {ws : List Int} (hw : RdAt h x p 1 ws.length cap (ws.map I)) (hx : x ≠ b) (n0 : ws ≠ []) (hn : (C.length : Int) + ws.length ≤ z) (hz : z ≤ 65536) (hc : 0 ≤ c ∧ c < 1000000000) (k1 : k ≥ 1) (k2 : k ≤ 5) :
    FSpec P 97 [.pointer (some ⟨b, 0, none⟩), I k, .slice (some ⟨x, p, none⟩) ws.length cap] h fun v h' => v = I (((C.length : Int) + 1) * 8 + k) ∧ (∃ u', MemAt h' b u' (C ++ ws) z (c + 1) o r ∧ (∀ x, u' = some x → u = some x ∨ h.next ≤ x)) ∧ Same h h' (fun j => j = b ∨ u = some j) := by
  refine fspec_cwf hT H.f97 rfl ?_
  obtain ⟨v, h1, F, rfl, hm, hs⟩ := make_ok hT H m hw hx n0 hn hz hc
  have hpos : 0 < ws.length := List.length_pos_iff.2 n0
  obtain ⟨v2, h2, F2, rfl, rfl⟩ := of_spec hT H k ((C.length : Int) + 1) h1 k1 k2 (by omega) (by omega)
  simp only [af97, cwf_seq, cwf_ops, andThen_normal, owf_nil, o_p, owf_call, bo_eq, optQ_some, pop, popQ, ev, evs, putA, putArgs, look_put, ite_true, ite_false, Nat.reduceEqDiff, Nat.reduceAdd, Nat.zero_add]
  refine ⟨_, _, F, ?_⟩
  simp only [cwf_seq, cwf_ops, andThen_normal, owf_nil, o_p, owf_call, behind_eq, bo_eq, optQ_some, pop, popQ, ev, evs, putA, look_put, ite_true, ite_false, Nat.reduceEqDiff, List.getElem?_cons_zero, List.getElem?_cons_succ]
  refine ⟨_, _, F2, ?_⟩
  simp only [cwf_ret, andThen_normal, fnQ_ret, owf_nil, o_p, behind_eq, bo_eq, optQ_some, pop, popQ, ev, putA, look_put, resAll, resA, mkRes1, ite_true, ite_false, Nat.reduceEqDiff, Option.some.injEq, exists_eq_left', true_and]
  rw [tail_marks h h2 hs.marks]
  exact ⟨hm, hs⟩

theorem grow_spec (h : Heap) {n : Nat} (n0 : 0 < n) (hn : n < 1000000) : FSpec P 124 [.slice none 0 0, I n] h fun v h' => v = .slice (some ⟨h.next, 0, none⟩) 0 n ∧ h' = h.new ⟨rep [I 0] n, n, 1, true, true⟩ := by
  refine fspec_cwf hT H.f124 rfl ?_
  have c1 : ((n : Int) < 0) = False := by simp
  have c2 : ((n : Int) > 0) = True := by simp; omega
  have w1 : wrapF .i64 (n : Int) = n := by rw [wrapI] <;> omega
  have hrep : (rep [I 0] n).all scalar = true := by rw [rep_int]; simp [scalar]
  have a1 := appZ_nil (h := h) (s := 1) (bytes := 8) (zero := [I 0]) n0 (by omega) (by omega) (Nat.le_refl _) hrep
  have r1 : RdAt (h.new ⟨rep [I 0] n, n, 1, true, true⟩) h.next 0 1 n n (rep [I 0] n) := by
    have := RdAt.fresh h (rep [I 0] n) n 1 true true (by rw [rep_int]; simp)
    rwa [Nat.mul_one] at this
  have r2 : _ = _ := r1.to (hi := 0) (Nat.zero_le _) (by omega)
  rw [Int.natCast_zero] at r2
  rw [Nat.mul_one] at a1
  simp only [af124, cwf_seq, cwf_ops, cwf_ret, c_true, c_false, cwf_skip, andThen_normal, fnQ_ret, owf_nil, o_p, o_r, o_e, behind_eq, bo_eq, optQ_some, opt2_some, pop, popQ, rop_slice, rop_cap, capV_nil, slV_nil_to, eop_appZ, ev, evO, putA, putArgs, look_put, isB_true, isB_false, abinF_eq, abin, resAll, resA, mkRes1, Int.cast_ofNat_Int, Int.sub_zero, wrapF_zero, decide_true, decide_false, cond_true, cond_false, ite_true, ite_false, Bool.not_false, Nat.reduceEqDiff, Nat.zero_add, Option.some.injEq, exists_eq_left', true_and, c1, c2, w1, a1, r2]
  rfl
theorem concat_spec {h : Heap} {y : Nat} {A B C : List Int} {xa oa ca xb ob cb xc oc cc : Nat} (hy : RdAt h y 0 1 3 3 [.slice (some ⟨xa, oa, none⟩) A.length ca, .slice (some ⟨xb, ob, none⟩) B.length cb, .slice (some ⟨xc, oc, none⟩) C.length cc])
    (ha : RdAt h xa oa 1 A.length ca (A.map I)) (hb : RdAt h xb ob 1 B.length cb (B.map I)) (hc : RdAt h xc oc 1 C.length cc (C.map I)) (a0 : A ≠ []) (b0 : B ≠ []) (c0 : C ≠ []) (hl : A.length + B.length + C.length < 100000) :
    FSpec P 106 [.slice (some ⟨y, 0, none⟩) 3 3] h fun v h' => v = .slice (some ⟨h.next, 0, none⟩) (A ++ B ++ C).length (A ++ B ++ C).length ∧ RdAt h' h.next 0 1 (A ++ B ++ C).length (A ++ B ++ C).length ((A ++ B ++ C).map I) ∧ Same h h' (fun _ => False) := by
  refine fspec_cwf hT H.f106 rfl ?_
  have y0 : h.rd y 0 = _ := hy.rd (i := 0) (by omega)
  have y1 : h.rd y 1 = _ := hy.rd (i := 1) (by omega)
  have y2 : h.rd y 2 = _ := hy.rd (i := 2) (by omega)
  have pa := List.length_pos_iff.2 a0
  have pb := List.length_pos_iff.2 b0
  have pc := List.length_pos_iff.2 c0
  have w1 : wrapF .i64 (0 + (A.length : Int)) = A.length := by rw [wrapI] <;> omega
  have w2 : wrapF .i64 ((A.length : Int) + B.length) = ((A.length + B.length : Nat) : Int) := by rw [wrapI] <;> omega
  have w3 : wrapF .i64 (((A.length + B.length : Nat) : Int) + C.length) = ((A.length + B.length + C.length : Nat) : Int) := by rw [wrapI] <;> omega
  have w4 : wrapF .i64 1 = 1 := by decide
  have w5 : wrapF .i64 2 = 2 := by decide
  have w6 : wrapF .i64 3 = 3 := by decide
  have n1 : ((A.length : Int) < 0) = False := by simp
  have n2 : (((A.length + B.length : Nat) : Int) < 0) = False := by simp; omega
  have n3 : (((A.length + B.length + C.length : Nat) : Int) < 0) = False := by simp; omega
  obtain ⟨v, h1, F, rfl, rfl⟩ := grow_spec hT H h (n := A.length + B.length + C.length) (by omega) (by omega)
  simp only [af106, cwf_seq, cwf_ops, cwf_block, cwf_loop, andThen_normal, owf_nil, o_p, bo_eq, optQ_some, pop, popQ, ev, putA, putArgs, look_put, Int.cast_ofNat_Int, cond_false, ite_true, ite_false, Nat.reduceEqDiff]
  refine cw_lw (lw_step ?_)
  simp only [cwf_seq, cwf_ops, c_true, c_false, cwf_skip, cwf_block, andThen_normal, blockQ_normal, lwQ_normal, owf_nil, o_p, o_r, bo_eq, optQ_some, pop, popQ, rop_load1, ldV_ptr, ev, putA, look_put, isB_true, isB_false, abinF_eq, abin, Int.reduceLT, Int.reduceLE, Int.reduceToNat, Nat.mul_one, Nat.add_zero, Int.reduceAdd, Int.cast_ofNat_Int, inB_eq, decide_true, decide_false, cond_true, cond_false, ite_true, ite_false, Bool.and_true, Bool.not_false, Nat.reduceEqDiff, List.getElem?_cons_zero, y0, w1, w4, n1]
  refine lw_step ?_
  simp only [cwf_seq, cwf_ops, c_true, c_false, cwf_skip, cwf_block, andThen_normal, blockQ_normal, lwQ_normal, owf_nil, o_p, o_r, bo_eq, optQ_some, pop, popQ, rop_load1, ldV_ptr, ev, putA, look_put, isB_true, isB_false, abinF_eq, abin, Int.reduceLT, Int.reduceLE, Int.reduceToNat, Nat.mul_one, Int.reduceAdd, Int.cast_ofNat_Int, inB_eq, decide_true, decide_false, cond_true, cond_false, ite_true, ite_false, Bool.and_true, Bool.not_false, Nat.reduceEqDiff, Nat.zero_add, List.getElem?_cons_zero, List.getElem?_cons_succ, y1, w2, w5, n2]
  refine lw_step ?_
  simp only [cwf_seq, cwf_ops, c_true, c_false, cwf_skip, cwf_block, andThen_normal, blockQ_normal, lwQ_normal, owf_nil, o_p, o_r, bo_eq, optQ_some, pop, popQ, rop_load1, ldV_ptr, ev, putA, look_put, isB_true, isB_false, abinF_eq, abin, Int.reduceLT, Int.reduceLE, Int.reduceToNat, Nat.mul_one, Int.reduceAdd, Int.cast_ofNat_Int, inB_eq, decide_true, decide_false, cond_true, cond_false, ite_true, ite_false, Bool.and_true, Bool.not_false, Nat.reduceEqDiff, Nat.zero_add, List.getElem?_cons_zero, List.getElem?_cons_succ, y2, w3, w6, n3]
  refine lw_step ?_
  simp only [cwf_seq, cwf_ops, c_false, cwf_exit, andThen_normal, andThen_exit, blockQ_exit, lwQ_exit, owf_nil, o_p, owf_call, bo_eq, optQ_some, pop, popQ, ev, evs, putA, look_put, isB_false, abinF_eq, abin, Int.reduceLT, decide_true, decide_false, cond_true, ite_true, ite_false, Bool.not_false, Nat.reduceEqDiff]
  refine ⟨_, _, F, ?_⟩
  simp only [cwf_seq, cwf_ops, cwf_block, cwf_loop, andThen_normal, owf_nil, o_p, behind_eq, bo_eq, optQ_some, pop, popQ, ev, putA, look_put, Int.cast_ofNat_Int, cond_false, ite_true, ite_false, Nat.reduceEqDiff]
  -- the second time through: each behind what is there
  have e0 : (h.new ⟨rep [I 0] (A.length + B.length + C.length), A.length + B.length + C.length, 1, true, true⟩).blks.get h.next = some ⟨[] ++ rep [I 0] (A.length + B.length + C.length), A.length + B.length + C.length, 1, true, true⟩ := by rw [new_get]; exact if_pos rfl
  have lr : (rep [I 0] (A.length + B.length + C.length)).length = A.length + B.length + C.length := by rw [rep_int]; simp
  have s0 : Same h (h.new ⟨rep [I 0] (A.length + B.length + C.length), A.length + B.length + C.length, 1, true, true⟩) (fun _ => False) := Same.new
  have nx : ∀ j, j < h.next → j = h.next → False := fun j h1 h2 => by omega
  obtain ⟨k1, i1, e1, t1⟩ := app_in' (bytes := 8) (n := 0) (cap := A.length + B.length + C.length) e0 (by simp) ((ha.same s0 (fun x => x)).src) (by simp) (by simp [lr]; try omega) (by simp [scalar]) (Nat.le_refl _) (by omega) (by omega) (by omega) (by omega)
  have s1 : Same h k1 (fun _ => False) := s0.trans t1 nx
  obtain ⟨k2, i2, e2, t2⟩ := app_in' (bytes := 8) (n := 0 + A.length) (cap := A.length + B.length + C.length) e1 (by simp) ((hb.same s1 (fun x => x)).src) (by simp) (by simp [lr]; try omega) (by simp [scalar]) (Nat.le_refl _) (by omega) (by omega) (by omega) (by omega)
  have s2 : Same h k2 (fun _ => False) := s1.trans t2 nx
  obtain ⟨k3, i3, e3, t3⟩ := app_in' (bytes := 8) (n := 0 + A.length + B.length) (cap := A.length + B.length + C.length) e2 (by simp) ((hc.same s2 (fun x => x)).src) (by simp) (by simp [lr]; try omega) (by simp [scalar]) (Nat.le_refl _) (by omega) (by omega) (by omega) (by omega)
  have s3 : Same h k3 (fun _ => False) := s2.trans t3 nx
  have z0 : (h.new ⟨rep [I 0] (A.length + B.length + C.length), A.length + B.length + C.length, 1, true, true⟩).rd y 0 = _ := (hy.same s0 (fun x => x)).rd (i := 0) (by omega)
  have z1 : k1.rd y 1 = _ := (hy.same s1 (fun x => x)).rd (i := 1) (by omega)
  have z2 : k2.rd y 2 = _ := (hy.same s2 (fun x => x)).rd (i := 2) (by omega)
  simp only [Nat.zero_add] at i1 i2 i3
  refine cw_lw (lw_step ?_)
  simp only [cwf_seq, cwf_ops, c_true, cwf_skip, cwf_block, andThen_normal, blockQ_normal, lwQ_normal, owf_nil, o_p, o_r, o_e, behind_eq, bo_eq, optQ_some, opt2_some, pop, popQ, rop_load1, ldV_ptr, ev, putA, look_put, isB_true, abinF_eq, abin, eop_app, Int.reduceLT, Int.reduceLE, Int.reduceToNat, Nat.mul_one, Nat.add_zero, Int.reduceAdd, Int.cast_ofNat_Int, inB_eq, decide_true, cond_true, ite_true, ite_false, Bool.and_true, Nat.reduceEqDiff, List.getElem?_cons_zero, z0, i1, w4]
  refine lw_step ?_
  simp only [cwf_seq, cwf_ops, c_true, cwf_skip, cwf_block, andThen_normal, blockQ_normal, lwQ_normal, owf_nil, o_p, o_r, o_e, behind_eq, bo_eq, optQ_some, opt2_some, pop, popQ, rop_load1, ldV_ptr, ev, putA, look_put, isB_true, abinF_eq, abin, eop_app, Int.reduceLT, Int.reduceLE, Int.reduceToNat, Nat.mul_one, Int.reduceAdd, Int.cast_ofNat_Int, inB_eq, decide_true, cond_true, ite_true, ite_false, Bool.and_true, Nat.reduceEqDiff, Nat.zero_add, List.getElem?_cons_zero, List.getElem?_cons_succ, z1, i2, w5]
  refine lw_step ?_
  simp only [cwf_seq, cwf_ops, c_true, cwf_skip, cwf_block, andThen_normal, blockQ_normal, lwQ_normal, owf_nil, o_p, o_r, o_e, behind_eq, bo_eq, optQ_some, opt2_some, pop, popQ, rop_load1, ldV_ptr, ev, putA, look_put, isB_true, abinF_eq, abin, eop_app, Int.reduceLT, Int.reduceLE, Int.reduceToNat, Nat.mul_one, Int.reduceAdd, Int.cast_ofNat_Int, inB_eq, decide_true, cond_true, ite_true, ite_false, Bool.and_true, Nat.reduceEqDiff, Nat.zero_add, List.getElem?_cons_zero, List.getElem?_cons_succ, z2, i3, w6]
  refine lw_step ?_
  simp only [cwf_seq, cwf_ops, cwf_ret, c_false, cwf_exit, andThen_normal, andThen_exit, blockQ_exit, lwQ_exit, fnQ_ret, owf_nil, o_p, bo_eq, optQ_some, pop, popQ, ev, putA, look_put, isB_false, abinF_eq, abin, resAll, resA, mkRes1, Int.reduceLT, decide_true, decide_false, cond_true, ite_true, ite_false, Bool.not_false, Nat.reduceEqDiff, Option.some.injEq, exists_eq_left']
  have hL : (A ++ B ++ C).length = A.length + B.length + C.length := by simp; omega
  rw [tail_marks h k3 s3.marks, hL]
  refine ⟨rfl, ⟨⟨_, e3, rfl, ?_, ?_⟩, Nat.le_refl _, ?_⟩, s3⟩
  · rw [List.drop_zero, List.take_append_of_le_length (by simp; omega)]
    simp only [List.nil_append, List.map_append]
    rw [List.take_of_length_le (by simp; omega)]
  · simp; omega
  · have := t1.next; have := t2.next; have := t3.next
    rw [new_next] at *
    omega

theorem inner_spec {h : Heap} {n : Int} {uk uc : Nat} {K W : List Int} (hk : OwnAt h (some uk) 1 K.length (K.map I)) (hw : OwnAt h (some uc) 1 W.length (W.map I)) (k0 : K ≠ []) (hl : W.length = K.length + 1) (hb : W.length < 1000) :
    FSpec P 72 [I n, ownSl (some uk) K.length, ownSl (some uc) W.length] h fun v h' => ∃ x, h.next ≤ x ∧ v = .slice (some ⟨x, 0, none⟩) ([(W.length : Int), n, 0, 0, 0] ++ K ++ W).length ([(W.length : Int), n, 0, 0, 0] ++ K ++ W).length ∧ RdAt h' x 0 1 ([(W.length : Int), n, 0, 0, 0] ++ K ++ W).length ([(W.length : Int), n, 0, 0, 0] ++ K ++ W).length (([(W.length : Int), n, 0, 0, 0] ++ K ++ W).map I) ∧ Same h h' (fun _ => False) := by
  refine fspec_cwf hT H.f72 rfl ?_
  have w1 : wrapF .i64 ((K.length : Int) + 1) = W.length := by rw [hl, wrapI] <;> omega
  have c1 : ((W.length : Int) != W.length) = false := by simp
  have w0 : W ≠ [] := fun e => by rw [e] at hl; simp at hl
  simp only [af72, cwf_seq, cwf_ops, c_false, cwf_skip, andThen_normal, owf_nil, o_p, o_e, owf_call, behind_eq, bo_eq, optQ_some, opt2_some, pop, popQ, ev, evs, putA, putArgs, look_put, isB_false, abinF_eq, abin, eop_buildS, bldS_some, evP_nil, evP_cons, fillA_nil, fillA_one, List.length_cons, List.length_nil, List.set_cons_zero, List.set_cons_succ, Nat.reduceLT, Nat.lt_add_one, Nat.mul_one, scalar_slice, scalar_int, decide_true, cond_true, cond_false, ite_true, ite_false, Bool.not_false, Nat.reduceEqDiff, Nat.reduceAdd, Nat.zero_add, w1, c1]
  have r5 : RdAt (h.new ⟨[I W.length, I n, I 0, I 0, I 0], 5, 1, true, false⟩) h.next 0 1 5 5 [I W.length, I n, I 0, I 0, I 0] := RdAt.fresh h [I W.length, I n, I 0, I 0, I 0] 5 1 true false rfl
  generalize hk1 : h.new ⟨[I W.length, I n, I 0, I 0, I 0], 5, 1, true, false⟩ = k1 at r5
  have s1 : Same h k1 (fun _ => False) := hk1 ▸ Same.new
  have r3 : RdAt (k1.new ⟨[.slice (some ⟨h.next, 0, none⟩) 5 5, ownSl (some uk) K.length, ownSl (some uc) W.length], 3, 1, true, false⟩) k1.next 0 1 3 3 [.slice (some ⟨h.next, 0, none⟩) 5 5, ownSl (some uk) K.length, ownSl (some uc) W.length] := RdAt.fresh k1 _ 3 1 true false rfl
  have s2 : Same k1 (k1.new ⟨[.slice (some ⟨h.next, 0, none⟩) 5 5, ownSl (some uk) K.length, ownSl (some uc) W.length], 3, 1, true, false⟩) (fun _ => False) := Same.new
  have sA : Same h (k1.new ⟨[.slice (some ⟨h.next, 0, none⟩) 5 5, ownSl (some uk) K.length, ownSl (some uc) W.length], 3, 1, true, false⟩) (fun _ => False) := s1.trans s2 (fun _ _ x => x)
  obtain ⟨v, h3, F, rfl, q2, q3⟩ := concat_spec hT H (A := [(W.length : Int), n, 0, 0, 0]) (B := K) (C := W) r3 (r5.same s2 (fun x => x)) (hk.rd.same sA (fun x => x)) (hw.rd.same sA (fun x => x)) (by simp) k0 w0 (by simp; omega)
  refine ⟨_, _, F, ?_⟩
  simp only [cwf_ret, andThen_normal, fnQ_ret, owf_nil, o_p, behind_eq, bo_eq, optQ_some, pop, popQ, ev, putA, look_put, resAll, resA, mkRes1, ite_true, ite_false, Nat.reduceEqDiff, Option.some.injEq, exists_eq_left']
  have sB := sA.trans q3 (fun _ _ x => x)
  rw [tail_marks h h3 sB.marks]
  exact ⟨_, Nat.le_trans s1.next s2.next, rfl, q2, sB⟩
end
end
end Go.Proofs.Ytedldiimhbebdaa.Ai
