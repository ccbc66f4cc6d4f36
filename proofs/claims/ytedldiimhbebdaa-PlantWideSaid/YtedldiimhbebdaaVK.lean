/- A memory begun; one cell written. -/
import Derived.Test.YtedldiimhbebdaaVJ
import Derived.Test.YtedldiimhbebdaaTabOk
namespace Go.Proofs.Ytedldiimhbebdaa.Ai
open Go.Proofs.Ytedldiimhbebdaa
noncomputable section
open Go.RowKit
structure HasV9 (tab : Nat → Option AFunc) : Prop where
  v42 : tab 42 = some af42
  v43 : tab 43 = some af43
  v73 : tab 73 = some af73

theorem hasV9 : HasV9 tabT.get := ⟨by kernel_rfl, by kernel_rfl, by kernel_rfl⟩

theorem app_nil_src {h : Heap} {x s n cap bytes : Nat} {k : Blk} (hb : h.blks.get x = some k) (hs : k.s = s) (hn : n ≤ cap) (s1 : 1 ≤ s) (b1 : n * bytes ≤ 1099511627776) (b2 : n ≤ 1099511627776) :
    appV h s bytes (.slice (some ⟨x, 0, none⟩) n cap) (.slice none 0 0) = some (.slice (some ⟨x, 0, none⟩) n cap, h) := by
  have hg : (Nat.ble ((n + 0) * bytes) 1099511627776 && Nat.ble (n + 0) 1099511627776 && Nat.ble 1 s && ([] : List Value).all scalar) = true := by
    rw [Nat.add_zero, nat_ble b1, nat_ble b2, nat_ble s1]; rfl
  show appA h s bytes (some ⟨x, 0, none⟩) n cap [] 0 = _
  unfold appA
  rw [hg, cond_true]
  simp only [hb, hs, Nat.beq_refl, Bool.not_true, cond_false, Nat.add_zero, nat_ble hn, cond_true]

section
variable {P : Program} {tab : Nat → Option AFunc} (hT : TabOk P tab)
include hT

theorem concat1_spec (H : Has tab) {h : Heap} {y : Nat} {A C : List Int} {xa oa ca xc oc cc : Nat} (hy : RdAt h y 0 1 3 3 [.slice (some ⟨xa, oa, none⟩) A.length ca, .slice none 0 0, .slice (some ⟨xc, oc, none⟩) C.length cc])
    (ha : RdAt h xa oa 1 A.length ca (A.map I)) (hc : RdAt h xc oc 1 C.length cc (C.map I)) (a0 : A ≠ []) (c0 : C ≠ []) (hl : A.length + C.length < 100000) :
    FSpec P 106 [.slice (some ⟨y, 0, none⟩) 3 3] h fun v h' => v = .slice (some ⟨h.next, 0, none⟩) (A ++ C).length (A ++ C).length ∧ RdAt h' h.next 0 1 (A ++ C).length (A ++ C).length ((A ++ C).map I) ∧ Same h h' (fun _ => False) := by
  refine fspec_cwf hT H.f106 rfl ?_
  have y0 : h.rd y 0 = _ := hy.rd (i := 0) (by omega)
  have y1 : h.rd y 1 = _ := hy.rd (i := 1) (by omega)
  have y2 : h.rd y 2 = _ := hy.rd (i := 2) (by omega)
  have pa := List.length_pos_iff.2 a0
  have pc := List.length_pos_iff.2 c0
  have w1 : wrapF .i64 (0 + (A.length : Int)) = A.length := by rw [wrapI] <;> omega
  have w2 : wrapF .i64 ((A.length : Int)) = A.length := by rw [wrapI] <;> omega
  have w3 : wrapF .i64 ((A.length : Int) + C.length) = ((A.length + C.length : Nat) : Int) := by rw [wrapI] <;> omega
  have w4 : wrapF .i64 1 = 1 := by decide
  have w5 : wrapF .i64 2 = 2 := by decide
  have w6 : wrapF .i64 3 = 3 := by decide
  have n1 : ((A.length : Int) < 0) = False := by simp
  have n3 : (((A.length + C.length : Nat) : Int) < 0) = False := by simp; omega
  obtain ⟨v, h1, F, rfl, rfl⟩ := grow_spec hT H h (n := A.length + C.length) (by omega) (by omega)
  have e0 : (h.new ⟨rep [I 0] (A.length + C.length), A.length + C.length, 1, true, true⟩).blks.get h.next = some ⟨[] ++ rep [I 0] (A.length + C.length), A.length + C.length, 1, true, true⟩ := by rw [new_get]; exact if_pos rfl
  have lr : (rep [I 0] (A.length + C.length)).length = A.length + C.length := by rw [rep_int]; simp
  have s0 : Same h (h.new ⟨rep [I 0] (A.length + C.length), A.length + C.length, 1, true, true⟩) (fun _ => False) := Same.new
  have nx : ∀ j, j < h.next → j = h.next → False := fun j h1 h2 => by omega
  obtain ⟨k1, i1, e1, t1⟩ := app_in' (bytes := 8) (n := 0) (cap := A.length + C.length) e0 (by simp) ((ha.same s0 (fun x => x)).src) (by simp) (by simp [lr]; try omega) (by simp [scalar]) (Nat.le_refl _) (by omega) (by omega) (by omega) (by omega)
  have s1 : Same h k1 (fun _ => False) := s0.trans t1 nx
  have i2 := app_nil_src (bytes := 8) (s := 1) (n := A.length) (cap := A.length + C.length) e1 rfl (by omega) (Nat.le_refl _) (by omega) (by omega)
  obtain ⟨k3, i3, e3, t3⟩ := app_in' (bytes := 8) (n := 0 + A.length) (cap := A.length + C.length) e1 (by simp) ((hc.same s1 (fun x => x)).src) (by simp) (by simp [lr]; try omega) (by simp [scalar]) (Nat.le_refl _) (by omega) (by omega) (by omega) (by omega)
  have s3 : Same h k3 (fun _ => False) := s1.trans t3 nx
  have z0 : (h.new ⟨rep [I 0] (A.length + C.length), A.length + C.length, 1, true, true⟩).rd y 0 = _ := (hy.same s0 (fun x => x)).rd (i := 0) (by omega)
  have z1 : k1.rd y 1 = _ := (hy.same s1 (fun x => x)).rd (i := 1) (by omega)
  have z2 : k1.rd y 2 = _ := (hy.same s1 (fun x => x)).rd (i := 2) (by omega)
  simp only [Nat.zero_add] at i1 i3
  have hL : (A ++ C).length = A.length + C.length := by simp
  simp only [af106, cwf_seq, cwf_ops, cwf_block, cwf_loop, andThen_normal, owf_nil, o_p, bo_eq, optQ_some, pop, popQ, ev, putA, putArgs, look_put, Int.cast_ofNat_Int, cond_false, ite_true, ite_false, Nat.reduceEqDiff]
  refine cw_lw (lw_step ?_)
  simp only [cwf_seq, cwf_ops, c_true, c_false, cwf_skip, cwf_block, andThen_normal, blockQ_normal, lwQ_normal, owf_nil, o_p, o_r, bo_eq, optQ_some, pop, popQ, rop_load1, ldV_ptr, ev, putA, look_put, isB_true, isB_false, abinF_eq, abin, Int.reduceLT, Int.reduceLE, Int.reduceToNat, Nat.mul_one, Nat.add_zero, Int.reduceAdd, Int.cast_ofNat_Int, inB_eq, decide_true, decide_false, cond_true, cond_false, ite_true, ite_false, Bool.and_true, Bool.not_false, Nat.reduceEqDiff, List.getElem?_cons_zero, y0, w1, w4, n1]
  refine lw_step ?_
  simp only [cwf_seq, cwf_ops, c_true, c_false, cwf_skip, cwf_block, andThen_normal, blockQ_normal, lwQ_normal, owf_nil, o_p, o_r, bo_eq, optQ_some, pop, popQ, rop_load1, ldV_ptr, ev, putA, look_put, isB_true, isB_false, abinF_eq, abin, Int.reduceLT, Int.reduceLE, Int.reduceToNat, Nat.mul_one, Int.reduceAdd, Int.cast_ofNat_Int, inB_eq, decide_true, decide_false, cond_true, cond_false, ite_true, ite_false, Bool.and_true, Bool.not_false, Nat.reduceEqDiff, Nat.zero_add, List.getElem?_cons_zero, List.getElem?_cons_succ, y1, w2, w5, n1, Int.add_zero]
  refine lw_step ?_
  simp only [cwf_seq, cwf_ops, c_true, c_false, cwf_skip, cwf_block, andThen_normal, blockQ_normal, lwQ_normal, owf_nil, o_p, o_r, bo_eq, optQ_some, pop, popQ, rop_load1, ldV_ptr, ev, putA, look_put, isB_true, isB_false, abinF_eq, abin, Int.reduceLT, Int.reduceLE, Int.reduceToNat, Nat.mul_one, Int.reduceAdd, Int.cast_ofNat_Int, inB_eq, decide_true, decide_false, cond_true, cond_false, ite_true, ite_false, Bool.and_true, Bool.not_false, Nat.reduceEqDiff, Nat.zero_add, List.getElem?_cons_zero, List.getElem?_cons_succ, y2, w3, w6, n3]
  refine lw_step ?_
  simp only [cwf_seq, cwf_ops, c_false, cwf_exit, andThen_normal, andThen_exit, blockQ_exit, lwQ_exit, owf_nil, o_p, owf_call, bo_eq, optQ_some, pop, popQ, ev, evs, putA, look_put, isB_false, abinF_eq, abin, Int.reduceLT, decide_true, decide_false, cond_true, ite_true, ite_false, Bool.not_false, Nat.reduceEqDiff]
  refine ⟨_, _, F, ?_⟩
  simp only [cwf_seq, cwf_ops, cwf_block, cwf_loop, andThen_normal, owf_nil, o_p, behind_eq, bo_eq, optQ_some, pop, popQ, ev, putA, look_put, Int.cast_ofNat_Int, cond_false, ite_true, ite_false, Nat.reduceEqDiff]
  refine cw_lw (lw_step ?_)
  simp only [cwf_seq, cwf_ops, c_true, cwf_skip, cwf_block, andThen_normal, blockQ_normal, lwQ_normal, owf_nil, o_p, o_r, o_e, behind_eq, bo_eq, optQ_some, opt2_some, pop, popQ, rop_load1, ldV_ptr, ev, putA, look_put, isB_true, abinF_eq, abin, eop_app, Int.reduceLT, Int.reduceLE, Int.reduceToNat, Nat.mul_one, Nat.add_zero, Int.reduceAdd, Int.cast_ofNat_Int, inB_eq, decide_true, cond_true, ite_true, ite_false, Bool.and_true, Nat.reduceEqDiff, List.getElem?_cons_zero, z0, i1, w4]
  refine lw_step ?_
  simp only [cwf_seq, cwf_ops, c_true, cwf_skip, cwf_block, andThen_normal, blockQ_normal, lwQ_normal, owf_nil, o_p, o_r, o_e, behind_eq, bo_eq, optQ_some, opt2_some, pop, popQ, rop_load1, ldV_ptr, ev, putA, look_put, isB_true, abinF_eq, abin, eop_app, Int.reduceLT, Int.reduceLE, Int.reduceToNat, Nat.mul_one, Int.reduceAdd, Int.cast_ofNat_Int, inB_eq, decide_true, cond_true, ite_true, ite_false, Bool.and_true, Nat.reduceEqDiff, Nat.zero_add, List.getElem?_cons_zero, List.getElem?_cons_succ, z1, i2, w5]
  refine lw_step ?_
  simp only [cwf_seq, cwf_ops, c_true, cwf_skip, cwf_block, andThen_normal, blockQ_normal, lwQ_normal, owf_nil, o_p, o_r, o_e, behind_eq, bo_eq, optQ_some, opt2_some, pop, popQ, rop_load1, ldV_ptr, ev, putA, look_put, isB_true, abinF_eq, abin, eop_app, Int.reduceLT, Int.reduceLE, Int.reduceToNat, Nat.mul_one, Int.reduceAdd, Int.cast_ofNat_Int, inB_eq, decide_true, cond_true, ite_true, ite_false, Bool.and_true, Nat.reduceEqDiff, Nat.zero_add, List.getElem?_cons_zero, List.getElem?_cons_succ, z2, i3, w6]
  refine lw_step ?_
  simp only [cwf_seq, cwf_ops, cwf_ret, c_false, cwf_exit, andThen_normal, andThen_exit, blockQ_exit, lwQ_exit, fnQ_ret, owf_nil, o_p, bo_eq, optQ_some, pop, popQ, ev, putA, look_put, isB_false, abinF_eq, abin, resAll, resA, mkRes1, Int.reduceLT, decide_true, decide_false, cond_true, ite_true, ite_false, Bool.not_false, Nat.reduceEqDiff, Option.some.injEq, exists_eq_left']
  rw [tail_marks h k3 s3.marks, hL]
  refine ⟨rfl, ⟨⟨_, e3, rfl, ?_, ?_⟩, Nat.le_refl _, ?_⟩, s3⟩
  · rw [List.drop_zero, List.take_append_of_le_length (by simp)]
    simp only [List.nil_append, List.map_append]
    rw [List.take_of_length_le (by simp)]
  · simp
  · have := t1.next; have := t3.next
    rw [new_next] at *
    omega

theorem inner1_spec (H : Has tab) {h : Heap} {n : Int} {x cap : Nat} {W : List Int} (hw : RdAt h x 0 1 W.length cap (W.map I)) (hl : W.length = 1) :
    FSpec P 72 [I n, .slice none 0 0, .slice (some ⟨x, 0, none⟩) W.length cap] h fun v h' => ∃ x, h.next ≤ x ∧ v = .slice (some ⟨x, 0, none⟩) ([1, n, 0, 0, 0] ++ W).length ([1, n, 0, 0, 0] ++ W).length ∧ RdAt h' x 0 1 ([1, n, 0, 0, 0] ++ W).length ([1, n, 0, 0, 0] ++ W).length (([1, n, 0, 0, 0] ++ W).map I) ∧ Same h h' (fun _ => False) := by
  refine fspec_cwf hT H.f72 rfl ?_
  have w1 : wrapF .i64 1 = 1 := by decide
  have c1 : ((1 : Int) != 1) = false := by simp
  have w0 : W ≠ [] := fun e => by rw [e] at hl; simp at hl
  have r5 : RdAt (h.new ⟨[I 1, I n, I 0, I 0, I 0], 5, 1, true, false⟩) h.next 0 1 5 5 [I 1, I n, I 0, I 0, I 0] := RdAt.fresh h [I 1, I n, I 0, I 0, I 0] 5 1 true false rfl
  have s1 : Same h (h.new ⟨[I 1, I n, I 0, I 0, I 0], 5, 1, true, false⟩) (fun _ => False) := Same.new
  generalize hk1 : h.new ⟨[I 1, I n, I 0, I 0, I 0], 5, 1, true, false⟩ = k1 at r5 s1
  have r3 : RdAt (k1.new ⟨[.slice (some ⟨h.next, 0, none⟩) 5 5, .slice none 0 0, .slice (some ⟨x, 0, none⟩) W.length cap], 3, 1, true, false⟩) k1.next 0 1 3 3 [.slice (some ⟨h.next, 0, none⟩) 5 5, .slice none 0 0, .slice (some ⟨x, 0, none⟩) W.length cap] := RdAt.fresh k1 _ 3 1 true false rfl
  have s2 : Same k1 (k1.new ⟨[.slice (some ⟨h.next, 0, none⟩) 5 5, .slice none 0 0, .slice (some ⟨x, 0, none⟩) W.length cap], 3, 1, true, false⟩) (fun _ => False) := Same.new
  generalize hk2 : k1.new ⟨[.slice (some ⟨h.next, 0, none⟩) 5 5, .slice none 0 0, .slice (some ⟨x, 0, none⟩) W.length cap], 3, 1, true, false⟩ = k2 at r3 s2
  have sA : Same h k2 (fun _ => False) := s1.trans s2 (fun _ _ x => x)
  obtain ⟨v, h3, F, rfl, q2, q3⟩ := concat1_spec hT H (A := [1, n, 0, 0, 0]) (C := W) r3 (r5.same s2 (fun x => x)) (hw.same sA (fun x => x)) (by simp) w0 (by simp; omega)
  have hwl : (W.length : Int) = 1 := by omega
  simp only [af72, cwf_seq, cwf_ops, c_false, cwf_skip, andThen_normal, owf_nil, o_p, o_e, owf_call, behind_eq, bo_eq, optQ_some, opt2_some, pop, popQ, ev, evs, putA, putArgs, look_put, isB_false, abinF_eq, abin, eop_buildS, bldS_some, evP_nil, evP_cons, fillA_nil, fillA_one, List.length_cons, List.length_nil, List.set_cons_zero, List.set_cons_succ, Nat.reduceLT, Nat.lt_add_one, Nat.mul_one, Int.cast_ofNat_Int, scalar_slice, scalar_int, decide_true, cond_true, cond_false, ite_true, ite_false, Bool.not_false, Nat.reduceEqDiff, Nat.reduceAdd, Nat.zero_add, hwl, w1, c1, hk1, hk2, Int.zero_add]
  refine ⟨_, _, F, ?_⟩
  simp only [cwf_ret, andThen_normal, fnQ_ret, owf_nil, o_p, behind_eq, bo_eq, optQ_some, pop, popQ, ev, putA, look_put, resAll, resA, mkRes1, ite_true, ite_false, Nat.reduceEqDiff, Option.some.injEq, exists_eq_left']
  have sB := sA.trans q3 (fun _ _ x => x)
  rw [tail_marks h h3 sB.marks]
  exact ⟨_, Nat.le_trans s1.next s2.next, rfl, q2, sB⟩

theorem begin_spec (H : Has tab) (V9 : HasV9 tab) {h : Heap} {b : Nat} {z c o r : Int} (m : MemAt h b none [] z c o r) (hz7 : 7 ≤ z) (hz : z ≤ 65536) (hc : 0 ≤ c ∧ c < 1000) :
    FSpec P 42 [.pointer (some ⟨b, 0, none⟩)] h fun v h' => v = .bool true ∧ (∃ u', MemAt h' b u' [1, 0, 0, 0, 0, 57, 0] z (c + 2) o r ∧ (∀ x, u' = some x → h.next ≤ x)) ∧ Same h h' (fun j => j = b) := by
  refine fspec_cwf hT V9.v42 rfl ?_
  obtain ⟨_, h, F1, rfl, rfl⟩ := used_spec hT H m
  obtain ⟨_, h, F2, rfl, rfl⟩ := size_spec hT H m
  obtain ⟨_, h, F3, rfl, rfl⟩ := of_spec hT H 1 7 h (by omega) (by omega) (by omega) (by omega)
  have e57 : (7 : Int) * 8 + 1 = 57 := rfl
  rw [e57] at F3
  have s1 : Same h (h.new ⟨[I 57], 1, 1, true, false⟩) (fun _ => False) := Same.new
  have r1 : RdAt (h.new ⟨[I 57], 1, 1, true, false⟩) h.next 0 1 1 1 [I 57] := RdAt.fresh h [I 57] 1 1 true false rfl
  have x1 : (h.new ⟨[I 57], 1, 1, true, false⟩).next = h.next + 1 := rfl
  generalize hh1 : h.new ⟨[I 57], 1, 1, true, false⟩ = h1 at s1 r1 x1
  have m1 := m.same s1 (fun x => x) (fun _ _ x => x)
  obtain ⟨_, h2, F4, ⟨x, hx, rfl, r2, s2⟩⟩ := inner1_spec hT H (n := 0) (W := [57]) r1 rfl
  have m2 := m1.same s2 (fun x => x) (fun _ _ x => x)
  have hbl := m.lt
  obtain ⟨_, h3, F5, rfl, ⟨u3, m3, n3⟩, s3⟩ := make_ok hT H (ws := [1, 0, 0, 0, 0, 57]) m2 r2 (by omega) (by simp) (by simp; omega) hz ⟨by omega, by omega⟩
  have x2 := s2.next
  have x3 := s3.next
  obtain ⟨_, h4, F6, rfl, r4, s4⟩ := empty_spec hT H h3
  have m4 := m3.same s4 (fun x => x) (fun _ _ x => x)
  obtain ⟨_, h5, F7, rfl, ⟨u5, m5, n5⟩, s5⟩ := make_ok hT H (ws := [0]) m4 r4 (by omega) (by simp) (by simp; omega) hz ⟨by omega, by omega⟩
  have x4 := s4.next
  have hu3 : ∀ x, u3 = some x → h.next ≤ x := fun x hx => by
    rcases n3 x hx with e | e
    · cases e
    · omega
  have sf : Same h h5 (fun j => j = b) := ((((s1.mono (fun _ x => x.elim)).trans s2 (fun _ _ x => x.elim)).trans s3 (fun j hj e => by
    rcases e with e | e
    · exact e
    · cases e)).trans s4 (fun _ _ x => x.elim)).trans s5 (fun j hj e => by
      rcases e with e | e
      · exact e
      · have := hu3 _ e; omega)
  have c0 : ((0 : Int) != 0) = false := rfl
  have cz : (z < 7) = False := by simp; omega
  simp only [af42, cwf_seq, cwf_ops, andThen_normal, owf_nil, o_p, owf_call, bo_eq, optQ_some, pop, popQ, ev, evs, putA, putArgs, look_put, ite_true, ite_false, Nat.reduceEqDiff]
  refine ⟨_, _, F1, ?_⟩
  simp only [o_p, owf_call, o_on, behind_eq, bo_eq, optQ_some, pop, popQ, ev, evs, putA, look_put, isB_false, abinF_eq, abin, List.length_nil, Int.cast_ofNat_Int, decide_true, cond_true, ite_true, ite_false, Bool.not_false, Nat.reduceEqDiff, c0]
  refine ⟨_, _, F2, ?_⟩
  simp only [cwf_seq, cwf_ops, c_false, cwf_skip, andThen_normal, owf_nil, o_p, owf_call, o_on, behind_eq, bo_eq, optQ_some, pop, popQ, ev, evs, putA, look_put, isB_false, abinF_eq, abin, decide_true, decide_false, cond_true, cond_false, ite_true, ite_false, Bool.not_false, Nat.reduceEqDiff, cz]
  refine ⟨_, _, F3, ?_⟩
  simp only [o_e, owf_call, behind_eq, opt2_some, ev, evs, putA, look_put, eop_buildS, bldS_some, evP_nil, evP_cons, fillA_nil, fillA_one, List.length_cons, List.length_nil, List.set_cons_zero, Nat.lt_add_one, Nat.mul_one, scalar_int, ite_true, ite_false, Nat.reduceEqDiff, Nat.zero_add, hh1]
  refine ⟨_, _, F4, ?_⟩
  simp only [owf_call, behind_eq, ev, evs, putA, look_put, List.length_cons, List.length_nil, ite_true, ite_false, Nat.reduceEqDiff, Nat.reduceAdd, Nat.zero_add, List.nil_append, List.cons_append]
  refine ⟨_, _, F5, ?_⟩
  simp only [cwf_seq, cwf_ops, andThen_normal, owf_nil, o_p, owf_call, behind_eq, bo_eq, optQ_some, pop, popQ, ev, evs, putA, look_put, List.length_nil, Int.reduceAdd, Int.cast_ofNat_Int, ite_true, ite_false, Nat.reduceEqDiff]
  refine ⟨_, _, F6, ?_⟩
  simp only [owf_call, behind_eq, ev, evs, putA, look_put, ite_true, ite_false, Nat.reduceEqDiff]
  refine ⟨_, _, F7, ?_⟩
  simp only [cwf_seq, cwf_ops, cwf_ret, andThen_normal, fnQ_ret, owf_nil, o_p, behind_eq, bo_eq, optQ_some, pop, popQ, ev, putA, look_put, resAll, resA, mkRes1, List.length_cons, List.length_nil, Int.reduceAdd, Int.cast_ofNat_Int, ite_true, ite_false, Nat.reduceEqDiff, Nat.reduceAdd, Nat.zero_add, Option.some.injEq, exists_eq_left', true_and, List.nil_append]
  rw [tail_marks h h5 sf.marks]
  refine ⟨⟨u5, ?_, fun x hx => ?_⟩, sf⟩
  · have e : c + 1 + 1 = c + 2 := by omega
    rw [e] at m5
    exact m5
  · rcases n5 x hx with e | e
    · exact hu3 x e
    · omega

theorem cell_spec (V9 : HasV9 tab) {h : Heap} {b x : Nat} {C : List Int} {z c o r : Int} (m : MemAt h b (some x) C z c o r) (hc : 0 ≤ c ∧ c < 1000000) {a : Nat} (a1 : 1 ≤ a) (a2 : a ≤ C.length) (hC : C.length ≤ 65536) :
    FSpec P 73 [.pointer (some ⟨b, 0, none⟩), I a] h fun v h' => v = .pointer (some ⟨x, a - 1, none⟩) ∧ MemAt h' b (some x) C z (c + 1) o r ∧ Same h h' (fun j => j = b) := by
  refine fspec_cwf hT V9.v73 rfl ?_
  have wc : wrapF .i64 (c + 1) = c + 1 := wrapI (by omega) (by omega)
  have m1 := m.set z (c + 1) o r
  have s1 : Same h (h.setB b (memBlk (useSl (some x) C) z (c + 1) o r)) (fun j => j = b) := Same.setB rfl
  have w2 := m.wr2 (c + 1)
  generalize h.setB b (memBlk (useSl (some x) C) z (c + 1) o r) = h1 at w2 m1 s1
  have c1 : ((a : Int) < 1) = False := by simp; omega
  have c2 : ((a : Int) > C.length) = False := by simp; omega
  have w : wrapF .i64 ((a : Int) - 1) = ((a - 1 : Nat) : Int) := by rw [wrapI] <;> omega
  have c3 : (((a - 1 : Nat) : Int) < C.length) = True := by simp; omega
  have r0 : h1.rd b 0 = some (.slice (some ⟨x, 0, none⟩) C.length C.length) := m1.rd0
  simp only [af73, cwf_seq, cwf_ops, cwf_ret, c_false, cwf_skip, andThen_normal, fnQ_ret, owf_nil, o_p, o_r, o_e, o_on, behind_eq, bo_eq, optQ_some, opt2_some, pop, popQ, rop_load1, ldV_ptr, ev, putA, putArgs, look_put, isB_false, abinF_eq, abin, resAll, resA, mkRes1, eop_store1, st1, Int.toNat_natCast, Int.natCast_nonneg, Nat.mul_one, Nat.add_zero, scalar_int, inB_eq, decide_true, decide_false, cond_true, cond_false, ite_true, ite_false, Bool.and_true, Bool.not_false, Nat.reduceEqDiff, Nat.zero_add, Option.some.injEq, exists_eq_left', true_and, m.rd2, wc, w2, c1, r0, c2, w, c3]
  rw [tail_marks h h1 s1.marks]
  exact ⟨m1, s1⟩

theorem write_spec (V9 : HasV9 tab) {h : Heap} {b x : Nat} {C : List Int} {z c o r : Int} (m : MemAt h b (some x) C z c o r) (hc : 0 ≤ c ∧ c < 1000000) {a : Nat} (a1 : 1 ≤ a) (a2 : a ≤ C.length) (hC : C.length ≤ 65536) (w : Int) :
    FSpec P 43 [.pointer (some ⟨b, 0, none⟩), I a, I w] h fun _ h' => MemAt h' b (some x) (C.set (a - 1) w) z (c + 1) o r ∧ Same h h' (fun j => j = b ∨ j = x) := by
  refine fspec_cwf hT V9.v43 rfl ?_
  obtain ⟨_, h1, F1, rfl, m1, s1⟩ := cell_spec hT V9 m hc a1 a2 hC
  obtain ⟨q1, q2, q3, q4⟩ := m1.use x rfl
  have w1 : h1.wrs x (a - 1) [I w] = some (h1.setB x (usedBlk (C.set (a - 1) w))) := by
    rw [wrs1_of q1 rfl (by simp [usedBlk]; omega) rfl]
    simp [usedBlk, List.map_set]
  have s2 : Same h1 (h1.setB x (usedBlk (C.set (a - 1) w))) (fun j => j = x) := Same.setB rfl
  have m2 : MemAt (h1.setB x (usedBlk (C.set (a - 1) w))) b (some x) (C.set (a - 1) w) z (c + 1) o r := by
    refine ⟨?_, fun y hy => ?_, (fun e => by cases e), m1.lt⟩
    · rw [setB_get, if_neg (Ne.symm q2), m1.blk]
      simp [useSl]
    · cases hy
      exact ⟨by rw [setB_get, if_pos rfl], q2, q3, fun e => by
        have := congrArg List.length e
        simp only [List.length_set, List.length_nil] at this
        omega⟩
  generalize h1.setB x (usedBlk (C.set (a - 1) w)) = h2 at w1 s2 m2
  have sf : Same h h2 (fun j => j = b ∨ j = x) := (s1.mono (fun _ e => .inl e)).trans s2 (fun _ _ e => .inr e)
  simp only [af43, cwf_seq, cwf_ops, o_p, owf_call, bo_eq, optQ_some, pop, popQ, ev, evs, putA, putArgs, look_put, ite_true, ite_false, Nat.reduceEqDiff, Nat.reduceAdd, Nat.zero_add]
  refine ⟨_, _, F1, ?_⟩
  simp only [cwf_seq, cwf_ops, c_true, andThen_normal, fnQ_normal, owf_nil, o_p, o_e, behind_eq, bo_eq, optQ_some, opt2_some, pop, popQ, ev, putA, look_put, isB_true, resAll, eop_store1, st1, scalar_int, isNilV, Option.isNone_some, cond_true, ite_true, ite_false, Bool.not_false, Nat.reduceEqDiff, Option.some.injEq, exists_eq_left', w1]
  rw [tail_marks h h2 sf.marks]
  exact ⟨m2, sf⟩
end
end
end Go.Proofs.Ytedldiimhbebdaa.Ai
