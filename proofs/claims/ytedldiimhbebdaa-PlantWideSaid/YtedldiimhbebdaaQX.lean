/- Texts put together: QA, QB, QC, QD, QE, QF. -/
import Derived.Test.YtedldiimhbebdaaPX
import Derived.Test.YtedldiimhbebdaaTabOk
import Derived.Test.YtedldiimhbebdaaTh2
/- What the document's memory and its records come to. -/
namespace Go.Proofs.Ytedldiimhbebdaa.Ai
open Go.Proofs.Ytedldiimhbebdaa
noncomputable section
open Go.RowKit
structure HasR (tab : Nat → Option AFunc) : Prop where
  r4 : tab 4 = some af4
  r21 : tab 21 = some af21
  r23 : tab 23 = some af23
  r25 : tab 25 = some af25
  r26 : tab 26 = some af26
  r28 : tab 28 = some af28
  r29 : tab 29 = some af29
  r31 : tab 31 = some af31
  r32 : tab 32 = some af32
  r64 : tab 64 = some af64
  r65 : tab 65 = some af65
  r66 : tab 66 = some af66
  r98 : tab 98 = some af98
  r99 : tab 99 = some af99
  r100 : tab 100 = some af100
  r101 : tab 101 = some af101
  r102 : tab 102 = some af102
  r103 : tab 103 = some af103

theorem hasR : HasR tabT.get := ⟨by kernel_rfl, by kernel_rfl, by kernel_rfl, by kernel_rfl, by kernel_rfl, by kernel_rfl, by kernel_rfl, by kernel_rfl, by kernel_rfl, by kernel_rfl, by kernel_rfl, by kernel_rfl, by kernel_rfl, by kernel_rfl, by kernel_rfl, by kernel_rfl, by kernel_rfl, by kernel_rfl⟩

def rmemBlk (sl : Value) (z c o r : Int) : Blk := ⟨[I z, sl, I c, I o, I r], 5, 5, true, false⟩

/-- the document's memory lies there -/
structure RMemAt (h : Heap) (b : Nat) (u : Option Nat) (C : List Int) (z c o r : Int) : Prop where
  blk : h.blks.get b = some (rmemBlk (useSl u C) z c o r)
  use : ∀ x, u = some x → h.blks.get x = some (usedBlk C) ∧ x ≠ b ∧ x < h.next ∧ C ≠ []
  non : u = none → C = []
  lt : b < h.next

theorem RMemAt.same {h h' : Heap} {b : Nat} {u : Option Nat} {C : List Int} {z c o r : Int} {S : Nat → Prop} (m : RMemAt h b u C z c o r) (s : Same h h' S) (hb : ¬ S b) (hu : ∀ x, u = some x → ¬ S x) : RMemAt h' b u C z c o r :=
  ⟨by rw [s.get b m.lt hb]; exact m.blk, fun x hx => by
    obtain ⟨h1, h2, h3, h4⟩ := m.use x hx
    exact ⟨by rw [s.get x h3 (hu x hx)]; exact h1, h2, Nat.lt_of_lt_of_le h3 s.next, h4⟩, m.non, Nat.lt_of_lt_of_le m.lt s.next⟩

section
variable {h : Heap} {b : Nat} {u : Option Nat} {C : List Int} {z c o r : Int} (m : RMemAt h b u C z c o r)
include m
theorem RMemAt.rd1 : h.rd b 1 = some (useSl u C) := rd_of m.blk
theorem RMemAt.rd0 : h.rd b 0 = some (I z) := rd_of m.blk
theorem RMemAt.rd2 : h.rd b 2 = some (I c) := rd_of m.blk
theorem RMemAt.rd3 : h.rd b 3 = some (I o) := rd_of m.blk
theorem RMemAt.rd4 : h.rd b 4 = some (I r) := rd_of m.blk
theorem RMemAt.wr2 (x : Int) : h.wrs b 2 [I x] = some (h.setB b (rmemBlk (useSl u C) z x o r)) := wrs1_of m.blk rfl (by simp [rmemBlk]) rfl
theorem RMemAt.wr4 (x : Int) : h.wrs b 4 [I x] = some (h.setB b (rmemBlk (useSl u C) z c o x)) := wrs1_of m.blk rfl (by simp [rmemBlk]) rfl
theorem RMemAt.set (z' c' o' r' : Int) : RMemAt (h.setB b (rmemBlk (useSl u C) z' c' o' r')) b u C z' c' o' r' :=
  ⟨by rw [setB_get, if_pos rfl], fun x hx => by
    obtain ⟨h1, h2, h3, h4⟩ := m.use x hx
    exact ⟨by rw [setB_get, if_neg h2]; exact h1, h2, h3, h4⟩, m.non, m.lt⟩
theorem RMemAt.own : OwnAt h u 1 C.length (C.map I) :=
  ⟨fun x hx => by
    obtain ⟨h1, _, h3, h4⟩ := m.use x hx
    exact ⟨by rw [h1, Nat.mul_one]; rfl, h3, List.length_pos_iff.2 h4⟩, fun hu => by rw [m.non hu]; rfl, by simp, by simp [scalar]⟩
end

theorem rmem_wr1 {h : Heap} {b : Nat} {sl v : Value} {z c o r : Int} (hb : h.blks.get b = some (rmemBlk sl z c o r)) (hv : scalar v = true) : h.wrs b 1 [v] = some (h.setB b (rmemBlk v z c o r)) := wrs1_of hb rfl (by simp [rmemBlk]) hv

theorem RMemAt.of_own {h : Heap} {b : Nat} {u : Option Nat} {C : List Int} (a : OwnAt h u 1 C.length (C.map I)) (hu : ∀ x, u = some x → x ≠ b) (hb : b < h.next) (z c o r : Int) : RMemAt (h.setB b (rmemBlk (useSl u C) z c o r)) b u C z c o r :=
  ⟨by rw [setB_get, if_pos rfl], fun x hx => by
    obtain ⟨h1, h2, h3⟩ := a.use x hx
    exact ⟨by rw [setB_get, if_neg (hu x hx), h1, Nat.mul_one]; rfl, hu x hx, h2, List.length_pos_iff.1 h3⟩, fun hn => List.eq_nil_of_length_eq_zero (a.non hn), hb⟩

/-- append to a row that was built as it stands -/
theorem app_lit {h : Heap} {y s n k bytes : Nat} {cells news : List Value} {Y : Value} (hb : h.blks.get y = some ⟨cells, n * s, s, true, false⟩) (hc : cells.length = n * s) (hcs : cells.all scalar = true) (hy : srcCells h s Y = some (news, k)) (hk : news.length = k * s) (hs : news.all scalar = true) (s1 : 1 ≤ s) (k0 : k ≠ 0)
    (b1 : (n + k) * bytes ≤ 1099511627776) (b2 : n + k ≤ 1099511627776) :
    appV h s bytes (.slice (some ⟨y, 0, none⟩) n n) Y = some (ownSl (some h.next) (n + k), h.new ⟨cells ++ news, (n + k) * s, s, true, true⟩) ∧ OwnAt (h.new ⟨cells ++ news, (n + k) * s, s, true, true⟩) (some h.next) s (n + k) (cells ++ news) := by
  have hg : (Nat.ble ((n + k) * bytes) 1099511627776 && Nat.ble (n + k) 1099511627776 && Nat.ble 1 s && news.all scalar) = true := by
    rw [nat_ble b1, nat_ble b2, nat_ble s1, hs]; rfl
  have hrd : h.rds y 0 (n * s) = some cells := by
    rw [rds_of hb (by simp [hc])]; simp [← hc]
  refine ⟨?_, ⟨fun x hx => by cases hx; exact ⟨by rw [new_get]; exact if_pos rfl, Nat.lt_succ_self _, by omega⟩, by simp, by rw [List.length_append, hc, hk, Nat.add_mul], by rw [List.all_append, hcs, hs]; rfl⟩⟩
  unfold appV
  rw [hy]
  simp only
  unfold appA
  rw [hg]
  simp only [cond_true, hb, nat_beq, Bool.not_true, cond_false, nat_ble_f (show ¬ n + k ≤ n by omega), hrd, Bool.false_and, ownSl, Option.map_some]

section
variable {P : Program} {tab : Nat → Option AFunc} (hT : TabOk P tab) (H : HasR tab)
include hT H

theorem rof_spec (k a : Int) (h : Heap) (c1 : k ≥ 1) (c2 : k ≤ 5) (c3 : a ≥ 1) (c4 : a ≤ 65536) : FSpec P 101 [I k, I a] h fun v h' => v = I (a * 8 + k) ∧ h' = h := by
  refine fspec_cwf hT H.r101 rfl ?_
  have d1 : (k < 1) = False := by simp; omega
  have d2 : (k > 5) = False := by simp; omega
  have d3 : (a < 1) = False := by simp; omega
  have d4 : (a > 65536) = False := by simp; omega
  have w1 : wrapF .i64 (8 * a) = 8 * a := wrapI (by omega) (by omega)
  have w2 : wrapF .i64 (8 * a + k) = a * 8 + k := by rw [wrapI] <;> omega
  simp only [af101, cwf_seq, cwf_ops, cwf_ret, c_false, cwf_skip, andThen_normal, fnQ_ret, owf_nil, o_p, o_on, bo_eq, optQ_some, pop, popQ, ev, putA, putArgs, look_put, isB_false, abinF_eq, abin, resAll, resA, mkRes1, decide_true, decide_false, cond_true, cond_false, ite_true, ite_false, Bool.not_false, Nat.reduceEqDiff, Nat.zero_add, Option.some.injEq, exists_eq_left', and_true, d1, d2, d3, d4, w1, w2]

theorem rempty_spec (h : Heap) : FSpec P 100 [] h fun v h' => v = .slice (some ⟨h.next, 0, none⟩) 1 1 ∧ RdAt h' h.next 0 1 1 1 [I 0] ∧ Same h h' (fun _ => False) := by
  refine fspec_cwf hT H.r100 rfl ?_
  simp only [af100, cwf_seq, cwf_ops, cwf_ret, andThen_normal, fnQ_ret, owf_nil, o_p, o_e, behind_eq, bo_eq, optQ_some, opt2_some, pop, popQ, ev, putA, putArgs, look_put, resAll, resA, mkRes1, eop_buildS, bldS_some, evP_nil, evP_cons, fillA_nil, fillA_one, List.length_cons, List.length_nil, List.set_cons_zero, Nat.lt_add_one, Nat.mul_one, scalar_int, ite_true, ite_false, Nat.reduceEqDiff, Nat.zero_add, Option.some.injEq, exists_eq_left', true_and]
  exact ⟨RdAt.fresh h [I 0] 1 1 true false rfl, Same.new⟩

theorem rleaf_spec (h : Heap) (k x : Int) : FSpec P 102 [I k, I x] h fun v h' => v = .slice (some ⟨h.next, 0, none⟩) 2 2 ∧ RdAt h' h.next 0 1 2 2 [I k, I x] ∧ Same h h' (fun _ => False) := by
  refine fspec_cwf hT H.r102 rfl ?_
  simp only [af102, cwf_seq, cwf_ops, cwf_ret, andThen_normal, fnQ_ret, owf_nil, o_p, o_e, behind_eq, bo_eq, optQ_some, opt2_some, pop, popQ, ev, putA, putArgs, look_put, resAll, resA, mkRes1, eop_buildS, bldS_some, evP_nil, evP_cons, fillA_nil, fillA_one, List.length_cons, List.length_nil, List.set_cons_zero, List.set_cons_succ, Nat.reduceLT, Nat.lt_add_one, Nat.mul_one, scalar_int, ite_true, ite_false, Nat.reduceEqDiff, Nat.reduceAdd, Nat.zero_add, Option.some.injEq, exists_eq_left', true_and]
  exact ⟨RdAt.fresh h [I k, I x] 2 1 true false rfl, Same.new⟩

theorem rnew_spec (h : Heap) (z : Int) (h1 : 1 ≤ z) (h2 : z ≤ 65536) : FSpec P 23 [I z] h fun v h' => v = .tuple #[.pointer (some ⟨h.next, 0, none⟩), I 0] ∧ RMemAt h' h.next none [] z 0 0 0 ∧ Same h h' (fun _ => False) := by
  refine fspec_cwf hT H.r23 rfl ?_
  have c1 : (z < 1) = False := by simp; omega
  have c2 : (z > 65536) = False := by simp; omega
  simp only [af23, cwf_seq, cwf_ops, cwf_ret, c_false, cwf_skip, andThen_normal, fnQ_ret, owf_nil, o_p, o_e, o_on, behind_eq, bo_eq, optQ_some, opt2_some, pop, popQ, ev, putA, putArgs, look_put, isB_false, abinF_eq, abin, resAll, resA, mkRes2, eop_box, boxV5, evP_nil, evP_cons, fillA_nil, fillA_one, List.length_cons, List.length_nil, List.set_cons_zero, Nat.reduceLT, scalar_int, decide_true, decide_false, cond_true, cond_false, ite_true, ite_false, Bool.not_false, Nat.reduceEqDiff, Nat.reduceAdd, Nat.zero_add, Option.some.injEq, exists_eq_left', true_and, c1, c2]
  exact ⟨⟨by rw [new_get]; exact if_pos rfl, fun x hx => (by cases hx), fun _ => rfl, Nat.lt_succ_self _⟩, Same.new⟩

theorem rmake_ok {h : Heap} {b : Nat} {u : Option Nat} {C : List Int} {z c o r : Int} (m : RMemAt h b u C z c o r) {x p cap : Nat} {ws : List Int} (hw : RdAt h x p 1 ws.length cap (ws.map I)) (hx : x ≠ b) (n0 : ws ≠ []) (hn : (C.length : Int) + ws.length ≤ z) (hz : z ≤ 65536) (hc : 0 ≤ c ∧ c < 1000000000) :
    FSpec P 25 [.pointer (some ⟨b, 0, none⟩), .slice (some ⟨x, p, none⟩) ws.length cap] h fun v h' => v = .tuple #[I (C.length + 1), .bool true] ∧ (∃ u', RMemAt h' b u' (C ++ ws) z (c + 1) o r ∧ (∀ x, u' = some x → u = some x ∨ h.next ≤ x)) ∧ Same h h' (fun j => j = b ∨ u = some j) := by
  refine fspec_cwf hT H.r25 rfl ?_
  have wc : wrapF .i64 (c + 1) = c + 1 := wrapI (by omega) (by omega)
  have wz : wrapF .i64 (z - C.length) = z - C.length := wrapI (by omega) (by omega)
  have wl : wrapF .i64 (C.length + 1) = C.length + 1 := wrapI (by omega) (by omega)
  have m1 := m.set z (c + 1) o r
  have s1 : Same h (h.setB b (rmemBlk (useSl u C) z (c + 1) o r)) (fun j => j = b ∨ u = some j) := Same.setB (.inl rfl)
  have hb : ((ws.length : Int) == 0) = false := by simp [n0]
  have hg : ((ws.length : Int) > z - C.length) = False := by simp; omega
  have hlt := m.lt
  obtain ⟨u', h2, ha, ho, hs, hu'⟩ := app_own (bytes := 8) m1.own (hw.same (S := fun j => j = b) (Same.setB rfl) hx).src (by simp) (by simp [scalar]) (Nat.le_refl _) (by omega) (by omega)
  have hb2 : h2.blks.get b = some (rmemBlk (useSl u C) z (c + 1) o r) := by
    rw [hs.get b m1.lt (fun hc => ((m1.use b hc).2.1 rfl))]; exact m1.blk
  have hu2 : ∀ y, u' = some y → y ≠ b := fun y hy => by
    rcases hu' y hy with e | e
    · exact (m.use y e).2.1
    · rw [e, setB_next]; omega
  have hw0 := rmem_wr1 (v := ownSl u' (C.length + ws.length)) hb2 rfl
  simp only [af25, cwf_seq, cwf_ops, cwf_draw, andThen_normal, owf_nil, o_p, o_r, o_e, behind_eq, bo_eq, bd_eq, optQ_some, opt2_some, d_p, pop, popQ, rop_load1, ldV_ptr, ev, putA, putArgs, look_put, abinF_eq, abin, eop_store1, st1, scalar_int, decide_true, cond_true, cond_false, ite_true, ite_false, Nat.reduceEqDiff, Nat.zero_add, m.rd2, m.wr2, wc]
  refine ⟨cf00, cf00_ok, ?_⟩
  simp only [cwf_seq, cwf_ops, cwf_ret, c_false, cwf_skip, andThen_normal, fnQ_ret, owf_nil, o_p, o_r, o_e, behind_eq, bo_eq, bd_eq, optQ_some, opt2_some, dwf_nil, d_p, d_r, d_on, pop, popQ, rop_load1, ldV_ptr, ev, putA, look_put, isB_false, abinF_eq, abin, resAll, resA, mkRes2, eop_store1, eop_app, st1, Nat.add_zero, scalar_slice, decide_true, decide_false, cond_true, cond_false, ite_true, ite_false, Bool.not_false, Nat.reduceEqDiff, Nat.zero_add, Option.some.injEq, exists_eq_left', true_and, m1.rd1, m1.rd0, hb, wz, hg, wl, ha, hw0]
  refine ⟨⟨u', ?_, fun y hy => (hu' y hy).imp_right (fun e => by rw [e, setB_next]; exact Nat.le_refl _)⟩, ?_⟩
  · have hl : (C ++ ws).length = C.length + ws.length := by simp
    rw [← List.map_append, ← hl] at ho
    have := RMemAt.of_own ho hu2 (Nat.lt_of_lt_of_le m1.lt hs.next) z (c + 1) o r
    have e : (h2.setB b (rmemBlk (useSl u' (C ++ ws)) z (c + 1) o r)).marks = h.marks := hs.marks
    rw [← tail_marks h _ e] at this
    rw [← hl]
    exact this
  · have s3 : Same h (h2.setB b (rmemBlk (ownSl u' (C.length + ws.length)) z (c + 1) o r)) (fun j => j = b ∨ u = some j) := (s1.trans (hs.mono (fun j hj => .inr hj)) (fun _ _ hj => hj)).trans (Same.setB (S := fun j => j = b ∨ u = some j) (.inl rfl)) (fun _ _ hj => hj)
    exact (tail_marks h (h2.setB b _) s3.marks) ▸ s3

theorem rinner_spec {h : Heap} {n : Int} {uk uc : Nat} {K W : List Int} (hk : OwnAt h (some uk) 1 K.length (K.map I)) (hw : OwnAt h (some uc) 1 W.length (W.map I)) (k0 : K ≠ []) (hl : W.length = K.length + 1) (hb : W.length < 1000) :
    FSpec P 103 [I n, ownSl (some uk) K.length, ownSl (some uc) W.length] h fun v h' => ∃ x, h.next ≤ x ∧ v = .slice (some ⟨x, 0, none⟩) ([(W.length : Int), n, 0, 0, 0] ++ K ++ W).length ([(W.length : Int), n, 0, 0, 0] ++ K ++ W).length ∧ RdAt h' x 0 1 ([(W.length : Int), n, 0, 0, 0] ++ K ++ W).length ([(W.length : Int), n, 0, 0, 0] ++ K ++ W).length (([(W.length : Int), n, 0, 0, 0] ++ K ++ W).map I) ∧ Same h h' (fun _ => False) := by
  refine fspec_cwf hT H.r103 rfl ?_
  have w1 : wrapF .i64 ((K.length : Int) + 1) = W.length := by rw [hl, wrapI] <;> omega
  have c1 : ((W.length : Int) != W.length) = false := by simp
  have w0 : W ≠ [] := fun e => by rw [e] at hl; simp at hl
  have pk := List.length_pos_iff.2 k0
  simp only [af103, cwf_seq, cwf_ops, c_false, cwf_skip, andThen_normal, owf_nil, o_p, o_e, behind_eq, bo_eq, optQ_some, opt2_some, pop, popQ, ev, putA, putArgs, look_put, isB_false, abinF_eq, abin, eop_app, eop_buildS, bldS_some, evP_nil, evP_cons, fillA_nil, fillA_one, List.length_cons, List.length_nil, List.set_cons_zero, List.set_cons_succ, Nat.reduceLT, Nat.lt_add_one, Nat.mul_one, scalar_int, decide_true, cond_true, cond_false, ite_true, ite_false, Bool.not_false, Nat.reduceEqDiff, Nat.reduceAdd, Nat.zero_add, w1, c1]
  generalize hk1 : h.new ⟨[I W.length, I n, I 0, I 0, I 0], 5, 1, true, false⟩ = k1
  have s1 : Same h k1 (fun _ => False) := hk1 ▸ Same.new
  have e1 : k1.blks.get h.next = some ⟨[I W.length, I n, I 0, I 0, I 0], 5 * 1, 1, true, false⟩ := hk1 ▸ (by rw [new_get]; exact if_pos rfl)
  obtain ⟨a1, o1⟩ := app_lit (bytes := 8) (n := 5) e1 rfl rfl (hk.same s1 (fun _ _ x => x)).rd.src (by simp) (by simp [scalar]) (Nat.le_refl _) (by omega) (by omega) (by omega)
  generalize hk2 : k1.new _ = k2 at a1 o1
  have s2 : Same k1 k2 (fun _ => False) := hk2 ▸ Same.new
  have s12 := s1.trans s2 (fun _ _ x => x)
  obtain ⟨u3, k3, a3, o3, s3, n3⟩ := app_own (bytes := 8) o1 (hw.same s12 (fun _ _ x => x)).rd.src (by simp) (by simp [scalar]) (Nat.le_refl _) (by omega) (by omega)
  have x1 := s1.next
  have x2 := s2.next
  obtain ⟨y, rfl⟩ : ∃ y, u3 = some y := by
    cases hu : u3 with
    | none => have := o3.non hu; omega
    | some y => exact ⟨y, rfl⟩
  simp only [ownSl, Option.map_some] at a1 a3
  simp only [cwf_seq, cwf_ops, cwf_ret, andThen_normal, fnQ_ret, owf_nil, o_p, o_e, behind_eq, bo_eq, optQ_some, opt2_some, pop, popQ, ev, putA, look_put, resAll, resA, mkRes1, eop_app, ite_true, ite_false, Nat.reduceEqDiff, Option.some.injEq, exists_eq_left', ownSl, Option.map_some, a1, a3]
  have sf := s12.trans s3 (fun j hj e => by cases e; omega)
  rw [tail_marks h k3 sf.marks]
  have hL : ([(W.length : Int), n, 0, 0, 0] ++ K ++ W).length = 5 + K.length + W.length := by simp; omega
  have hM : ([(W.length : Int), n, 0, 0, 0] ++ K ++ W).map I = [I W.length, I n, I 0, I 0, I 0] ++ K.map I ++ W.map I := by simp
  refine ⟨y, ?_, by rw [hL], by rw [hL, hM]; exact o3.rd, sf⟩
  rcases n3 y rfl with e | e
  · cases e; omega
  · omega
end
end
end Go.Proofs.Ytedldiimhbebdaa.Ai
/- What the document's build comes to. -/
namespace Go.Proofs.Ytedldiimhbebdaa.Ai
open Go.Proofs.Ytedldiimhbebdaa
noncomputable section
open Go.RowKit

/-- the numbers of the ideal shape, as the document's functions tell them -/
structure NumR (P : Program) : Prop where
  deg : ∀ n : Nat, n ≤ 120 → ∀ h, Fact P 98 [I n] h (I (degN n)) h
  siz : ∀ n i : Nat, 2 ≤ n → n ≤ 120 → i < degN n → ∀ h, Fact P 99 [I n, I i] h (I (sizeN n i)) h
  cel : ∀ n : Nat, n ≤ 120 → ∀ h, Fact P 64 [I n] h (I (cellsN n)) h

section
variable {P : Program} {tab : Nat → Option AFunc} (hT : TabOk P tab) (H : HasR tab)
include hT H

theorem rlay_nil {h : Heap} {b : Nat} {u : Option Nat} {C : List Int} {z c o r : Int} (m : RMemAt h b u C z c o r) {base : Option Addr} {cap : Nat} (hn : (C.length : Int) + 1 ≤ z) (hz : z ≤ 65536) (hc : 0 ≤ c ∧ c < 1000000000) :
    FSpec P 65 [.pointer (some ⟨b, 0, none⟩), .slice base 0 cap] h fun v h' => v = I (((C.length : Int) + 1) * 8 + 1) ∧ (∃ u', RMemAt h' b u' (C ++ [0]) z (c + 1) o r ∧ (∀ x, u' = some x → u = some x ∨ h.next ≤ x)) ∧ Same h h' (fun j => j = b ∨ u = some j) := by
  refine fspec_cwf hT H.r65 rfl ?_
  simp only [af65, cwf_seq, cwf_ops, c_true, andThen_normal, owf_nil, o_p, owf_call, bo_eq, optQ_some, pop, popQ, ev, evs, putA, putArgs, look_put, isB_true, abinF_eq, abin, Int.cast_ofNat_Int, decide_true, cond_true, cond_false, ite_true, ite_false, Nat.reduceEqDiff, Nat.zero_add, beq_self_eq_true]
  obtain ⟨v, h1, F, rfl, hr, hs⟩ := rempty_spec hT H h
  refine ⟨_, _, F, ?_⟩
  simp only [owf_call, behind_eq, ev, evs, putA, look_put, ite_true, ite_false, Nat.reduceEqDiff]
  obtain ⟨v2, h2, F2, rfl, hm, hs2⟩ := rmake_ok hT H (ws := [0]) (m.same hs (fun x => x) (fun _ _ x => x)) hr (fun e => absurd e.symm (Nat.ne_of_lt m.lt)) (by simp) hn hz hc
  obtain ⟨v3, h3, F3, rfl, rfl⟩ := rof_spec hT H 1 ((C.length : Int) + 1) h2 (by omega) (by omega) (by omega) (by omega)
  refine ⟨_, _, F2, ?_⟩
  simp only [cwf_seq, cwf_ops, andThen_normal, owf_nil, o_p, owf_call, behind_eq, bo_eq, optQ_some, pop, popQ, ev, evs, putA, look_put, ite_true, ite_false, Nat.reduceEqDiff, List.getElem?_cons_zero, List.getElem?_cons_succ]
  refine ⟨_, _, F3, ?_⟩
  simp only [cwf_ret, andThen_normal, andThen_ret, fnQ_ret, owf_nil, o_p, behind_eq, bo_eq, optQ_some, pop, popQ, ev, putA, look_put, resAll, resA, mkRes1, ite_true, ite_false, Nat.reduceEqDiff, Option.some.injEq, exists_eq_left', true_and]
  have s3 : Same h h3 (fun j => j = b ∨ u = some j) := (hs.mono (T := fun j => j = b ∨ u = some j) (fun _ x => x.elim)).trans hs2 (fun _ _ x => x)
  rw [tail_marks h h3 s3.marks]
  obtain ⟨u', hm1, hm2⟩ := hm
  exact ⟨⟨u', hm1, fun y hy => (hm2 y hy).imp_right (fun e => Nat.le_trans hs.next e)⟩, s3⟩

theorem rlay_one {h : Heap} {b : Nat} {u : Option Nat} {C : List Int} {z c o r : Int} (m : RMemAt h b u C z c o r) {x p cap : Nat} {q : Pr} (hl : RdAt h x p 2 1 cap (flat [q])) (hn : (C.length : Int) + 2 ≤ z) (hz : z ≤ 65536) (hc : 0 ≤ c ∧ c < 1000000000) :
    FSpec P 65 [.pointer (some ⟨b, 0, none⟩), .slice (some ⟨x, p, none⟩) 1 cap] h fun v h' => v = I (((C.length : Int) + 1) * 8 + 2) ∧ (∃ u', RMemAt h' b u' (C ++ [q.1, q.2]) z (c + 1) o r ∧ (∀ x, u' = some x → u = some x ∨ h.next ≤ x)) ∧ Same h h' (fun j => j = b ∨ u = some j) := by
  refine fspec_cwf hT H.r65 rfl ?_
  obtain ⟨v, h1, F, rfl, hr, hs⟩ := rleaf_spec hT H h q.1 q.2
  obtain ⟨v2, h2, F2, rfl, hm, hs2⟩ := rmake_ok hT H (ws := [q.1, q.2]) (m.same hs (fun x => x) (fun _ _ x => x)) hr (fun e => absurd e.symm (Nat.ne_of_lt m.lt)) (by simp) hn hz hc
  obtain ⟨v3, h3, F3, rfl, rfl⟩ := rof_spec hT H 2 ((C.length : Int) + 1) h2 (by omega) (by omega) (by omega) (by omega)
  have c0 : ((1 : Int) == 0) = false := rfl
  have c1 : ((1 : Int) == 1) = true := rfl
  have r0 : h.rd x p = some (I q.1) := hl.rd (i := 0) (by omega)
  have r1 : h.rd x (p + 1) = some (I q.2) := hl.rd (i := 1) (by omega)
  simp only [af65, cwf_seq, cwf_ops, c_true, c_false, cwf_skip, cwf_draw, andThen_normal, owf_nil, o_p, bo_eq, bd_eq, optQ_some, d_p, d_r, pop, popQ, rop_load1, ldV_ptr, ev, putA, putArgs, look_put, isB_true, isB_false, abinF_eq, abin, Int.reduceLT, Int.reduceLE, Int.reduceToNat, Nat.zero_mul, Nat.add_zero, Int.cast_ofNat_Int, inB_eq, decide_true, cond_true, cond_false, ite_true, ite_false, Bool.and_true, Bool.not_false, Nat.reduceEqDiff, Nat.zero_add, c0, c1]
  refine ⟨cfOf 102 _ h _ h1 (cfOf 25 _ h1 _ h3 cf00), cfOf_ok F (cfOf_ok F2 cf00_ok), ?_⟩
  have g1 := @cfOf_eq 102 [I q.1, I q.2] h (.slice (some ⟨h.next, 0, none⟩) 2 2) h1 (cfOf 25 [.pointer (some ⟨b, 0, none⟩), .slice (some ⟨h.next, 0, none⟩) 2 2] h1 (.tuple #[I (C.length + 1), .bool true]) h3 cf00)
  have g2 : cfOf 102 [I q.1, I q.2] h (.slice (some ⟨h.next, 0, none⟩) 2 2) h1 (cfOf 25 [.pointer (some ⟨b, 0, none⟩), .slice (some ⟨h.next, 0, none⟩) 2 2] h1 (.tuple #[I (C.length + 1), .bool true]) h3 cf00) (.fn 25) [.pointer (some ⟨b, 0, none⟩), .slice (some ⟨h.next, 0, none⟩) 2 2] h1 = some (.tuple #[I (C.length + 1), .bool true], h3) := by rw [cfOf_ne (by decide)]; exact cfOf_eq
  simp only [cwf_seq, cwf_ops, andThen_normal, o_p, owf_call, bo_eq, bd_eq, bd2_eq, optQ_some, opt2_some, dwf_nil, d_p, d_r, d_call, pop, popQ, rop_load1, ldV_ptr, ev, evs, putA, look_put, List.length_cons, List.length_nil, Int.reduceLT, Int.reduceLE, Int.reduceToNat, Nat.zero_mul, Nat.add_zero, Int.cast_ofNat_Int, inB_eq, decide_true, cond_true, ite_true, ite_false, Bool.and_true, Nat.reduceEqDiff, Nat.reduceAdd, Nat.zero_add, List.getElem?_cons_zero, List.getElem?_cons_succ, r0, r1, g1, g2]
  refine ⟨_, _, F3, ?_⟩
  simp only [cwf_ret, andThen_normal, andThen_ret, fnQ_ret, owf_nil, o_p, behind_eq, bo_eq, optQ_some, pop, popQ, ev, putA, look_put, resAll, resA, mkRes1, ite_true, ite_false, Nat.reduceEqDiff, Option.some.injEq, exists_eq_left', true_and]
  have s3 : Same h h3 (fun j => j = b ∨ u = some j) := (hs.mono (T := fun j => j = b ∨ u = some j) (fun _ x => x.elim)).trans hs2 (fun _ _ x => x)
  rw [tail_marks h h3 s3.marks]
  obtain ⟨u', hm1, hm2⟩ := hm
  exact ⟨⟨u', hm1, fun y hy => (hm2 y hy).imp_right (fun e => Nat.le_trans hs.next e)⟩, s3⟩

variable (NR : NumR P)
include NR

/-- what is kept from child to child -/
structure RLayI (h : Heap) (b x p cap : Nat) (u : Option Nat) (C : List Int) (z c o r : Int) (f : Nat) (l : List Pr) (i : Nat) (ts : T Value) (h' : Heap) : Prop where
  t0 : look ts 0 = .pointer (some ⟨b, 0, none⟩)
  t1 : look ts 1 = .slice (some ⟨x, p, none⟩) l.length cap
  t5 : look ts 5 = I l.length
  t12 : look ts 12 = I (fromN l.length i)
  t13 : look ts 13 = I i
  le : i ≤ degN l.length
  ex : ∃ uk uc u' c', look ts 10 = ownSl uk (i - 1) ∧ look ts 11 = ownSl uc i ∧ OwnAt h' uk 1 (i - 1) ((keysF l i).map I) ∧ OwnAt h' uc 1 i ((kidsF (layF f) l C.length i).1.map I) ∧
    RMemAt h' b u' (C ++ (kidsF (layF f) l C.length i).2) z c' o r ∧ c ≤ c' ∧ c' ≤ c + (kidsF (layF f) l C.length i).2.length ∧ (∀ y, u' = some y → u = some y ∨ h.next ≤ y) ∧ (∀ y, uk = some y → h.next ≤ y ∧ u' ≠ some y) ∧ (∀ y, uc = some y → h.next ≤ y ∧ u' ≠ some y ∧ uk ≠ some y)
  same : Same h h' (fun j => j = b ∨ u = some j)

theorem rlay_spec : ∀ (f : Nat) (l : List Pr) (h : Heap) (b x p cap : Nat) (u : Option Nat) (C : List Int) (z c o r : Int), l.length < f → l.length ≤ 120 → 1 ≤ l.length → RMemAt h b u C z c o r → RdAt h x p 2 l.length cap (flat l) → x ≠ b → u ≠ some x → (C.length : Int) + cellsN l.length ≤ z → z ≤ 65536 → 0 ≤ c → c + cellsN l.length < 1000000000 →
    FSpec P 65 [.pointer (some ⟨b, 0, none⟩), .slice (some ⟨x, p, none⟩) l.length cap] h fun v h' => v = I (layF f l C.length).1 ∧ (∃ u' c', RMemAt h' b u' (C ++ (layF f l C.length).2) z c' o r ∧ c ≤ c' ∧ c' ≤ c + cellsN l.length ∧ (∀ y, u' = some y → u = some y ∨ h.next ≤ y)) ∧ Same h h' (fun j => j = b ∨ u = some j) := by
  intro f
  induction f with
  | zero => intro l h b x p cap u C z c o r hf; omega
  | succ f ih =>
    intro l h b x p cap u C z c o r hf hl h1 m hr hxb hxu hroom hz hc0 hc1
    by_cases h2 : 2 ≤ l.length
    · have pn := partN h2 hl
      rw [layF_two h2]
      refine fspec_cwf hT H.r65 rfl ?_
      have c0 : ((l.length : Int) == 0) = false := by rw [beq_eq_false_iff_ne]; omega
      have c1 : ((l.length : Int) == 1) = false := by rw [beq_eq_false_iff_ne]; omega
      simp only [af65, cwf_seq, cwf_ops, c_false, cwf_skip, cwf_block, cwf_loop, andThen_normal, owf_nil, o_p, bo_eq, optQ_some, pop, popQ, ev, putA, putArgs, look_put, isB_false, abinF_eq, abin, decide_true, cond_true, cond_false, ite_true, ite_false, Bool.not_false, Nat.reduceEqDiff, Nat.zero_add, c0, c1]
      refine cw_loop (fun k ts h' => ∃ i, k = degN l.length - i ∧ RLayI h b x p cap u C z c o r f l i ts h') ?_ (n := degN l.length) ⟨0, rfl, ?_⟩
      · rintro k ts h' ⟨i, rfl, L⟩
        obtain ⟨uk, uc, u', c', t6, t7, ok, oc, mm, b1, b2, hu', gk, gc⟩ := L.ex
        have hb1 : b < h.next := m.lt
        have hlen := layF_len (f + 1) l C.length hf hl
        rw [layF_two h2] at hlen
        simp only [List.length_append, List.length_cons, List.length_nil, keysF_len, kidsF_one] at hlen
        by_cases hi : i < degN l.length
        · have hnext := pn.next i hi
          have hone := pn.one i hi
          have hless := pn.less i hi
          have htop := pn.top i hi
          have d11 := pn.deg11
          have hpl := partL_len h2 hl hi
          have ci : ((i : Int) < degN l.length) = True := by simp [hi]
          have wfs : wrapF .i64 ((fromN l.length i : Int) + sizeN l.length i) = ((fromN l.length i + sizeN l.length i : Nat) : Int) := by rw [wrapI] <;> omega
          have wi : wrapF .i64 ((i : Int) + 1) = ((i + 1 : Nat) : Int) := by rw [wrapI] <;> omega
          have hcap := hr.cap
          have hmono : (kidsF (layF f) l C.length i).2.length + cellsN (partL l i).length ≤ (kidsF (layF f) l C.length (degN l.length)).2.length := by
            have e : (kidsF (layF f) l C.length (i + 1)).2.length = (kidsF (layF f) l C.length i).2.length + cellsN (partL l i).length := by
              simp only [kidsF, List.length_append]
              rw [layF_len f (partL l i) _ (by omega) (by omega)]
            rw [← e]
            exact kids_mono _ _ _ (by omega)
          have hCi : (C ++ (kidsF (layF f) l C.length i).2).length = C.length + (kidsF (layF f) l C.length i).2.length := by simp
          have hCz : ((C ++ (kidsF (layF f) l C.length i).2).length : Int) = (C.length : Int) + (kidsF (layF f) l C.length i).2.length := by rw [hCi]; simp
          have hxu' : u' ≠ some x := fun e => by
            rcases hu' x e with e2 | e2
            · exact hxu e2
            · have := hr.lt; omega
          refine cwf_cw ?_
          simp only [cwf_seq, cwf_ops, o_p, owf_call, bo_eq, optQ_some, pop, popQ, ev, evs, putA, look_put, ite_true, ite_false, Nat.reduceEqDiff, L.t13, L.t5]
          refine ⟨_, _, NR.deg l.length hl _, ?_⟩
          simp only [cwf_seq, cwf_ops, c_true, cwf_skip, cwf_block, andThen_normal, owf_nil, o_p, owf_call, behind_eq, bo_eq, optQ_some, pop, popQ, ev, evs, putA, look_put, isB_true, abinF_eq, abin, decide_true, cond_true, ite_true, ite_false, Nat.reduceEqDiff, L.t13, L.t5, ci]
          refine ⟨_, _, NR.siz l.length i h2 hl hi _, ?_⟩
          have hrk := hr.same L.same (fun hs => hs.elim hxb hxu)
          have l5 := L.t5
          rcases Nat.eq_zero_or_pos i with i0 | ip
          · have k2e : ∃ k2, k2 = h' := ⟨_, rfl⟩
            obtain ⟨k2, k2e⟩ := k2e
            have uk2e : ∃ uk2, uk2 = uk := ⟨_, rfl⟩
            obtain ⟨uk2, uk2e⟩ := uk2e
            have i0 : ((i : Int) > 0) = False := by simp; omega
            have s12 : Same h' k2 (fun j => uk = some j) := k2e ▸ Same.refl _ _
            have s2 : Same h k2 (fun j => j = b ∨ u = some j) := k2e ▸ L.same
            have mk2 : RMemAt k2 b u' (C ++ (kidsF (layF f) l C.length i).2) z c' o r := k2e ▸ mm
            have oc2 : OwnAt k2 uc 1 i ((kidsF (layF f) l C.length i).1.map I) := k2e ▸ oc
            have hsub' := (hr.same s2 (fun hs => hs.elim hxb hxu)).sub (lo := fromN l.length i) (hi := fromN l.length i + sizeN l.length i) (by omega) htop
            have hsub : RdAt k2 x (p + fromN l.length i * 2) 2 (partL l i).length (cap - fromN l.length i) (flat (partL l i)) := by
              rw [partL, flat_take, flat_drop]
              have e : fromN l.length i + sizeN l.length i - fromN l.length i = sizeN l.length i := by omega
              rw [e] at hsub'
              have e2 := hpl
              rw [partL] at e2
              rw [e2]; exact hsub'
            have sl2 := (hr.same s2 (fun hs => hs.elim hxb hxu)).cut (lo := fromN l.length i) (hi := fromN l.length i + sizeN l.length i) (by omega) htop (by omega)
            have e : fromN l.length i + sizeN l.length i - fromN l.length i = sizeN l.length i := by omega
            rw [e] at sl2
            have gk2 : ∀ y, uk2 = some y → h.next ≤ y ∧ u' ≠ some y := fun y hy => gk y (uk2e ▸ hy)
            have gck : ∀ y, uc = some y → ¬ uk2 = some y := fun y hy e => (gc y hy).2.2 (uk2e ▸ e)
            have ok2 : OwnAt k2 uk2 1 (i + 1 - 1) ((keysF l (i + 1)).map I) := by
              have e1 : keysF l (i + 1) = keysF l i := by
                have : i = 0 := by omega
                subst this; rfl
              have e2 : i + 1 - 1 = i - 1 := by omega
              rw [e1, e2, k2e, uk2e]; exact ok
            have t6 : look ts 10 = ownSl uk2 (i + 1 - 1) := by
              have e2 : i + 1 - 1 = i - 1 := by omega
              rw [e2, uk2e]; exact t6
            rw [← k2e]
            obtain ⟨v3, h3, F3, rfl, ⟨u3, c3, m3, b31, b32, n3⟩, s3⟩ := ih (partL l i) k2 b x (p + fromN l.length i * 2) (cap - fromN l.length i) u' _ z c' o r (by omega) (by omega) (by omega) mk2 hsub hxb hxu' (by omega) hz (by omega) (by omega)
            have sk3 : Same h h3 (fun j => j = b ∨ u = some j) := s2.trans s3 (fun j hj hs => hs.elim .inl (fun e => by
              rcases hu' j e with e2 | e2
              · exact .inr e2
              · omega))
            have hcell : RdAt (h3.new ⟨[I (layF f (partL l i) (C ++ (kidsF (layF f) l C.length i).2).length).1], 1, 1, true, false⟩) h3.next 0 1 1 1 [I (layF f (partL l i) (C ++ (kidsF (layF f) l C.length i).2).length).1] := RdAt.fresh h3 [I (layF f (partL l i) (C ++ (kidsF (layF f) l C.length i).2).length).1] 1 1 true false rfl
            have s4 : Same h3 (h3.new ⟨[I (layF f (partL l i) (C ++ (kidsF (layF f) l C.length i).2).length).1], 1, 1, true, false⟩) (fun _ => False) := Same.new
            have oc3 : OwnAt h3 uc 1 i ((kidsF (layF f) l C.length i).1.map I) := oc2.same s3 (fun y hy hs => hs.elim (fun e => by have := (gc y hy).1; omega) (fun e => (gc y hy).2.1 e))
            obtain ⟨uc', k5, ha5, oc5, s5, n5⟩ := app_own (bytes := 8) (oc3.same s4 (fun _ _ x => x)) hcell.src rfl rfl (Nat.le_refl _) (by omega) (by omega)
            have t5 : Same h3 k5 (fun j => uc = some j) := (s4.mono (T := fun j => uc = some j) (fun _ x => x.elim)).trans s5 (fun _ _ x => x)
            have sk5 : Same h k5 (fun j => j = b ∨ u = some j) := sk3.trans t5 (fun j hj e => by have := (gc j e).1; omega)
            have hpl' := hpl
            simp only [cwf_seq, cwf_ops, c_false, cwf_skip, andThen_normal, owf_nil, o_p, o_r, owf_call, behind_eq, bo_eq, optQ_some, pop, popQ, rop_slice, ev, evO, evs, putA, look_put, isB_false, abinF_eq, abin, decide_true, decide_false, cond_true, ite_true, ite_false, Bool.not_false, Nat.reduceEqDiff, L.t0, L.t1, L.t12, L.t13, i0, wfs, sl2]
            rw [hpl] at F3
            refine ⟨_, _, F3, ?_⟩
            simp only [cwf_seq, cwf_ops, andThen_normal, blockQ_normal, roundQ_normal, owf_nil, o_p, o_e, behind_eq, bo_eq, optQ_some, opt2_some, pop, popQ, ev, putA, look_put, abinF_eq, abin, eop_app, eop_buildS, bldS_some, evP_nil, evP_cons, fillA_nil, fillA_one, List.length_cons, List.length_nil, List.set_cons_zero, Nat.lt_add_one, Nat.mul_one, scalar_int, decide_true, cond_true, ite_true, ite_false, Nat.reduceEqDiff, Nat.zero_add, L.t12, L.t13, t7, ha5, wi, wfs]
            have un3 : ∀ y, u3 = some y → y < h3.next := fun y hy => (m3.use y hy).2.2.1
            have un : ∀ y, u' = some y → y < h'.next := fun y hy => (mm.use y hy).2.2.1
            have cn : ∀ y, uc = some y → y < h'.next := fun y hy => (oc.use y hy).2.1
            have kn : ∀ y, uk2 = some y → y < k2.next := fun y hy => (ok2.use y hy).2.1
            have nx1 := s12.next
            have nx3 := s3.next
            have nx4 := s4.next
            have nx5 := s5.next
            have nx0 := L.same.next
            have nn : (h3.new ⟨[I (layF f (partL l i) (C ++ (kidsF (layF f) l C.length i).2).length).1], 1, 1, true, false⟩).next = h3.next + 1 := rfl
            refine ⟨degN l.length - (i + 1), by omega, i + 1, rfl, ⟨by simp only [look_put, ite_false, Nat.reduceEqDiff, L.t0], by simp only [look_put, ite_false, Nat.reduceEqDiff, L.t1], by simp only [look_put, ite_false, Nat.reduceEqDiff, L.t5], by simp only [look_put, ite_true, ite_false, Nat.reduceEqDiff, L.t12] <;> rw [hnext], by simp only [look_put, ite_true, ite_false, Nat.reduceEqDiff], by omega, ⟨uk2, uc', u3, c3, ?_, by simp only [look_put, ite_true, ite_false, Nat.reduceEqDiff], ?_, ?_, ?_, by omega, ?_, ?_, ?_, ?_⟩, sk5⟩⟩
            · simp only [look_put, ite_false, Nat.reduceEqDiff, t6] <;> rfl
            · refine (ok2.same s3 (fun y hy hs => hs.elim (fun e => ?_) (fun e => (gk2 y hy).2 e))).same t5 (fun y hy e => ?_)
              · have := (gk2 y hy).1; omega
              · exact (gck y e).elim hy
            · have e : (kidsF (layF f) l C.length (i + 1)).1.map I = (kidsF (layF f) l C.length i).1.map I ++ [I (layF f (partL l i) (C ++ (kidsF (layF f) l C.length i).2).length).1] := by
                simp only [kidsF, List.map_append, List.map_cons, List.map_nil, hCi]
              rw [e]; exact oc5
            · have e : C ++ (kidsF (layF f) l C.length (i + 1)).2 = C ++ (kidsF (layF f) l C.length i).2 ++ (layF f (partL l i) (C ++ (kidsF (layF f) l C.length i).2).length).2 := by
                simp only [kidsF, hCi, List.append_assoc]
              rw [e]
              exact m3.same t5 (fun e => by have := (gc b e).1; omega) (fun y hy e => by
                have h1 := gc y e
                rcases n3 y hy with e2 | e2
                · exact h1.2.1 e2
                · have := cn y e; omega)
            · simp only [kidsF, List.length_append]
              have e := layF_len f (partL l i) (C.length + (kidsF (layF f) l C.length i).2.length) (by omega) (by omega)
              rw [e]; omega
            · intro y hy
              rcases n3 y hy with e2 | e2
              · exact hu' y e2
              · exact .inr (by omega)
            · intro y hy
              refine ⟨(gk2 y hy).1, fun e => ?_⟩
              rcases n3 y e with e2 | e2
              · exact (gk2 y hy).2 e2
              · have := kn y hy; omega
            · intro y hy
              rcases n5 y hy with e | e
              · refine ⟨(gc y e).1, fun e1 => ?_, fun e1 => (gck y e).elim e1⟩
                rcases n3 y e1 with e2 | e2
                · exact (gc y e).2.1 e2
                · have := cn y e; omega
              · refine ⟨by omega, fun e1 => ?_, fun e1 => ?_⟩
                · have := un3 y e1; omega
                · have := kn y e1; omega
          · have i0 : ((i : Int) > 0) = True := by simp; omega
            have hfl : fromN l.length i < l.length := by omega
            have cg : ((fromN l.length i : Int) < (l.length : Int)) = True := by simp; omega
            have rk : h'.rd x (p + fromN l.length i * 2) = some (I l[fromN l.length i].1) := by
              rw [hrk.rd (by omega)]; exact flat_key l _ hfl
            have hkc : RdAt (h'.new ⟨[I l[fromN l.length i].1], 1, 1, true, false⟩) h'.next 0 1 1 1 [I l[fromN l.length i].1] := RdAt.fresh h' [I l[fromN l.length i].1] 1 1 true false rfl
            have s1 : Same h' (h'.new ⟨[I l[fromN l.length i].1], 1, 1, true, false⟩) (fun _ => False) := Same.new
            obtain ⟨uk2, k2, ha1, ok2', sa, na⟩ := app_own (bytes := 8) (ok.same s1 (fun _ _ x => x)) hkc.src rfl rfl (Nat.le_refl _) (by omega) (by omega)
            have s12 : Same h' k2 (fun j => uk = some j) := (s1.mono (T := fun j => uk = some j) (fun _ x => x.elim)).trans sa (fun _ _ x => x)
            have s2 : Same h k2 (fun j => j = b ∨ u = some j) := L.same.trans s12 (fun j hj e => by have := (gk j e).1; omega)
            have mk2 := mm.same s12 (fun e => by have := (gk b e).1; omega) (fun y hy e => (gk y e).2 hy)
            have oc2 := oc.same s12 (fun y hy e => (gc y hy).2.2 e)
            have hsub' := (hr.same s2 (fun hs => hs.elim hxb hxu)).sub (lo := fromN l.length i) (hi := fromN l.length i + sizeN l.length i) (by omega) htop
            have hsub : RdAt k2 x (p + fromN l.length i * 2) 2 (partL l i).length (cap - fromN l.length i) (flat (partL l i)) := by
              rw [partL, flat_take, flat_drop]
              have e : fromN l.length i + sizeN l.length i - fromN l.length i = sizeN l.length i := by omega
              rw [e] at hsub'
              have e2 := hpl
              rw [partL] at e2
              rw [e2]; exact hsub'
            have sl2 := (hr.same s2 (fun hs => hs.elim hxb hxu)).cut (lo := fromN l.length i) (hi := fromN l.length i + sizeN l.length i) (by omega) htop (by omega)
            have e : fromN l.length i + sizeN l.length i - fromN l.length i = sizeN l.length i := by omega
            rw [e] at sl2
            have gk2 : ∀ y, uk2 = some y → h.next ≤ y ∧ u' ≠ some y := fun y hy => by
              rcases na y hy with e | e
              · exact gk y e
              · have hq := L.same.next
                refine ⟨by rw [e, new_next]; omega, fun e2 => ?_⟩
                have := (mm.use y e2).2.2.1
                rw [e, new_next] at this; omega
            have gck : ∀ y, uc = some y → ¬ uk2 = some y := fun y hy e => by
              rcases na y e with e2 | e2
              · exact (gc y hy).2.2 e2
              · have := (oc.use y hy).2.1
                rw [e2, new_next] at this; omega
            have eki : (keysF l (i + 1)).map I = (keysF l i).map I ++ [I l[fromN l.length i].1] := by
              rw [keysF, if_neg (by omega)]
              simp [List.getElem?_eq_getElem hfl]
            have ei : i - 1 + 1 = i + 1 - 1 := by omega
            have ok2 : OwnAt k2 uk2 1 (i + 1 - 1) ((keysF l (i + 1)).map I) := by rw [eki, ← ei]; exact ok2'
            rw [ei] at ha1
            obtain ⟨v3, h3, F3, rfl, ⟨u3, c3, m3, b31, b32, n3⟩, s3⟩ := ih (partL l i) k2 b x (p + fromN l.length i * 2) (cap - fromN l.length i) u' _ z c' o r (by omega) (by omega) (by omega) mk2 hsub hxb hxu' (by omega) hz (by omega) (by omega)
            have sk3 : Same h h3 (fun j => j = b ∨ u = some j) := s2.trans s3 (fun j hj hs => hs.elim .inl (fun e => by
              rcases hu' j e with e2 | e2
              · exact .inr e2
              · omega))
            have hcell : RdAt (h3.new ⟨[I (layF f (partL l i) (C ++ (kidsF (layF f) l C.length i).2).length).1], 1, 1, true, false⟩) h3.next 0 1 1 1 [I (layF f (partL l i) (C ++ (kidsF (layF f) l C.length i).2).length).1] := RdAt.fresh h3 [I (layF f (partL l i) (C ++ (kidsF (layF f) l C.length i).2).length).1] 1 1 true false rfl
            have s4 : Same h3 (h3.new ⟨[I (layF f (partL l i) (C ++ (kidsF (layF f) l C.length i).2).length).1], 1, 1, true, false⟩) (fun _ => False) := Same.new
            have oc3 : OwnAt h3 uc 1 i ((kidsF (layF f) l C.length i).1.map I) := oc2.same s3 (fun y hy hs => hs.elim (fun e => by have := (gc y hy).1; omega) (fun e => (gc y hy).2.1 e))
            obtain ⟨uc', k5, ha5, oc5, s5, n5⟩ := app_own (bytes := 8) (oc3.same s4 (fun _ _ x => x)) hcell.src rfl rfl (Nat.le_refl _) (by omega) (by omega)
            have t5 : Same h3 k5 (fun j => uc = some j) := (s4.mono (T := fun j => uc = some j) (fun _ x => x.elim)).trans s5 (fun _ _ x => x)
            have sk5 : Same h k5 (fun j => j = b ∨ u = some j) := sk3.trans t5 (fun j hj e => by have := (gc j e).1; omega)
            have hpl' := hpl
            simp only [cwf_seq, cwf_ops, c_true, andThen_normal, owf_nil, o_p, o_r, o_e, owf_call, behind_eq, bo_eq, optQ_some, opt2_some, pop, popQ, rop_load1, ldV_ptr, rop_slice, ev, evO, evs, putA, look_put, isB_true, abinF_eq, abin, eop_app, eop_buildS, bldS_some, evP_nil, evP_cons, fillA_nil, fillA_one, List.length_cons, List.length_nil, List.set_cons_zero, Nat.lt_add_one, Int.toNat_natCast, Int.natCast_nonneg, Nat.mul_one, Nat.add_zero, scalar_int, inB_eq, decide_true, cond_true, ite_true, ite_false, Bool.and_true, Nat.reduceEqDiff, Nat.zero_add, L.t0, L.t1, L.t12, L.t13, t6, i0, cg, rk, ha1, wfs, sl2]
            rw [hpl] at F3
            refine ⟨_, _, F3, ?_⟩
            simp only [cwf_seq, cwf_ops, andThen_normal, blockQ_normal, roundQ_normal, owf_nil, o_p, o_e, behind_eq, bo_eq, optQ_some, opt2_some, pop, popQ, ev, putA, look_put, abinF_eq, abin, eop_app, eop_buildS, bldS_some, evP_nil, evP_cons, fillA_nil, fillA_one, List.length_cons, List.length_nil, List.set_cons_zero, Nat.lt_add_one, Nat.mul_one, scalar_int, decide_true, cond_true, ite_true, ite_false, Nat.reduceEqDiff, Nat.zero_add, L.t12, L.t13, t7, ha5, wi, wfs]
            have un3 : ∀ y, u3 = some y → y < h3.next := fun y hy => (m3.use y hy).2.2.1
            have un : ∀ y, u' = some y → y < h'.next := fun y hy => (mm.use y hy).2.2.1
            have cn : ∀ y, uc = some y → y < h'.next := fun y hy => (oc.use y hy).2.1
            have kn : ∀ y, uk2 = some y → y < k2.next := fun y hy => (ok2.use y hy).2.1
            have nx1 := s12.next
            have nx3 := s3.next
            have nx4 := s4.next
            have nx5 := s5.next
            have nx0 := L.same.next
            have nn : (h3.new ⟨[I (layF f (partL l i) (C ++ (kidsF (layF f) l C.length i).2).length).1], 1, 1, true, false⟩).next = h3.next + 1 := rfl
            refine ⟨degN l.length - (i + 1), by omega, i + 1, rfl, ⟨by simp only [look_put, ite_false, Nat.reduceEqDiff, L.t0], by simp only [look_put, ite_false, Nat.reduceEqDiff, L.t1], by simp only [look_put, ite_false, Nat.reduceEqDiff, L.t5], by simp only [look_put, ite_true, ite_false, Nat.reduceEqDiff, L.t12] <;> rw [hnext], by simp only [look_put, ite_true, ite_false, Nat.reduceEqDiff], by omega, ⟨uk2, uc', u3, c3, ?_, by simp only [look_put, ite_true, ite_false, Nat.reduceEqDiff], ?_, ?_, ?_, by omega, ?_, ?_, ?_, ?_⟩, sk5⟩⟩
            · simp only [look_put, ite_true, ite_false, Nat.reduceEqDiff, t6] <;> rfl
            · refine (ok2.same s3 (fun y hy hs => hs.elim (fun e => ?_) (fun e => (gk2 y hy).2 e))).same t5 (fun y hy e => ?_)
              · have := (gk2 y hy).1; omega
              · exact (gck y e).elim hy
            · have e : (kidsF (layF f) l C.length (i + 1)).1.map I = (kidsF (layF f) l C.length i).1.map I ++ [I (layF f (partL l i) (C ++ (kidsF (layF f) l C.length i).2).length).1] := by
                simp only [kidsF, List.map_append, List.map_cons, List.map_nil, hCi]
              rw [e]; exact oc5
            · have e : C ++ (kidsF (layF f) l C.length (i + 1)).2 = C ++ (kidsF (layF f) l C.length i).2 ++ (layF f (partL l i) (C ++ (kidsF (layF f) l C.length i).2).length).2 := by
                simp only [kidsF, hCi, List.append_assoc]
              rw [e]
              exact m3.same t5 (fun e => by have := (gc b e).1; omega) (fun y hy e => by
                have h1 := gc y e
                rcases n3 y hy with e2 | e2
                · exact h1.2.1 e2
                · have := cn y e; omega)
            · simp only [kidsF, List.length_append]
              have e := layF_len f (partL l i) (C.length + (kidsF (layF f) l C.length i).2.length) (by omega) (by omega)
              rw [e]; omega
            · intro y hy
              rcases n3 y hy with e2 | e2
              · exact hu' y e2
              · exact .inr (by omega)
            · intro y hy
              refine ⟨(gk2 y hy).1, fun e => ?_⟩
              rcases n3 y e with e2 | e2
              · exact (gk2 y hy).2 e2
              · have := kn y hy; omega
            · intro y hy
              rcases n5 y hy with e | e
              · refine ⟨(gc y e).1, fun e1 => ?_, fun e1 => (gck y e).elim e1⟩
                rcases n3 y e1 with e2 | e2
                · exact (gc y e).2.1 e2
                · have := cn y e; omega
              · refine ⟨by omega, fun e1 => ?_, fun e1 => ?_⟩
                · have := un3 y e1; omega
                · have := kn y e1; omega
        · have hi : i = degN l.length := by have := L.le; omega
          subst hi
          have ci : ((degN l.length : Int) < degN l.length) = False := by simp
          have eK : (keysF l (degN l.length)).length = degN l.length - 1 := keysF_len l _
          have eW : (kidsF (layF f) l C.length (degN l.length)).1.length = degN l.length := kidsF_one _ _ _ _
          have d2 := pn.deg2
          have d11 := pn.deg11
          refine cwf_cw ?_
          simp only [cwf_seq, cwf_ops, o_p, owf_call, bo_eq, optQ_some, pop, popQ, ev, evs, putA, look_put, ite_true, ite_false, Nat.reduceEqDiff, L.t13, L.t5]
          refine ⟨_, _, NR.deg l.length hl _, ?_⟩
          simp only [cwf_seq, cwf_ops, c_false, cwf_exit, andThen_normal, andThen_exit, blockQ_exit, roundQ_exit, owf_nil, o_p, owf_call, behind_eq, bo_eq, optQ_some, pop, popQ, ev, evs, putA, look_put, isB_false, abinF_eq, abin, decide_true, decide_false, cond_true, ite_true, ite_false, Bool.not_false, Nat.reduceEqDiff, ci, L.t0, L.t5, t6, t7]
          obtain ⟨y, rfl⟩ : ∃ y, uk = some y := by
            cases hk : uk with
            | none => have := ok.non hk; omega
            | some y => exact ⟨y, rfl⟩
          obtain ⟨w, rfl⟩ : ∃ y, uc = some y := by
            cases hk : uc with
            | none => have := oc.non hk; omega
            | some y => exact ⟨y, rfl⟩
          obtain ⟨v1, k1, F1, x1, hx1, rfl, r1, s1⟩ := rinner_spec hT H (h := h') (uk := y) (uc := w) (n := (l.length : Int)) (K := keysF l (degN l.length)) (W := (kidsF (layF f) l C.length (degN l.length)).1) (by rw [eK]; exact ok) (by rw [eW]; exact oc) (fun e => by rw [e] at eK; simp at eK; omega) (by omega) (by omega)
          rw [eK, eW] at F1
          refine ⟨_, _, F1, ?_⟩
          simp only [owf_call, behind_eq, ev, evs, putA, look_put, ite_true, ite_false, Nat.reduceEqDiff]
          have mm1 := mm.same s1 (fun x => x) (fun _ _ x => x)
          have hws : ([((kidsF (layF f) l C.length (degN l.length)).1.length : Int), (l.length : Int), 0, 0, 0] ++ keysF l (degN l.length) ++ (kidsF (layF f) l C.length (degN l.length)).1).length = 5 + (degN l.length - 1) + degN l.length := by simp only [List.length_append, List.length_cons, List.length_nil, keysF_len, kidsF_one]
          have hCl : (C ++ (kidsF (layF f) l C.length (degN l.length)).2).length = C.length + (kidsF (layF f) l C.length (degN l.length)).2.length := by simp
          have hlt := L.same.next
          obtain ⟨v2, k2, F2, rfl, ⟨u2, m2, n2⟩, s2⟩ := rmake_ok hT H mm1 r1 (fun e => by omega) (by simp) (by rw [hws, hCl]; omega) hz ⟨by omega, by omega⟩
          obtain ⟨v4, k4, F4, rfl, rfl⟩ := rof_spec hT H 3 (((C ++ (kidsF (layF f) l C.length (degN l.length)).2).length : Int) + 1) k2 (by omega) (by omega) (by omega) (by rw [hCl]; omega)
          refine ⟨_, _, F2, ?_⟩
          simp only [cwf_seq, cwf_ops, andThen_normal, owf_nil, o_p, owf_call, behind_eq, bo_eq, optQ_some, pop, popQ, ev, evs, putA, look_put, ite_true, ite_false, Nat.reduceEqDiff, List.getElem?_cons_zero, List.getElem?_cons_succ]
          refine ⟨_, _, F4, ?_⟩
          simp only [cwf_ret, andThen_normal, fnQ_ret, owf_nil, o_p, behind_eq, bo_eq, optQ_some, pop, popQ, ev, putA, look_put, resAll, resA, mkRes1, ite_true, ite_false, Nat.reduceEqDiff, Option.some.injEq, exists_eq_left']
          have s3 : Same h k4 (fun j => j = b ∨ u = some j) := (L.same.trans s1 (fun _ _ x => x.elim)).trans s2 (fun j hj hs => hs.elim .inl (fun e => by
            rcases hu' j e with e2 | e2
            · exact .inr e2
            · omega))
          rw [tail_marks h k4 s3.marks]
          refine ⟨by rw [hCl], ⟨u2, c' + 1, ?_, by omega, by omega, fun y hy => ?_⟩, s3⟩
          · rw [List.append_assoc] at m2
            rw [eW] at m2
            exact m2
          · rcases n2 y hy with e | e
            · exact hu' y e
            · exact .inr (Nat.le_trans L.same.next (Nat.le_trans s1.next e))
      · refine ⟨by simp only [look_put, ite_true, ite_false, Nat.reduceEqDiff], by simp only [look_put, ite_true, ite_false, Nat.reduceEqDiff], by simp only [look_put, ite_true, ite_false, Nat.reduceEqDiff], by simp only [look_put, Int.cast_ofNat_Int, ite_true, ite_false, Nat.reduceEqDiff, pn.zero], by simp only [look_put, Int.cast_ofNat_Int, ite_true, ite_false, Nat.reduceEqDiff] <;> rfl, Nat.zero_le _, ⟨none, none, u, c, by simp only [look_put, Nat.reduceSub, ite_true, ite_false, Nat.reduceEqDiff] <;> rfl, by simp only [look_put, ite_true, ite_false, Nat.reduceEqDiff] <;> rfl, OwnAt.nil _ _, OwnAt.nil _ _, by simpa [kidsF] using m, Int.le_refl _, by simp [kidsF], fun y hy => .inl hy, by simp, by simp⟩, Same.refl _ _⟩
    · match l, h1, h2 with
      | [q], _, _ =>
        obtain ⟨v, h', F, rfl, ⟨u', g1, g2⟩, g3⟩ := rlay_one hT H m hr (by simpa [cellsN, cellsF] using hroom) hz ⟨hc0, by omega⟩
        exact ⟨_, _, F, rfl, ⟨u', c + 1, g1, by omega, by simp [cellsN, cellsF], g2⟩, g3⟩
      | _ :: _ :: _, _, h2 => simp at h2
end
end
end Go.Proofs.Ytedldiimhbebdaa.Ai
/- What the document's questions of a list come to. -/
namespace Go.Proofs.Ytedldiimhbebdaa.Ai
open Go.Proofs.Ytedldiimhbebdaa
noncomputable section
open Go.RowKit
section
variable {P : Program} {tab : Nat → Option AFunc} (hT : TabOk P tab) (H : HasR tab)
include hT H

theorem rmap_spec {h : Heap} {v : Value} {l : List Pr} {u : Option Nat} (a : PrAt h v l u) (hl : l.length < 1000000) : FSpec P 66 [v] h fun v h' => (v = .bool true ∧ Asc l ∨ v = .bool false ∧ ¬ Asc l) ∧ h' = h := by
  refine fspec_cwf hT H.r66 rfl ?_
  rcases a with ⟨rfl, base, cap, rfl⟩ | ⟨x, p, cap, rfl, rfl, hpos, hr⟩
  · simp only [af66, cwf_seq, cwf_ops, cwf_block, cwf_loop, andThen_normal, owf_nil, o_p, bo_eq, optQ_some, pop, popQ, ev, putA, putArgs]
    refine cw_lw (lw_step ?_)
    simp only [cwf_seq, cwf_ops, cwf_ret, c_false, cwf_exit, andThen_normal, andThen_exit, blockQ_exit, lwQ_exit, fnQ_ret, owf_nil, o_p, bo_eq, optQ_some, pop, popQ, ev, putA, look_put, isB_false, abinF_eq, abin, resAll, resA, mkRes1, Int.reduceLT, Int.cast_ofNat_Int, decide_true, decide_false, cond_true, cond_false, ite_true, ite_false, Bool.not_false, Nat.reduceEqDiff, Option.some.injEq, exists_eq_left', true_and, and_true]
    exact .inl (fun j hj => by simp at hj)
  · simp only [af66, cwf_seq, cwf_ops, cwf_block, cwf_loop, andThen_normal, owf_nil, o_p, bo_eq, optQ_some, pop, popQ, ev, putA, putArgs]
    refine cw_loop (fun k ts h' => ∃ i : Nat, k = l.length - i ∧ 1 ≤ i ∧ i ≤ l.length ∧ h' = h ∧ look ts 0 = .slice (some ⟨x, p, none⟩) l.length cap ∧ look ts 3 = I i ∧ ∀ j (hj : j + 1 < l.length), j + 1 < i → l[j].1 < l[j + 1].1) ?_ (n := l.length - 1) ⟨1, rfl, Nat.le_refl _, hpos, rfl, by simp only [look_put, ite_true, ite_false, Nat.reduceEqDiff], by simp only [look_put, Int.cast_ofNat_Int, ite_true, ite_false, Nat.reduceEqDiff] <;> rfl, fun j hj h1 => by omega⟩
    rintro k ts h' ⟨i, rfl, i1, i2, rfl, t0, t3, hasc⟩
    refine cwf_cw ?_
    by_cases hi : i < l.length
    · have ci : ((i : Int) < l.length) = True := by simp [hi]
      have w1 : wrapF .i64 ((i : Int) - 1) = ((i - 1 : Nat) : Int) := by rw [wrapI] <;> omega
      have wi : wrapF .i64 ((i : Int) + 1) = ((i + 1 : Nat) : Int) := by rw [wrapI] <;> omega
      have c2 : (((i - 1 : Nat) : Int) < l.length) = True := by simp; omega
      have r1 : h'.rd x (p + i * 2) = some (I l[i].1) := by rw [hr.rd (by omega)]; exact flat_key l i hi
      have r2 : h'.rd x (p + (i - 1) * 2) = some (I l[i - 1].1) := by rw [hr.rd (by omega)]; exact flat_key l (i - 1) (by omega)
      simp only [cwf_seq, cwf_ops, c_true, cwf_skip, cwf_block, cwf_draw, andThen_normal, owf_nil, o_p, bo_eq, bd_eq, optQ_some, d_p, d_r, pop, popQ, rop_load1, ldV_ptr, ev, putA, look_put, isB_true, abinF_eq, abin, Int.toNat_natCast, Int.natCast_nonneg, Nat.add_zero, inB_eq, decide_true, cond_true, cond_false, ite_true, ite_false, Bool.and_true, Nat.reduceEqDiff, t0, t3, ci]
      refine ⟨cf00, cf00_ok, ?_⟩
      by_cases hc : l[i].1 ≤ l[i - 1].1
      · simp only [cwf_seq, cwf_ops, cwf_ret, c_true, andThen_normal, andThen_ret, blockQ_ret, roundQ_ret, fnQ_ret, owf_nil, o_p, bo_eq, bd_eq, optQ_some, dwf_nil, d_p, d_r, pop, popQ, rop_load1, ldV_ptr, ev, putA, look_put, isB_true, abinF_eq, abin, resAll, resA, mkRes1, Int.toNat_natCast, Int.natCast_nonneg, Nat.add_zero, inB_eq, decide_true, cond_true, ite_true, ite_false, Bool.and_true, Nat.reduceEqDiff, Option.some.injEq, exists_eq_left', true_and, and_true, t0, t3, w1, c2, r1, r2, hc]
        refine .inr (fun ha => ?_)
        have := ha (i - 1) (by omega)
        have e : i - 1 + 1 = i := by omega
        simp only [e] at this
        omega
      · simp only [cwf_ops, c_false, cwf_skip, andThen_normal, blockQ_normal, roundQ_normal, owf_nil, o_p, bo_eq, bd_eq, optQ_some, dwf_nil, d_p, d_r, pop, popQ, rop_load1, ldV_ptr, ev, putA, look_put, isB_false, abinF_eq, abin, Int.toNat_natCast, Int.natCast_nonneg, Nat.add_zero, inB_eq, decide_true, decide_false, cond_true, ite_true, ite_false, Bool.and_true, Bool.not_false, Nat.reduceEqDiff, true_and, t0, t3, w1, c2, r1, r2, hc, wi]
        refine ⟨l.length - (i + 1), by omega, i + 1, rfl, by omega, by omega, rfl, fun j hj hji => ?_⟩
        by_cases hj2 : j + 1 < i
        · exact hasc j hj hj2
        · have e : j = i - 1 := by omega
          subst e
          have e : i - 1 + 1 = i := by omega
          simp only [e]
          omega
    · have ci : ((i : Int) < l.length) = False := by simp; omega
      have ha : Asc l := fun j hj => hasc j hj (by omega)
      simp only [cwf_seq, cwf_ops, cwf_ret, c_false, cwf_exit, andThen_normal, andThen_exit, blockQ_exit, roundQ_exit, fnQ_ret, owf_nil, o_p, bo_eq, optQ_some, pop, popQ, ev, putA, look_put, isB_false, abinF_eq, abin, resAll, resA, mkRes1, decide_true, decide_false, cond_true, cond_false, ite_true, ite_false, Bool.not_false, Nat.reduceEqDiff, Option.some.injEq, exists_eq_left', true_and, and_true, t0, t3, ci]
      exact .inl ha

theorem rasc_spec {h : Heap} {v : Value} {l : List Pr} {u : Option Nat} (a : PrAt h v l u) (hl : l.length < 1000000) : FSpec P 31 [v] h fun v h' => (v = .bool true ∧ Asc l ∧ l.length ≤ 16384 ∨ v = .bool false ∧ ¬ (Asc l ∧ l.length ≤ 16384)) ∧ h' = h := by
  refine fspec_cwf hT H.r31 rfl ?_
  obtain ⟨base, cap, hv⟩ := a.len
  obtain ⟨v1, h1, F1, hr, rfl⟩ := rmap_spec hT H a hl
  simp only [af31, cwf_seq, cwf_ops, andThen_normal, owf_nil, o_p, owf_call, bo_eq, optQ_some, pop, popQ, ev, evs, putA, putArgs, look_put, ite_true, ite_false, Nat.reduceEqDiff]
  refine ⟨_, _, F1, ?_⟩
  subst hv
  rcases hr with ⟨rfl, ha⟩ | ⟨rfl, hn⟩
  · by_cases hb : (l.length : Int) ≤ 16384
    · simp only [cwf_ret, andThen_normal, fnQ_ret, owf_nil, o_p, o_on, behind_eq, bo_eq, optQ_some, pop, popQ, ev, putA, look_put, isB_true, abinF_eq, abin, resAll, resA, mkRes1, decide_true, cond_true, cond_false, ite_true, ite_false, Nat.reduceEqDiff, Option.some.injEq, exists_eq_left', true_and, and_true, hb]
      exact .inl ⟨ha, by omega⟩
    · simp only [cwf_ret, andThen_normal, fnQ_ret, owf_nil, o_p, o_on, behind_eq, bo_eq, optQ_some, pop, popQ, ev, putA, look_put, isB_true, abinF_eq, abin, resAll, resA, mkRes1, decide_true, decide_false, cond_true, cond_false, ite_true, ite_false, Nat.reduceEqDiff, Option.some.injEq, exists_eq_left', true_and, and_true, hb]
      exact .inr (fun hx => by omega)
  · simp only [cwf_ret, andThen_normal, fnQ_ret, owf_nil, o_p, o_off, behind_eq, bo_eq, optQ_some, pop, popQ, ev, putA, look_put, isB_true, resAll, resA, mkRes1, cond_false, ite_true, ite_false, Nat.reduceEqDiff, Option.some.injEq, exists_eq_left', true_and, and_true]
    exact .inr (fun hx => hn hx.1)
end
end
end Go.Proofs.Ytedldiimhbebdaa.Ai
/- What the document's Build comes to. -/
namespace Go.Proofs.Ytedldiimhbebdaa.Ai
open Go.Proofs.Ytedldiimhbebdaa
noncomputable section
open Go.RowKit
section
variable {P : Program} {tab : Nat → Option AFunc} (hT : TabOk P tab) (H : HasR tab)
include hT H

theorem rbuild_spec (NR : NumR P) {h : Heap} {v : Value} {l : List Pr} {ul : Option Nat} (a : PrAt h v l ul) (hl : l.length ≤ 120) {b : Nat} {u : Option Nat} {C : List Int} {z c o r : Int} (m : RMemAt h b u C z c o r) (hb : ul ≠ some b) (hu : ∀ y, ul = some y → u ≠ some y) (hC : (C.length : Int) ≤ z) (hz : z ≤ 65536) (hc0 : 0 ≤ c) (hc1 : c < 900000000) :
    FSpec P 28 [.pointer (some ⟨b, 0, none⟩), v] h fun v h' =>
      (v = .tuple #[I (layF (l.length + 1) l C.length).1, .bool true] ∧ Asc l ∧ (C.length : Int) + cellsN l.length ≤ z ∧ (∃ u' c', RMemAt h' b u' (C ++ (layF (l.length + 1) l C.length).2) z c' o r ∧ c ≤ c' ∧ c' ≤ c + cellsN l.length ∧ (∀ y, u' = some y → u = some y ∨ h.next ≤ y)) ∧ Same h h' (fun j => j = b ∨ u = some j)) ∨
      (v = .tuple #[I 0, .bool false] ∧ ¬ (Asc l ∧ (C.length : Int) + cellsN l.length ≤ z) ∧ h' = h) := by
  generalize hW : layF (l.length + 1) l C.length = W
  refine fspec_cwf hT H.r28 rfl ?_
  obtain ⟨base, cap, hv⟩ := a.len
  have hcm : cellsN l.length ≤ 1100 := cells_most hl
  obtain ⟨v1, h1, F1, hr, rfl⟩ := rasc_spec hT H a (by omega)
  have wz : wrapF .i64 (z - C.length) = z - C.length := wrapI (by omega) (by omega)
  have F2 := NR.cel l.length hl h1
  simp only [af28, cwf_seq, cwf_ops, andThen_normal, owf_nil, o_p, bo_eq, optQ_some, pop, popQ, ev, putA, putArgs, Nat.zero_add]
  rcases hr with ⟨rfl, ha, hla⟩ | ⟨rfl, hn⟩
  · refine cwf_quiet (cfOf 31 [v] h1 (.bool true) h1 (cfOf 64 [I l.length] h1 (I (cellsN l.length)) h1 cf00)) (cfOf_ok F1 (cfOf_ok F2 cf00_ok)) ?_
    have g1 : cfOf 31 [v] h1 (.bool true) h1 (cfOf 64 [I l.length] h1 (I (cellsN l.length)) h1 cf00) (.fn 31) [v] h1 = some (.bool true, h1) := cfOf_eq
    have g2 : cfOf 31 [v] h1 (.bool true) h1 (cfOf 64 [I l.length] h1 (I (cellsN l.length)) h1 cf00) (.fn 64) [I l.length] h1 = some (I (cellsN l.length), h1) := by rw [cfOf_ne (by decide)]; exact cfOf_eq
    subst hv
    by_cases hroom : (C.length : Int) + cellsN l.length ≤ z
    · have cr : ((cellsN l.length : Int) > z - C.length) = False := by simp; omega
      simp only [cwf_seq, cwf_ops, c_false, cwf_skip, andThen_normal, o_p, owf_call, bo_eq, optQ_some, opt2_some, pop, popQ, rop_load1, ldV_ptr, ev, evs, putA, look_put, isB_false, abinF_eq, abin, Nat.add_zero, decide_true, decide_false, cond_true, cond_false, ite_true, ite_false, Bool.not_true, Bool.not_false, Nat.reduceEqDiff, Nat.zero_add, true_and, q_nil, q_p, q_r, q_call, q_on, bq_eq, bqv_eq, bq2_eq, veq_int, veq_slice, g1, g2, m.rd0, m.rd1, wz, cr]
      rcases a with ⟨rfl, base', cap', hv'⟩ | ⟨x, p, cap', rfl, hv', hpos, hrd⟩
      · cases hv'
        obtain ⟨v5, h5, F5, rfl, ⟨u', m5, n5⟩, s5⟩ := rlay_nil hT H m (base := base) (cap := cap) (by rw [List.length_nil, cells0] at hroom; exact hroom) hz ⟨hc0, by omega⟩
        refine ⟨_, _, F5, ?_⟩
        simp only [cwf_ret, andThen_normal, fnQ_ret, owf_nil, o_p, behind_eq, bo_eq, optQ_some, pop, popQ, ev, putA, look_put, resAll, resA, mkRes2, List.length_nil, Int.cast_ofNat_Int, ite_true, ite_false, Nat.reduceEqDiff, Option.some.injEq, exists_eq_left']
        rw [tail_marks h1 h5 s5.marks]
        subst hW
        exact .inl ⟨rfl, ha, hroom, ⟨u', c + 1, m5, by omega, by rw [cells0]; simp, n5⟩, s5⟩
      · cases hv'
        obtain ⟨v5, h5, F5, rfl, ⟨u', c', m5, b1, b2, n5⟩, s5⟩ := rlay_spec hT H NR (l.length + 1) l h1 b x p cap u C z c o r (by omega) hl hpos m hrd (fun e => hb (by rw [e])) (hu x rfl) hroom hz hc0 (by omega)
        rw [hW] at F5 m5
        refine ⟨_, _, F5, ?_⟩
        simp only [cwf_ret, andThen_normal, fnQ_ret, owf_nil, o_p, behind_eq, bo_eq, optQ_some, pop, popQ, ev, putA, look_put, resAll, resA, mkRes2, ite_true, ite_false, Nat.reduceEqDiff, Option.some.injEq, exists_eq_left', true_and]
        rw [tail_marks h1 h5 s5.marks]
        exact .inl ⟨ha, hroom, ⟨u', c', m5, b1, b2, n5⟩, s5⟩
    · have cr : ((cellsN l.length : Int) > z - C.length) = True := by simp; omega
      simp only [cwf_seq, cwf_ops, cwf_ret, c_true, andThen_normal, andThen_ret, fnQ_ret, owf_nil, o_p, bo_eq, optQ_some, opt2_some, pop, popQ, rop_load1, ldV_ptr, ev, evs, putA, look_put, isB_true, isB_false, abinF_eq, abin, resAll, resA, mkRes2, Nat.add_zero, decide_true, cond_true, cond_false, ite_true, ite_false, Bool.not_true, Bool.not_false, Nat.reduceEqDiff, Nat.zero_add, Option.some.injEq, exists_eq_left', true_and, and_true, q_nil, q_p, q_r, q_call, q_on, bq_eq, bqv_eq, bq2_eq, veq_int, veq_slice, g1, g2, m.rd0, m.rd1, wz, cr]
      exact .inr (fun hx => hroom hx.2)
  · refine cwf_quiet (cfOf 31 [v] h1 (.bool false) h1 cf00) (cfOf_ok F1 cf00_ok) ?_
    have g1 : cfOf 31 [v] h1 (.bool false) h1 cf00 (.fn 31) [v] h1 = some (.bool false, h1) := cfOf_eq
    simp only [cwf_seq, cwf_ops, cwf_ret, c_true, andThen_normal, andThen_ret, fnQ_ret, owf_nil, o_p, bo_eq, optQ_some, opt2_some, pop, popQ, ev, evs, putA, look_put, isB_true, isB_false, resAll, resA, mkRes2, cond_true, ite_true, ite_false, Bool.not_true, Bool.not_false, Nat.reduceEqDiff, Option.some.injEq, exists_eq_left', true_and, and_true, q_nil, q_p, q_call, q_off, bq_eq, bq2_eq, g1]
    exact .inr (fun hx => hn ⟨hx.1, by omega⟩)
end
end
end Go.Proofs.Ytedldiimhbebdaa.Ai
/- What is refused; lists; copies. -/
namespace Go.Proofs.Ytedldiimhbebdaa.Ai
open Go.Proofs.Ytedldiimhbebdaa
noncomputable section
open Go.RowKit
section
variable {P : Program} {tab : Nat → Option AFunc} (hT : TabOk P tab)
include hT

theorem make_no (H : Has tab) {h : Heap} {b : Nat} {u : Option Nat} {C : List Int} {z c o r : Int} (m : MemAt h b u C z c o r) {base : Option Addr} {cap n : Nat} (hn : n = 0 ∨ z < (C.length : Int) + n) (hz : 0 ≤ z ∧ z ≤ 65536) (hC : (C.length : Int) ≤ z) (hc : 0 ≤ c ∧ c < 1000000000) (hr : 0 ≤ r ∧ r < 1000000000) :
    FSpec P 35 [.pointer (some ⟨b, 0, none⟩), .slice base n cap] h fun v h' => v = .tuple #[I 0, .bool false] ∧ MemAt h' b u C z (c + 1) o (r + 1) ∧ Same h h' (fun j => j = b) := by
  refine fspec_cwf hT H.f35 rfl ?_
  have wc : wrapF .i64 (c + 1) = c + 1 := wrapI (by omega) (by omega)
  have wr : wrapF .i64 (r + 1) = r + 1 := wrapI (by omega) (by omega)
  have wz : wrapF .i64 (z - C.length) = z - C.length := wrapI (by omega) (by omega)
  have m1 := m.set z (c + 1) o r
  have m2 := m1.set z (c + 1) o (r + 1)
  have s : Same h ((h.setB b (memBlk (useSl u C) z (c + 1) o r)).setB b (memBlk (useSl u C) z (c + 1) o (r + 1))) (fun j => j = b) := (Same.setB (S := fun j => j = b) rfl).trans (Same.setB (S := fun j => j = b) rfl) (fun _ _ x => x)
  simp only [af35, cwf_seq, cwf_ops, cwf_draw, andThen_normal, owf_nil, o_p, o_r, o_e, behind_eq, bo_eq, bd_eq, optQ_some, opt2_some, d_p, pop, popQ, rop_load1, ldV_ptr, ev, putA, putArgs, look_put, abinF_eq, abin, eop_store1, st1, scalar_int, decide_true, cond_true, cond_false, ite_true, ite_false, Nat.reduceEqDiff, Nat.zero_add, m.rd2, m.wr2, wc]
  refine ⟨cf00, cf00_ok, ?_⟩
  rcases Nat.eq_zero_or_pos n with e0 | e0
  · subst e0
    simp only [cwf_seq, cwf_ops, cwf_ret, c_true, andThen_normal, andThen_ret, fnQ_ret, owf_nil, o_p, o_r, o_e, behind_eq, bo_eq, bd_eq, optQ_some, opt2_some, dwf_nil, d_p, d_off, pop, popQ, rop_load1, ldV_ptr, ev, putA, look_put, isB_true, isB_false, abinF_eq, abin, resAll, resA, mkRes2, eop_store1, st1, Int.cast_ofNat_Int, scalar_int, decide_true, cond_true, ite_true, ite_false, Bool.not_true, Nat.reduceEqDiff, Nat.zero_add, Option.some.injEq, exists_eq_left', true_and, beq_self_eq_true, m1.rd4, m1.wr4, wr]
    exact ⟨m2, s⟩
  · have hb : ((n : Int) == 0) = false := by rw [beq_eq_false_iff_ne]; omega
    have hg : ((n : Int) > z - C.length) = True := by simp; omega
    simp only [cwf_seq, cwf_ops, cwf_ret, c_true, andThen_normal, andThen_ret, fnQ_ret, owf_nil, o_p, o_r, o_e, behind_eq, bo_eq, bd_eq, optQ_some, opt2_some, dwf_nil, d_p, d_r, d_on, pop, popQ, rop_load1, ldV_ptr, ev, putA, look_put, isB_true, isB_false, abinF_eq, abin, resAll, resA, mkRes2, eop_store1, st1, Nat.add_zero, scalar_int, decide_true, cond_true, cond_false, ite_true, ite_false, Bool.not_false, Nat.reduceEqDiff, Nat.zero_add, Option.some.injEq, exists_eq_left', true_and, m1.rd0, m1.rd1, m1.rd4, m1.wr4, hb, wz, wr, hg]
    exact ⟨m2, s⟩

theorem rmake_no (H : HasR tab) {h : Heap} {b : Nat} {u : Option Nat} {C : List Int} {z c o r : Int} (m : RMemAt h b u C z c o r) {base : Option Addr} {cap n : Nat} (hn : n = 0 ∨ z < (C.length : Int) + n) (hz : 0 ≤ z ∧ z ≤ 65536) (hC : (C.length : Int) ≤ z) (hc : 0 ≤ c ∧ c < 1000000000) (hr : 0 ≤ r ∧ r < 1000000000) :
    FSpec P 25 [.pointer (some ⟨b, 0, none⟩), .slice base n cap] h fun v h' => v = .tuple #[I 0, .bool false] ∧ RMemAt h' b u C z (c + 1) o (r + 1) ∧ Same h h' (fun j => j = b) := by
  refine fspec_cwf hT H.r25 rfl ?_
  have wc : wrapF .i64 (c + 1) = c + 1 := wrapI (by omega) (by omega)
  have wr : wrapF .i64 (r + 1) = r + 1 := wrapI (by omega) (by omega)
  have wz : wrapF .i64 (z - C.length) = z - C.length := wrapI (by omega) (by omega)
  have m1 := m.set z (c + 1) o r
  have m2 := m1.set z (c + 1) o (r + 1)
  have s : Same h ((h.setB b (rmemBlk (useSl u C) z (c + 1) o r)).setB b (rmemBlk (useSl u C) z (c + 1) o (r + 1))) (fun j => j = b) := (Same.setB (S := fun j => j = b) rfl).trans (Same.setB (S := fun j => j = b) rfl) (fun _ _ x => x)
  simp only [af25, cwf_seq, cwf_ops, cwf_draw, andThen_normal, owf_nil, o_p, o_r, o_e, behind_eq, bo_eq, bd_eq, optQ_some, opt2_some, d_p, pop, popQ, rop_load1, ldV_ptr, ev, putA, putArgs, look_put, abinF_eq, abin, eop_store1, st1, scalar_int, decide_true, cond_true, cond_false, ite_true, ite_false, Nat.reduceEqDiff, Nat.zero_add, m.rd2, m.wr2, wc]
  refine ⟨cf00, cf00_ok, ?_⟩
  rcases Nat.eq_zero_or_pos n with e0 | e0
  · subst e0
    simp only [cwf_seq, cwf_ops, cwf_ret, c_true, andThen_normal, andThen_ret, fnQ_ret, owf_nil, o_p, o_r, o_e, behind_eq, bo_eq, bd_eq, optQ_some, opt2_some, dwf_nil, d_p, d_off, pop, popQ, rop_load1, ldV_ptr, ev, putA, look_put, isB_true, isB_false, abinF_eq, abin, resAll, resA, mkRes2, eop_store1, st1, Int.cast_ofNat_Int, scalar_int, decide_true, cond_true, ite_true, ite_false, Bool.not_true, Nat.reduceEqDiff, Nat.zero_add, Option.some.injEq, exists_eq_left', true_and, beq_self_eq_true, m1.rd4, m1.wr4, wr]
    exact ⟨m2, s⟩
  · have hb : ((n : Int) == 0) = false := by rw [beq_eq_false_iff_ne]; omega
    have hg : ((n : Int) > z - C.length) = True := by simp; omega
    simp only [cwf_seq, cwf_ops, cwf_ret, c_true, andThen_normal, andThen_ret, fnQ_ret, owf_nil, o_p, o_r, o_e, behind_eq, bo_eq, bd_eq, optQ_some, opt2_some, dwf_nil, d_p, d_r, d_on, pop, popQ, rop_load1, ldV_ptr, ev, putA, look_put, isB_true, isB_false, abinF_eq, abin, resAll, resA, mkRes2, eop_store1, st1, Nat.add_zero, scalar_int, decide_true, cond_true, cond_false, ite_true, ite_false, Bool.not_false, Nat.reduceEqDiff, Nat.zero_add, Option.some.injEq, exists_eq_left', true_and, m1.rd0, m1.rd1, m1.rd4, m1.wr4, hb, wz, wr, hg]
    exact ⟨m2, s⟩

theorem copy_spec (H : Has tab) (HR : HasR tab) {h : Heap} {b : Nat} {u : Option Nat} {C : List Int} {z c o r : Int} (m : RMemAt h b u C z c o r) (hz : 1 ≤ z ∧ z ≤ 65536) (hC : (C.length : Int) ≤ z) :
    FSpec P 26 [.pointer (some ⟨b, 0, none⟩)] h fun v h' => v = .pointer (some ⟨h.next, 0, none⟩) ∧ (∃ u' r', MemAt h' h.next u' C z 1 0 r' ∧ (∀ y, u' = some y → h.next < y)) ∧ Same h h' (fun _ => False) := by
  refine fspec_cwf hT HR.r26 rfl ?_
  obtain ⟨v1, h1, F1, rfl, m1, s1⟩ := new_spec hT H h z hz.1 hz.2
  have mr := m.same s1 (fun x => x) (fun _ _ x => x)
  have hlt := m.lt
  have x1 := m1.lt
  simp only [af26, cwf_seq, cwf_ops, andThen_normal, owf_nil, o_p, o_r, owf_call, bo_eq, optQ_some, pop, popQ, rop_load1, ldV_ptr, ev, evs, putA, putArgs, look_put, Nat.add_zero, ite_true, ite_false, Nat.reduceEqDiff, m.rd0]
  refine ⟨_, _, F1, ?_⟩
  simp only [cwf_seq, cwf_ops, andThen_normal, owf_nil, o_p, o_r, owf_call, behind_eq, bo_eq, optQ_some, pop, popQ, rop_load1, ldV_ptr, ev, evs, putA, look_put, ite_true, ite_false, Nat.reduceEqDiff, Nat.zero_add, List.getElem?_cons_zero, List.getElem?_cons_succ, mr.rd1]
  cases u with
  | none =>
    have hc := m.non rfl
    subst hc
    obtain ⟨v2, h2, F2, rfl, m2, s2⟩ := make_no hT H m1 (base := none) (cap := 0) (n := 0) (.inl rfl) ⟨by omega, hz.2⟩ (by simpa using hC) ⟨by omega, by omega⟩ ⟨by omega, by omega⟩
    refine ⟨_, _, F2, ?_⟩
    simp only [cwf_seq, cwf_ops, cwf_ret, andThen_normal, fnQ_ret, owf_nil, o_p, behind_eq, bo_eq, optQ_some, pop, popQ, ev, putA, look_put, resAll, resA, mkRes1, ite_true, ite_false, Nat.reduceEqDiff, Option.some.injEq, exists_eq_left', true_and]
    have sf : Same h h2 (fun _ => False) := s1.trans s2 (fun j hj e => by omega)
    rw [tail_marks h h2 sf.marks]
    exact ⟨⟨none, _, m2, fun y hy => by cases hy⟩, sf⟩
  | some y =>
    have hy := m.use y rfl
    obtain ⟨v2, h2, F2, rfl, ⟨u2, m2, n2⟩, s2⟩ := make_ok hT H m1 (m.own.rd.same s1 (fun x => x)) (by omega) hy.2.2.2 (by simpa using hC) hz.2 ⟨by omega, by omega⟩
    refine ⟨_, _, F2, ?_⟩
    simp only [cwf_seq, cwf_ops, cwf_ret, andThen_normal, fnQ_ret, owf_nil, o_p, behind_eq, bo_eq, optQ_some, pop, popQ, ev, putA, look_put, resAll, resA, mkRes1, List.length_nil, Int.reduceAdd, Int.cast_ofNat_Int, ite_true, ite_false, Nat.reduceEqDiff, Option.some.injEq, exists_eq_left', true_and]
    have sf : Same h h2 (fun _ => False) := s1.trans s2 (fun j hj e => e.elim (fun e => by omega) (fun e => by cases e))
    rw [tail_marks h h2 sf.marks]
    exact ⟨⟨u2, _, m2, fun w hw => (n2 w hw).elim (fun e => by cases e) (fun e => by omega)⟩, sf⟩
end
end
end Go.Proofs.Ytedldiimhbebdaa.Ai
/- Lists as they come, or made; whether two are alike. -/
namespace Go.Proofs.Ytedldiimhbebdaa.Ai
open Go.Proofs.Ytedldiimhbebdaa
noncomputable section
open Go.RowKit
theorem eq_pair (a b : Int) : eqE (.fld false 0 1 .int (.fld false 1 1 .int .done)) (.agg [I a, I b].toArray) (.agg [I a, I b].toArray) = some true := by simp [eqE]

def ldN (h : Heap) (n : Nat) (v : Value) : Option Value := match v with
  | .pointer (some ⟨b, o, none⟩) => (match h.rds b o n with
    | some l => some (.agg l.toArray)
    | none => none)
  | _ => none
theorem rop_loadN {ts : T Value} {h : Heap} {n : Nat} {x : Opd} : rop ts h (.loadN n x) = ldN h n (ev ts x) := (rfl)
theorem ldN_of {h : Heap} {b o n : Nat} {l : List Value} (hr : h.rds b o n = some l) : ldN h n (.pointer (some ⟨b, o, none⟩)) = some (.agg l.toArray) := by
  show (match h.rds b o n with | some l => some (Value.agg l.toArray) | none => none) = _
  rw [hr]

theorem pair_rds {h : Heap} {x p cap : Nat} {l : List Pr} (r : RdAt h x p 2 l.length cap (flat l)) {i : Nat} (hi : i < l.length) : h.rds x (p + i * 2) 2 = some [I l[i].1, I l[i].2] := by
  have s := r.sub (lo := i) (hi := i + 1) (by omega) (by omega)
  have := s.src
  have e : i + 1 - i = 1 := by omega
  rw [e] at this
  show h.rds x (p + i * 2) 2 = _
  have h2 : srcCells h 2 (.slice (some ⟨x, p + i * 2, none⟩) 1 (cap - i)) = (match h.rds x (p + i * 2) (1 * 2) with | some l => some (l, 1) | none => none) := (rfl)
  rw [h2] at this
  cases hq : h.rds x (p + i * 2) (1 * 2) with
  | none => rw [hq] at this; cases this
  | some q =>
    rw [hq] at this
    simp only [Option.some.injEq, Prod.mk.injEq, and_true] at this
    rw [this]
    have hk := flat_key l i hi
    have hv := flat_val l i hi
    have hlen := flat_len l
    apply congrArg some
    apply List.ext_getElem?
    intro j
    match j with
    | 0 => simp [hk]
    | 1 => simp [List.getElem?_drop, hv]
    | j + 2 => simp [List.getElem?_take]; omega

section
variable {P : Program} {tab : Nat → Option AFunc} (hT : TabOk P tab)
include hT

theorem lists_spec (H : Has tab) (HR : HasR tab) {h : Heap} {v w : Value} {raw : List Pr} {ur : Option Nat} {L : List Int} (a : PrAt h v raw ur) (a' : IntsAt h w L) (b : Bool) :
    FSpec P 21 [v, w, .bool b] h fun v' h' => (∃ l u, PrAt h' v' l u ∧ ((b = true ∧ l = raw ∧ u = ur) ∨ (b = false ∧ Asc l ∧ l.length ≤ 60 ∧ ∀ y, u = some y → h.next ≤ y ∧ y < h'.next))) ∧ Same h h' (fun _ => False) := by
  refine fspec_cwf hT HR.r21 rfl ?_
  cases b with
  | true =>
    simp only [af21, cwf_seq, cwf_ops, cwf_ret, c_true, andThen_normal, andThen_ret, fnQ_ret, owf_nil, o_p, bo_eq, optQ_some, pop, popQ, ev, putA, putArgs, look_put, isB_true, resAll, resA, mkRes1, ite_true, ite_false, Nat.reduceEqDiff, Nat.reduceAdd, Nat.zero_add, Option.some.injEq, exists_eq_left', true_and]
    exact ⟨⟨raw, ur, a, .inl ⟨rfl, rfl⟩⟩, Same.refl _ _⟩
  | false =>
    obtain ⟨v1, h1, F1, ⟨l, u, rfl, o, hasc, hl, hu⟩, s1⟩ := pairs_spec hT H a'
    simp only [af21, cwf_seq, cwf_ops, c_false, cwf_skip, andThen_normal, owf_nil, o_p, owf_call, bo_eq, optQ_some, pop, popQ, ev, evs, putA, putArgs, look_put, isB_false, ite_true, ite_false, Bool.not_false, Nat.reduceEqDiff, Nat.reduceAdd, Nat.zero_add, true_and]
    refine ⟨_, _, F1, ?_⟩
    simp only [cwf_ret, andThen_normal, fnQ_ret, owf_nil, o_p, behind_eq, bo_eq, optQ_some, pop, popQ, ev, putA, look_put, resAll, resA, mkRes1, ite_true, ite_false, Nat.reduceEqDiff, Option.some.injEq, exists_eq_left']
    rw [tail_marks h h1 s1.marks]
    exact ⟨⟨l, u, own_pr o, .inr ⟨hasc, hl, fun y hy => ⟨hu y hy, (o.use y hy).2.1⟩⟩⟩, s1⟩

theorem alike_spec (HR : HasR tab) {h : Heap} {v w : Value} {l : List Pr} {u u' : Option Nat} (a : PrAt h v l u) (b : PrAt h w l u') (hl : l.length < 1000000) : FSpec P 32 [v, w] h fun x h' => x = .bool true ∧ h' = h := by
  refine fspec_cwf hT HR.r32 rfl ?_
  obtain ⟨b1, c1, hv⟩ := a.len
  obtain ⟨b2, c2, hw⟩ := b.len
  have e : ((l.length : Int) != l.length) = false := by simp
  subst hv; subst hw
  simp only [af32, cwf_seq, cwf_ops, c_false, cwf_skip, cwf_block, cwf_loop, andThen_normal, owf_nil, o_p, bo_eq, optQ_some, pop, popQ, ev, putA, putArgs, look_put, isB_false, abinF_eq, abin, decide_true, cond_true, cond_false, ite_true, ite_false, Bool.not_false, Nat.reduceEqDiff, Nat.zero_add, e]
  refine cw_loop (fun k ts h' => ∃ i : Nat, k = l.length - i ∧ i ≤ l.length ∧ h' = h ∧ look ts 0 = .slice b1 l.length c1 ∧ look ts 1 = .slice b2 l.length c2 ∧ look ts 5 = I i) ?_ (n := l.length) ⟨0, rfl, Nat.zero_le _, rfl, by simp only [look_put, ite_true, ite_false, Nat.reduceEqDiff], by simp only [look_put, ite_true, ite_false, Nat.reduceEqDiff], by simp only [look_put, Int.cast_ofNat_Int, ite_true, ite_false, Nat.reduceEqDiff] <;> rfl⟩
  rintro k ts h' ⟨i, rfl, i2, rfl, t0, t1, t5⟩
  refine cwf_cw ?_
  by_cases hi : i < l.length
  · have ci : ((i : Int) < l.length) = True := by simp [hi]
    have wi : wrapF .i64 ((i : Int) + 1) = ((i + 1 : Nat) : Int) := by rw [wrapI] <;> omega
    rcases a with ⟨rfl, _⟩ | ⟨x, p, cap, rfl, ha, _, ra⟩
    · simp at hi
    rcases b with ⟨rfl, _⟩ | ⟨y, q, cap', rfl, hb, _, rb⟩
    · simp at hi
    cases ha; cases hb
    simp only [cwf_seq, cwf_ops, c_true, cwf_skip, cwf_block, cwf_draw, andThen_normal, owf_nil, o_p, bo_eq, bd_eq, optQ_some, d_p, d_r, pop, popQ, ev, putA, look_put, isB_true, abinF_eq, abin, Int.toNat_natCast, Int.natCast_nonneg, inB_eq, decide_true, cond_true, cond_false, ite_true, ite_false, Bool.and_true, Nat.reduceEqDiff, t0, t5, ci]
    refine ⟨cf00, cf00_ok, ?_⟩
    have q1 := ldN_of (pair_rds ra hi)
    have q2 := ldN_of (pair_rds rb hi)
    simp only [cwf_ops, c_false, cwf_skip, andThen_normal, blockQ_normal, roundQ_normal, owf_nil, o_p, bo_eq, bd_eq, optQ_some, dwf_nil, d_p, d_r, pop, popQ, ev, putA, look_put, isB_false, abinF_eq, abin, Int.toNat_natCast, Int.natCast_nonneg, inB_eq, decide_true, cond_true, ite_true, ite_false, Bool.and_true, Bool.not_true, Bool.not_false, Nat.reduceEqDiff, true_and, rop_loadN, t0, t1, t5, ci, q1, q2, eq_pair, wi]
    exact ⟨l.length - (i + 1), by omega, i + 1, rfl, by omega, rfl⟩
  · have ci : ((i : Int) < l.length) = False := by simp; omega
    simp only [cwf_seq, cwf_ops, cwf_ret, c_false, cwf_exit, andThen_normal, andThen_exit, blockQ_exit, roundQ_exit, fnQ_ret, owf_nil, o_p, bo_eq, optQ_some, pop, popQ, ev, putA, look_put, isB_false, abinF_eq, abin, resAll, resA, mkRes1, decide_true, decide_false, cond_true, cond_false, ite_true, ite_false, Bool.not_false, Nat.reduceEqDiff, Option.some.injEq, exists_eq_left', and_true, t0, t5, ci]
end
end
end Go.Proofs.Ytedldiimhbebdaa.Ai
