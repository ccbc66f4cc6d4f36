/- Texts put together: QA, QB, QC, QD, QE, QF, QG, QH. -/
import Derived.Test.YtedldiimhbebdaaGreatPX
import Derived.Test.YtedldiimhbebdaaGreatTabOk
import Derived.Test.YtedldiimhbebdaaGreatTh2
/- What the document's memory and its records come to. -/
namespace Go.Proofs.YtedldiimhbebdaaGreat.Ai
open Go.Proofs.YtedldiimhbebdaaGreat
noncomputable section
open Go.RowKit
structure HasR (tab : Nat → Option AFunc) : Prop where
  r23 : tab 6 = some af6
  r25 : tab 13 = some af13
  r26 : tab 8 = some af8
  r29 : tab 17 = some af17
  r31 : tab 61 = some af61
  r66 : tab 84 = some af84
  r98 : tab 87 = some af87
  r99 : tab 89 = some af89
  r100 : tab 85 = some af85
  r101 : tab 75 = some af75
  r102 : tab 86 = some af86
  r103 : tab 90 = some af90

theorem hasR : HasR tabT.get := ⟨by kernel_rfl, by kernel_rfl, by kernel_rfl, by kernel_rfl, by kernel_rfl, by kernel_rfl, by kernel_rfl, by kernel_rfl, by kernel_rfl, by kernel_rfl, by kernel_rfl, by kernel_rfl⟩

def rmemBlk (sl : Value) (z c o r : Int) : Blk := ⟨[I z, sl, I c, I o, I r], 5, 5, true, false⟩

/-- the document's memory lies there -/
structure RMemAt (h : Heap) (b : Nat) (u : Option Nat) (C : List Int) (z c o r : Int) : Prop where
  blk : h.blks.get b = some (rmemBlk (useSl u C) z c o r)
  use : ∀ x, u = some x → h.blks.get x = some (usedBlk C) ∧ x ≠ b ∧ x < h.next ∧ C ≠ []
  non : u = none → C = []
  lt : b < h.next

theorem RMemAt.same {h h' : Heap} {b : Nat} {u : Option Nat} {C : List Int} {z c o r : Int} {S : Nat → Prop} (m : RMemAt h b u C z c o r) (s : Same h h' S) (hb : ¬ S b) (hu : ∀ x, u = some x → ¬ S x) : RMemAt h' b u C z c o r :=
  ⟨by rw [s.get b m.lt hb]; exact m.blk, fun x hx => by
    obtain ⟨h1, h2, h3, h4⟩ := m.use x hx
    exact ⟨by rw [s.get x h3 (hu x hx)]; exact h1, h2, Nat.lt_of_lt_of_le h3 s.next, h4⟩, m.non, Nat.lt_of_lt_of_le m.lt s.next⟩

section
variable {h : Heap} {b : Nat} {u : Option Nat} {C : List Int} {z c o r : Int} (m : RMemAt h b u C z c o r)
include m
theorem RMemAt.rd1 : h.rd b 1 = some (useSl u C) := rd_of m.blk
theorem RMemAt.rd0 : h.rd b 0 = some (I z) := rd_of m.blk
theorem RMemAt.rd2 : h.rd b 2 = some (I c) := rd_of m.blk
theorem RMemAt.rd3 : h.rd b 3 = some (I o) := rd_of m.blk
theorem RMemAt.rd4 : h.rd b 4 = some (I r) := rd_of m.blk
theorem RMemAt.wr2 (x : Int) : h.wrs b 2 [I x] = some (h.setB b (rmemBlk (useSl u C) z x o r)) := wrs1_of m.blk rfl (by simp [rmemBlk]) rfl
theorem RMemAt.wr4 (x : Int) : h.wrs b 4 [I x] = some (h.setB b (rmemBlk (useSl u C) z c o x)) := wrs1_of m.blk rfl (by simp [rmemBlk]) rfl
theorem RMemAt.set (z' c' o' r' : Int) : RMemAt (h.setB b (rmemBlk (useSl u C) z' c' o' r')) b u C z' c' o' r' :=
  ⟨by rw [setB_get, if_pos rfl], fun x hx => by
    obtain ⟨h1, h2, h3, h4⟩ := m.use x hx
    exact ⟨by rw [setB_get, if_neg h2]; exact h1, h2, h3, h4⟩, m.non, m.lt⟩
theorem RMemAt.own : OwnAt h u 1 C.length (C.map I) :=
  ⟨fun x hx => by
    obtain ⟨h1, _, h3, h4⟩ := m.use x hx
    exact ⟨by rw [h1, Nat.mul_one]; rfl, h3, List.length_pos_iff.2 h4⟩, fun hu => by rw [m.non hu]; rfl, by simp, by simp [scalar]⟩
end

theorem rmem_wr1 {h : Heap} {b : Nat} {sl v : Value} {z c o r : Int} (hb : h.blks.get b = some (rmemBlk sl z c o r)) (hv : scalar v = true) : h.wrs b 1 [v] = some (h.setB b (rmemBlk v z c o r)) := wrs1_of hb rfl (by simp [rmemBlk]) hv

theorem RMemAt.of_own {h : Heap} {b : Nat} {u : Option Nat} {C : List Int} (a : OwnAt h u 1 C.length (C.map I)) (hu : ∀ x, u = some x → x ≠ b) (hb : b < h.next) (z c o r : Int) : RMemAt (h.setB b (rmemBlk (useSl u C) z c o r)) b u C z c o r :=
  ⟨by rw [setB_get, if_pos rfl], fun x hx => by
    obtain ⟨h1, h2, h3⟩ := a.use x hx
    exact ⟨by rw [setB_get, if_neg (hu x hx), h1, Nat.mul_one]; rfl, hu x hx, h2, List.length_pos_iff.1 h3⟩, fun hn => List.eq_nil_of_length_eq_zero (a.non hn), hb⟩

/-- append to a row that was built as it stands -/
theorem app_lit {h : Heap} {y s n k bytes : Nat} {cells news : List Value} {Y : Value} (hb : h.blks.get y = some ⟨cells, n * s, s, true, false⟩) (hc : cells.length = n * s) (hcs : cells.all scalar = true) (hy : srcCells h s Y = some (news, k)) (hk : news.length = k * s) (hs : news.all scalar = true) (s1 : 1 ≤ s) (k0 : k ≠ 0)
    (b1 : (n + k) * bytes ≤ 1099511627776) (b2 : n + k ≤ 1099511627776) :
    appV h s bytes (.slice (some ⟨y, 0, none⟩) n n) Y = some (ownSl (some h.next) (n + k), h.new ⟨cells ++ news, (n + k) * s, s, true, true⟩) ∧ OwnAt (h.new ⟨cells ++ news, (n + k) * s, s, true, true⟩) (some h.next) s (n + k) (cells ++ news) := by
  have hg : (Nat.ble ((n + k) * bytes) 1099511627776 && Nat.ble (n + k) 1099511627776 && Nat.ble 1 s && news.all scalar) = true := by
    rw [nat_ble b1, nat_ble b2, nat_ble s1, hs]; rfl
  have hrd : h.rds y 0 (n * s) = some cells := by
    rw [rds_of hb (by simp [hc])]; simp [← hc]
  refine ⟨?_, ⟨fun x hx => by cases hx; exact ⟨by rw [new_get]; exact if_pos rfl, Nat.lt_succ_self _, by omega⟩, by simp, by rw [List.length_append, hc, hk, Nat.add_mul], by rw [List.all_append, hcs, hs]; rfl⟩⟩
  unfold appV
  rw [hy]
  simp only
  unfold appA
  rw [hg]
  simp only [cond_true, hb, nat_beq, Bool.not_true, cond_false, nat_ble_f (show ¬ n + k ≤ n by omega), hrd, Bool.false_and, ownSl, Option.map_some]

section
variable {P : Program} {tab : Nat → Option AFunc} (hT : TabOk P tab) (H : HasR tab)
include hT H

theorem rof_spec (k a : Int) (h : Heap) (c1 : k ≥ 1) (c2 : k ≤ 5) (c3 : a ≥ 1) (c4 : a ≤ 65536) : FSpec P 75 [I k, I a] h fun v h' => v = I (a * 8 + k) ∧ h' = h := by
  refine fspec_cwf hT H.r101 rfl ?_
  have d1 : (k < 1) = False := by simp; omega
  have d2 : (k > 5) = False := by simp; omega
  have d3 : (a < 1) = False := by simp; omega
  have d4 : (a > 65536) = False := by simp; omega
  have w1 : wrapF .i64 (8 * a) = 8 * a := wrapI (by omega) (by omega)
  have w2 : wrapF .i64 (8 * a + k) = a * 8 + k := by rw [wrapI] <;> omega
  simp only [af75, cwf_seq, cwf_ops, cwf_ret, c_false, cwf_skip, andThen_normal, fnQ_ret, owf_nil, o_p, o_on, bo_eq, optQ_some, pop, popQ, ev, putA, putArgs, look_put, isB_false, abinF_eq, abin, resAll, resA, mkRes1, decide_true, decide_false, cond_true, cond_false, ite_true, ite_false, Bool.not_false, Nat.reduceEqDiff, Nat.zero_add, Option.some.injEq, exists_eq_left', and_true, d1, d2, d3, d4, w1, w2]

theorem rempty_spec (h : Heap) : FSpec P 85 [] h fun v h' => v = .slice (some ⟨h.next, 0, none⟩) 1 1 ∧ RdAt h' h.next 0 1 1 1 [I 0] ∧ Same h h' (fun _ => False) := by
  refine fspec_cwf hT H.r100 rfl ?_
  simp only [af85, cwf_seq, cwf_ops, cwf_ret, andThen_normal, fnQ_ret, owf_nil, o_p, o_e, behind_eq, bo_eq, optQ_some, opt2_some, pop, popQ, ev, putA, putArgs, look_put, resAll, resA, mkRes1, eop_buildS, bldS_some, evP_nil, evP_cons, fillA_nil, fillA_one, List.length_cons, List.length_nil, List.set_cons_zero, Nat.lt_add_one, Nat.mul_one, scalar_int, ite_true, ite_false, Nat.reduceEqDiff, Nat.zero_add, Option.some.injEq, exists_eq_left', true_and]
  exact ⟨RdAt.fresh h [I 0] 1 1 true false rfl, Same.new⟩

theorem rleaf_spec (h : Heap) (k x : Int) : FSpec P 86 [I k, I x] h fun v h' => v = .slice (some ⟨h.next, 0, none⟩) 2 2 ∧ RdAt h' h.next 0 1 2 2 [I k, I x] ∧ Same h h' (fun _ => False) := by
  refine fspec_cwf hT H.r102 rfl ?_
  simp only [af86, cwf_seq, cwf_ops, cwf_ret, andThen_normal, fnQ_ret, owf_nil, o_p, o_e, behind_eq, bo_eq, optQ_some, opt2_some, pop, popQ, ev, putA, putArgs, look_put, resAll, resA, mkRes1, eop_buildS, bldS_some, evP_nil, evP_cons, fillA_nil, fillA_one, List.length_cons, List.length_nil, List.set_cons_zero, List.set_cons_succ, Nat.reduceLT, Nat.lt_add_one, Nat.mul_one, scalar_int, ite_true, ite_false, Nat.reduceEqDiff, Nat.reduceAdd, Nat.zero_add, Option.some.injEq, exists_eq_left', true_and]
  exact ⟨RdAt.fresh h [I k, I x] 2 1 true false rfl, Same.new⟩

theorem rnew_spec (h : Heap) (z : Int) (h1 : 1 ≤ z) (h2 : z ≤ 65536) : FSpec P 6 [I z] h fun v h' => v = .tuple #[.pointer (some ⟨h.next, 0, none⟩), I 0] ∧ RMemAt h' h.next none [] z 0 0 0 ∧ Same h h' (fun _ => False) := by
  refine fspec_cwf hT H.r23 rfl ?_
  have c1 : (z < 1) = False := by simp; omega
  have c2 : (z > 65536) = False := by simp; omega
  simp only [af6, cwf_seq, cwf_ops, cwf_ret, c_false, cwf_skip, andThen_normal, fnQ_ret, owf_nil, o_p, o_e, o_on, behind_eq, bo_eq, optQ_some, opt2_some, pop, popQ, ev, putA, putArgs, look_put, isB_false, abinF_eq, abin, resAll, resA, mkRes2, eop_box, boxV5, evP_nil, evP_cons, fillA_nil, fillA_one, List.length_cons, List.length_nil, List.set_cons_zero, Nat.reduceLT, scalar_int, decide_true, decide_false, cond_true, cond_false, ite_true, ite_false, Bool.not_false, Nat.reduceEqDiff, Nat.reduceAdd, Nat.zero_add, Option.some.injEq, exists_eq_left', true_and, c1, c2]
  exact ⟨⟨by rw [new_get]; exact if_pos rfl, fun x hx => (by cases hx), fun _ => rfl, Nat.lt_succ_self _⟩, Same.new⟩

theorem rmake_ok {h : Heap} {b : Nat} {u : Option Nat} {C : List Int} {z c o r : Int} (m : RMemAt h b u C z c o r) {x p cap : Nat} {ws : List Int} (hw : RdAt h x p 1 ws.length cap (ws.map I)) (hx : x ≠ b) (n0 : ws ≠ []) (hn : (C.length : Int) + ws.length ≤ z) (hz : z ≤ 65536) (hc : 0 ≤ c ∧ c < 1000000000) :
    FSpec P 13 [.pointer (some ⟨b, 0, none⟩), .slice (some ⟨x, p, none⟩) ws.length cap] h fun v h' => v = .tuple #[I (C.length + 1), .bool true] ∧ (∃ u', RMemAt h' b u' (C ++ ws) z (c + 1) o r ∧ (∀ x, u' = some x → u = some x ∨ h.next ≤ x)) ∧ Same h h' (fun j => j = b ∨ u = some j) := by
  refine fspec_cwf hT H.r25 rfl ?_
  have wc : wrapF .i64 (c + 1) = c + 1 := wrapI (by omega) (by omega)
  have wz : wrapF .i64 (z - C.length) = z - C.length := wrapI (by omega) (by omega)
  have wl : wrapF .i64 (C.length + 1) = C.length + 1 := wrapI (by omega) (by omega)
  have m1 := m.set z (c + 1) o r
  have s1 : Same h (h.setB b (rmemBlk (useSl u C) z (c + 1) o r)) (fun j => j = b ∨ u = some j) := Same.setB (.inl rfl)
  have hb : ((ws.length : Int) == 0) = false := by simp [n0]
  have hg : ((ws.length : Int) > z - C.length) = False := by simp; omega
  have hlt := m.lt
  obtain ⟨u', h2, ha, ho, hs, hu'⟩ := app_own (bytes := 8) m1.own (hw.same (S := fun j => j = b) (Same.setB rfl) hx).src (by simp) (by simp [scalar]) (Nat.le_refl _) (by omega) (by omega)
  have hb2 : h2.blks.get b = some (rmemBlk (useSl u C) z (c + 1) o r) := by
    rw [hs.get b m1.lt (fun hc => ((m1.use b hc).2.1 rfl))]; exact m1.blk
  have hu2 : ∀ y, u' = some y → y ≠ b := fun y hy => by
    rcases hu' y hy with e | e
    · exact (m.use y e).2.1
    · rw [e, setB_next]; omega
  have hw0 := rmem_wr1 (v := ownSl u' (C.length + ws.length)) hb2 rfl
  simp only [af13, cwf_seq, cwf_ops, cwf_draw, andThen_normal, owf_nil, o_p, o_r, o_e, behind_eq, bo_eq, bd_eq, optQ_some, opt2_some, d_p, pop, popQ, rop_load1, ldV_ptr, ev, putA, putArgs, look_put, abinF_eq, abin, eop_store1, st1, scalar_int, decide_true, cond_true, cond_false, ite_true, ite_false, Nat.reduceEqDiff, Nat.zero_add, m.rd2, m.wr2, wc]
  refine ⟨cf00, cf00_ok, ?_⟩
  simp only [cwf_seq, cwf_ops, cwf_ret, c_false, cwf_skip, andThen_normal, fnQ_ret, owf_nil, o_p, o_r, o_e, behind_eq, bo_eq, bd_eq, optQ_some, opt2_some, dwf_nil, d_p, d_r, d_on, pop, popQ, rop_load1, ldV_ptr, ev, putA, look_put, isB_false, abinF_eq, abin, resAll, resA, mkRes2, eop_store1, eop_app, st1, Nat.add_zero, scalar_slice, decide_true, decide_false, cond_true, cond_false, ite_true, ite_false, Bool.not_false, Nat.reduceEqDiff, Nat.zero_add, Option.some.injEq, exists_eq_left', true_and, m1.rd1, m1.rd0, hb, wz, hg, wl, ha, hw0]
  refine ⟨⟨u', ?_, fun y hy => (hu' y hy).imp_right (fun e => by rw [e, setB_next]; exact Nat.le_refl _)⟩, ?_⟩
  · have hl : (C ++ ws).length = C.length + ws.length := by simp
    rw [← List.map_append, ← hl] at ho
    have := RMemAt.of_own ho hu2 (Nat.lt_of_lt_of_le m1.lt hs.next) z (c + 1) o r
    have e : (h2.setB b (rmemBlk (useSl u' (C ++ ws)) z (c + 1) o r)).marks = h.marks := hs.marks
    rw [← tail_marks h _ e] at this
    rw [← hl]
    exact this
  · have s3 : Same h (h2.setB b (rmemBlk (ownSl u' (C.length + ws.length)) z (c + 1) o r)) (fun j => j = b ∨ u = some j) := (s1.trans (hs.mono (fun j hj => .inr hj)) (fun _ _ hj => hj)).trans (Same.setB (S := fun j => j = b ∨ u = some j) (.inl rfl)) (fun _ _ hj => hj)
    exact (tail_marks h (h2.setB b _) s3.marks) ▸ s3

theorem rinner_spec {h : Heap} {n : Int} {uk uc : Nat} {K W : List Int} (hk : OwnAt h (some uk) 1 K.length (K.map I)) (hw : OwnAt h (some uc) 1 W.length (W.map I)) (k0 : K ≠ []) (hl : W.length = K.length + 1) (hb : W.length < 1000) :
    FSpec P 90 [I n, ownSl (some uk) K.length, ownSl (some uc) W.length] h fun v h' => ∃ x, h.next ≤ x ∧ v = .slice (some ⟨x, 0, none⟩) ([(W.length : Int), n, 0, 0, 0] ++ K ++ W).length ([(W.length : Int), n, 0, 0, 0] ++ K ++ W).length ∧ RdAt h' x 0 1 ([(W.length : Int), n, 0, 0, 0] ++ K ++ W).length ([(W.length : Int), n, 0, 0, 0] ++ K ++ W).length (([(W.length : Int), n, 0, 0, 0] ++ K ++ W).map I) ∧ Same h h' (fun _ => False) := by
  refine fspec_cwf hT H.r103 rfl ?_
  have w1 : wrapF .i64 ((K.length : Int) + 1) = W.length := by rw [hl, wrapI] <;> omega
  have c1 : ((W.length : Int) != W.length) = false := by simp
  have w0 : W ≠ [] := fun e => by rw [e] at hl; simp at hl
  have pk := List.length_pos_iff.2 k0
  simp only [af90, cwf_seq, cwf_ops, c_false, cwf_skip, andThen_normal, owf_nil, o_p, o_e, behind_eq, bo_eq, optQ_some, opt2_some, pop, popQ, ev, putA, putArgs, look_put, isB_false, abinF_eq, abin, eop_app, eop_buildS, bldS_some, evP_nil, evP_cons, fillA_nil, fillA_one, List.length_cons, List.length_nil, List.set_cons_zero, List.set_cons_succ, Nat.reduceLT, Nat.lt_add_one, Nat.mul_one, scalar_int, decide_true, cond_true, cond_false, ite_true, ite_false, Bool.not_false, Nat.reduceEqDiff, Nat.reduceAdd, Nat.zero_add, w1, c1]
  generalize hk1 : h.new ⟨[I W.length, I n, I 0, I 0, I 0], 5, 1, true, false⟩ = k1
  have s1 : Same h k1 (fun _ => False) := hk1 ▸ Same.new
  have e1 : k1.blks.get h.next = some ⟨[I W.length, I n, I 0, I 0, I 0], 5 * 1, 1, true, false⟩ := hk1 ▸ (by rw [new_get]; exact if_pos rfl)
  obtain ⟨a1, o1⟩ := app_lit (bytes := 8) (n := 5) e1 rfl rfl (hk.same s1 (fun _ _ x => x)).rd.src (by simp) (by simp [scalar]) (Nat.le_refl _) (by omega) (by omega) (by omega)
  generalize hk2 : k1.new _ = k2 at a1 o1
  have s2 : Same k1 k2 (fun _ => False) := hk2 ▸ Same.new
  have s12 := s1.trans s2 (fun _ _ x => x)
  obtain ⟨u3, k3, a3, o3, s3, n3⟩ := app_own (bytes := 8) o1 (hw.same s12 (fun _ _ x => x)).rd.src (by simp) (by simp [scalar]) (Nat.le_refl _) (by omega) (by omega)
  have x1 := s1.next
  have x2 := s2.next
  obtain ⟨y, rfl⟩ : ∃ y, u3 = some y := by
    cases hu : u3 with
    | none => have := o3.non hu; omega
    | some y => exact ⟨y, rfl⟩
  simp only [ownSl, Option.map_some] at a1 a3
  simp only [cwf_seq, cwf_ops, cwf_ret, andThen_normal, fnQ_ret, owf_nil, o_p, o_e, behind_eq, bo_eq, optQ_some, opt2_some, pop, popQ, ev, putA, look_put, resAll, resA, mkRes1, eop_app, ite_true, ite_false, Nat.reduceEqDiff, Option.some.injEq, exists_eq_left', ownSl, Option.map_some, a1, a3]
  have sf := s12.trans s3 (fun j hj e => by cases e; omega)
  rw [tail_marks h k3 sf.marks]
  have hL : ([(W.length : Int), n, 0, 0, 0] ++ K ++ W).length = 5 + K.length + W.length := by simp; omega
  have hM : ([(W.length : Int), n, 0, 0, 0] ++ K ++ W).map I = [I W.length, I n, I 0, I 0, I 0] ++ K.map I ++ W.map I := by simp
  refine ⟨y, ?_, by rw [hL], by rw [hL, hM]; exact o3.rd, sf⟩
  rcases n3 y rfl with e | e
  · cases e; omega
  · omega
end
end
end Go.Proofs.YtedldiimhbebdaaGreat.Ai
/- What the document's build comes to. -/
namespace Go.Proofs.YtedldiimhbebdaaGreat.Ai
open Go.Proofs.YtedldiimhbebdaaGreat
noncomputable section
open Go.RowKit

/-- the numbers of the ideal shape, as the document's functions tell them -/
structure NumR (P : Program) : Prop where
  deg : ∀ n : Nat, n ≤ 120 → ∀ h, Fact P 87 [I n] h (I (degN n)) h
  siz : ∀ n i : Nat, 2 ≤ n → n ≤ 120 → i < degN n → ∀ h, Fact P 89 [I n, I i] h (I (sizeN n i)) h

section
variable {P : Program} {tab : Nat → Option AFunc} (hT : TabOk P tab) (H : HasR tab)
include hT H

variable (NR : NumR P)
include NR

/-- what is kept from child to child -/
structure RLayI (h : Heap) (b x p cap : Nat) (u : Option Nat) (C : List Int) (z c o r : Int) (f : Nat) (l : List Pr) (i : Nat) (ts : T Value) (h' : Heap) : Prop where
  t0 : look ts 0 = .pointer (some ⟨b, 0, none⟩)
  t1 : look ts 1 = .slice (some ⟨x, p, none⟩) l.length cap
  t5 : look ts 5 = I l.length
  t12 : look ts 12 = I (fromN l.length i)
  t13 : look ts 13 = I i
  le : i ≤ degN l.length
  ex : ∃ uk uc u' c', look ts 10 = ownSl uk (i - 1) ∧ look ts 11 = ownSl uc i ∧ OwnAt h' uk 1 (i - 1) ((keysF l i).map I) ∧ OwnAt h' uc 1 i ((kidsF (layF f) l C.length i).1.map I) ∧
    RMemAt h' b u' (C ++ (kidsF (layF f) l C.length i).2) z c' o r ∧ c ≤ c' ∧ c' ≤ c + (kidsF (layF f) l C.length i).2.length ∧ (∀ y, u' = some y → u = some y ∨ h.next ≤ y) ∧ (∀ y, uk = some y → h.next ≤ y ∧ u' ≠ some y) ∧ (∀ y, uc = some y → h.next ≤ y ∧ u' ≠ some y ∧ uk ≠ some y)
  same : Same h h' (fun j => j = b ∨ u = some j)

end
end
end Go.Proofs.YtedldiimhbebdaaGreat.Ai
/- What the document's questions of a list come to. -/
namespace Go.Proofs.YtedldiimhbebdaaGreat.Ai
open Go.Proofs.YtedldiimhbebdaaGreat
noncomputable section
open Go.RowKit
section
variable {P : Program} {tab : Nat → Option AFunc} (hT : TabOk P tab) (H : HasR tab)
include hT H

theorem rmap_spec {h : Heap} {v : Value} {l : List Pr} {u : Option Nat} (a : PrAt h v l u) (hl : l.length < 1000000) : FSpec P 84 [v] h fun v h' => (v = .bool true ∧ Asc l ∨ v = .bool false ∧ ¬ Asc l) ∧ h' = h := by
  refine fspec_cwf hT H.r66 rfl ?_
  rcases a with ⟨rfl, base, cap, rfl⟩ | ⟨x, p, cap, rfl, rfl, hpos, hr⟩
  · simp only [af84, cwf_seq, cwf_ops, cwf_block, cwf_loop, andThen_normal, owf_nil, o_p, bo_eq, optQ_some, pop, popQ, ev, putA, putArgs]
    refine cw_lw (lw_step ?_)
    simp only [cwf_seq, cwf_ops, cwf_ret, c_false, cwf_exit, andThen_normal, andThen_exit, blockQ_exit, lwQ_exit, fnQ_ret, owf_nil, o_p, bo_eq, optQ_some, pop, popQ, ev, putA, look_put, isB_false, abinF_eq, abin, resAll, resA, mkRes1, Int.reduceLT, Int.cast_ofNat_Int, decide_true, decide_false, cond_true, cond_false, ite_true, ite_false, Bool.not_false, Nat.reduceEqDiff, Option.some.injEq, exists_eq_left', true_and, and_true]
    exact .inl (fun j hj => by simp at hj)
  · simp only [af84, cwf_seq, cwf_ops, cwf_block, cwf_loop, andThen_normal, owf_nil, o_p, bo_eq, optQ_some, pop, popQ, ev, putA, putArgs]
    refine cw_loop (fun k ts h' => ∃ i : Nat, k = l.length - i ∧ 1 ≤ i ∧ i ≤ l.length ∧ h' = h ∧ look ts 0 = .slice (some ⟨x, p, none⟩) l.length cap ∧ look ts 3 = I i ∧ ∀ j (hj : j + 1 < l.length), j + 1 < i → l[j].1 < l[j + 1].1) ?_ (n := l.length - 1) ⟨1, rfl, Nat.le_refl _, hpos, rfl, by simp only [look_put, ite_true, ite_false, Nat.reduceEqDiff], by simp only [look_put, Int.cast_ofNat_Int, ite_true, ite_false, Nat.reduceEqDiff] <;> rfl, fun j hj h1 => by omega⟩
    rintro k ts h' ⟨i, rfl, i1, i2, rfl, t0, t3, hasc⟩
    refine cwf_cw ?_
    by_cases hi : i < l.length
    · have ci : ((i : Int) < l.length) = True := by simp [hi]
      have w1 : wrapF .i64 ((i : Int) - 1) = ((i - 1 : Nat) : Int) := by rw [wrapI] <;> omega
      have wi : wrapF .i64 ((i : Int) + 1) = ((i + 1 : Nat) : Int) := by rw [wrapI] <;> omega
      have c2 : (((i - 1 : Nat) : Int) < l.length) = True := by simp; omega
      have r1 : h'.rd x (p + i * 2) = some (I l[i].1) := by rw [hr.rd (by omega)]; exact flat_key l i hi
      have r2 : h'.rd x (p + (i - 1) * 2) = some (I l[i - 1].1) := by rw [hr.rd (by omega)]; exact flat_key l (i - 1) (by omega)
      simp only [cwf_seq, cwf_ops, c_true, cwf_skip, cwf_block, cwf_draw, andThen_normal, owf_nil, o_p, bo_eq, bd_eq, optQ_some, d_p, d_r, pop, popQ, rop_load1, ldV_ptr, ev, putA, look_put, isB_true, abinF_eq, abin, Int.toNat_natCast, Int.natCast_nonneg, Nat.add_zero, inB_eq, decide_true, cond_true, cond_false, ite_true, ite_false, Bool.and_true, Nat.reduceEqDiff, t0, t3, ci]
      refine ⟨cf00, cf00_ok, ?_⟩
      by_cases hc : l[i].1 ≤ l[i - 1].1
      · simp only [cwf_seq, cwf_ops, cwf_ret, c_true, andThen_normal, andThen_ret, blockQ_ret, roundQ_ret, fnQ_ret, owf_nil, o_p, bo_eq, bd_eq, optQ_some, dwf_nil, d_p, d_r, pop, popQ, rop_load1, ldV_ptr, ev, putA, look_put, isB_true, abinF_eq, abin, resAll, resA, mkRes1, Int.toNat_natCast, Int.natCast_nonneg, Nat.add_zero, inB_eq, decide_true, cond_true, ite_true, ite_false, Bool.and_true, Nat.reduceEqDiff, Option.some.injEq, exists_eq_left', true_and, and_true, t0, t3, w1, c2, r1, r2, hc]
        refine .inr (fun ha => ?_)
        have := ha (i - 1) (by omega)
        have e : i - 1 + 1 = i := by omega
        simp only [e] at this
        omega
      · simp only [cwf_ops, c_false, cwf_skip, andThen_normal, blockQ_normal, roundQ_normal, owf_nil, o_p, bo_eq, bd_eq, optQ_some, dwf_nil, d_p, d_r, pop, popQ, rop_load1, ldV_ptr, ev, putA, look_put, isB_false, abinF_eq, abin, Int.toNat_natCast, Int.natCast_nonneg, Nat.add_zero, inB_eq, decide_true, decide_false, cond_true, ite_true, ite_false, Bool.and_true, Bool.not_false, Nat.reduceEqDiff, true_and, t0, t3, w1, c2, r1, r2, hc, wi]
        refine ⟨l.length - (i + 1), by omega, i + 1, rfl, by omega, by omega, rfl, fun j hj hji => ?_⟩
        by_cases hj2 : j + 1 < i
        · exact hasc j hj hj2
        · have e : j = i - 1 := by omega
          subst e
          have e : i - 1 + 1 = i := by omega
          simp only [e]
          omega
    · have ci : ((i : Int) < l.length) = False := by simp; omega
      have ha : Asc l := fun j hj => hasc j hj (by omega)
      simp only [cwf_seq, cwf_ops, cwf_ret, c_false, cwf_exit, andThen_normal, andThen_exit, blockQ_exit, roundQ_exit, fnQ_ret, owf_nil, o_p, bo_eq, optQ_some, pop, popQ, ev, putA, look_put, isB_false, abinF_eq, abin, resAll, resA, mkRes1, decide_true, decide_false, cond_true, cond_false, ite_true, ite_false, Bool.not_false, Nat.reduceEqDiff, Option.some.injEq, exists_eq_left', true_and, and_true, t0, t3, ci]
      exact .inl ha

theorem rasc_spec {h : Heap} {v : Value} {l : List Pr} {u : Option Nat} (a : PrAt h v l u) (hl : l.length < 1000000) : FSpec P 61 [v] h fun v h' => (v = .bool true ∧ Asc l ∧ l.length ≤ 16384 ∨ v = .bool false ∧ ¬ (Asc l ∧ l.length ≤ 16384)) ∧ h' = h := by
  refine fspec_cwf hT H.r31 rfl ?_
  obtain ⟨base, cap, hv⟩ := a.len
  obtain ⟨v1, h1, F1, hr, rfl⟩ := rmap_spec hT H a hl
  simp only [af61, cwf_seq, cwf_ops, andThen_normal, owf_nil, o_p, owf_call, bo_eq, optQ_some, pop, popQ, ev, evs, putA, putArgs, look_put, ite_true, ite_false, Nat.reduceEqDiff]
  refine ⟨_, _, F1, ?_⟩
  subst hv
  rcases hr with ⟨rfl, ha⟩ | ⟨rfl, hn⟩
  · by_cases hb : (l.length : Int) ≤ 16384
    · simp only [cwf_ret, andThen_normal, fnQ_ret, owf_nil, o_p, o_on, behind_eq, bo_eq, optQ_some, pop, popQ, ev, putA, look_put, isB_true, abinF_eq, abin, resAll, resA, mkRes1, decide_true, cond_true, cond_false, ite_true, ite_false, Nat.reduceEqDiff, Option.some.injEq, exists_eq_left', true_and, and_true, hb]
      exact .inl ⟨ha, by omega⟩
    · simp only [cwf_ret, andThen_normal, fnQ_ret, owf_nil, o_p, o_on, behind_eq, bo_eq, optQ_some, pop, popQ, ev, putA, look_put, isB_true, abinF_eq, abin, resAll, resA, mkRes1, decide_true, decide_false, cond_true, cond_false, ite_true, ite_false, Nat.reduceEqDiff, Option.some.injEq, exists_eq_left', true_and, and_true, hb]
      exact .inr (fun hx => by omega)
  · simp only [cwf_ret, andThen_normal, fnQ_ret, owf_nil, o_p, o_off, behind_eq, bo_eq, optQ_some, pop, popQ, ev, putA, look_put, isB_true, resAll, resA, mkRes1, cond_false, ite_true, ite_false, Nat.reduceEqDiff, Option.some.injEq, exists_eq_left', true_and, and_true]
    exact .inr (fun hx => hn hx.1)
end
end
end Go.Proofs.YtedldiimhbebdaaGreat.Ai
/- What the document's Build comes to. -/
namespace Go.Proofs.YtedldiimhbebdaaGreat.Ai
open Go.Proofs.YtedldiimhbebdaaGreat
noncomputable section
open Go.RowKit
section
variable {P : Program} {tab : Nat → Option AFunc} (hT : TabOk P tab) (H : HasR tab)
include hT H

end
end
end Go.Proofs.YtedldiimhbebdaaGreat.Ai
/- What is refused; lists; copies. -/
namespace Go.Proofs.YtedldiimhbebdaaGreat.Ai
open Go.Proofs.YtedldiimhbebdaaGreat
noncomputable section
open Go.RowKit
section
variable {P : Program} {tab : Nat → Option AFunc} (hT : TabOk P tab)
include hT

theorem make_no (H : Has tab) {h : Heap} {b : Nat} {u : Option Nat} {C : List Int} {z c o r : Int} (m : MemAt h b u C z c o r) {base : Option Addr} {cap n : Nat} (hn : n = 0 ∨ z < (C.length : Int) + n) (hz : 0 ≤ z ∧ z ≤ 65536) (hC : (C.length : Int) ≤ z) (hc : 0 ≤ c ∧ c < 1000000000) (hr : 0 ≤ r ∧ r < 1000000000) :
    FSpec P 12 [.pointer (some ⟨b, 0, none⟩), .slice base n cap] h fun v h' => v = .tuple #[I 0, .bool false] ∧ MemAt h' b u C z (c + 1) o (r + 1) ∧ Same h h' (fun j => j = b) := by
  refine fspec_cwf hT H.f35 rfl ?_
  have wc : wrapF .i64 (c + 1) = c + 1 := wrapI (by omega) (by omega)
  have wr : wrapF .i64 (r + 1) = r + 1 := wrapI (by omega) (by omega)
  have wz : wrapF .i64 (z - C.length) = z - C.length := wrapI (by omega) (by omega)
  have m1 := m.set z (c + 1) o r
  have m2 := m1.set z (c + 1) o (r + 1)
  have s : Same h ((h.setB b (memBlk (useSl u C) z (c + 1) o r)).setB b (memBlk (useSl u C) z (c + 1) o (r + 1))) (fun j => j = b) := (Same.setB (S := fun j => j = b) rfl).trans (Same.setB (S := fun j => j = b) rfl) (fun _ _ x => x)
  simp only [af12, cwf_seq, cwf_ops, cwf_draw, andThen_normal, owf_nil, o_p, o_r, o_e, behind_eq, bo_eq, bd_eq, optQ_some, opt2_some, d_p, pop, popQ, rop_load1, ldV_ptr, ev, putA, putArgs, look_put, abinF_eq, abin, eop_store1, st1, scalar_int, decide_true, cond_true, cond_false, ite_true, ite_false, Nat.reduceEqDiff, Nat.zero_add, m.rd2, m.wr2, wc]
  refine ⟨cf00, cf00_ok, ?_⟩
  rcases Nat.eq_zero_or_pos n with e0 | e0
  · subst e0
    simp only [cwf_seq, cwf_ops, cwf_ret, c_true, andThen_normal, andThen_ret, fnQ_ret, owf_nil, o_p, o_r, o_e, behind_eq, bo_eq, bd_eq, optQ_some, opt2_some, dwf_nil, d_p, d_off, pop, popQ, rop_load1, ldV_ptr, ev, putA, look_put, isB_true, isB_false, abinF_eq, abin, resAll, resA, mkRes2, eop_store1, st1, Int.cast_ofNat_Int, scalar_int, decide_true, cond_true, ite_true, ite_false, Bool.not_true, Nat.reduceEqDiff, Nat.zero_add, Option.some.injEq, exists_eq_left', true_and, beq_self_eq_true, m1.rd4, m1.wr4, wr]
    exact ⟨m2, s⟩
  · have hb : ((n : Int) == 0) = false := by rw [beq_eq_false_iff_ne]; omega
    have hg : ((n : Int) > z - C.length) = True := by simp; omega
    simp only [cwf_seq, cwf_ops, cwf_ret, c_true, andThen_normal, andThen_ret, fnQ_ret, owf_nil, o_p, o_r, o_e, behind_eq, bo_eq, bd_eq, optQ_some, opt2_some, dwf_nil, d_p, d_r, d_on, pop, popQ, rop_load1, ldV_ptr, ev, putA, look_put, isB_true, isB_false, abinF_eq, abin, resAll, resA, mkRes2, eop_store1, st1, Nat.add_zero, scalar_int, decide_true, cond_true, cond_false, ite_true, ite_false, Bool.not_false, Nat.reduceEqDiff, Nat.zero_add, Option.some.injEq, exists_eq_left', true_and, m1.rd0, m1.rd1, m1.rd4, m1.wr4, hb, wz, wr, hg]
    exact ⟨m2, s⟩

theorem rmake_no (H : HasR tab) {h : Heap} {b : Nat} {u : Option Nat} {C : List Int} {z c o r : Int} (m : RMemAt h b u C z c o r) {base : Option Addr} {cap n : Nat} (hn : n = 0 ∨ z < (C.length : Int) + n) (hz : 0 ≤ z ∧ z ≤ 65536) (hC : (C.length : Int) ≤ z) (hc : 0 ≤ c ∧ c < 1000000000) (hr : 0 ≤ r ∧ r < 1000000000) :
    FSpec P 13 [.pointer (some ⟨b, 0, none⟩), .slice base n cap] h fun v h' => v = .tuple #[I 0, .bool false] ∧ RMemAt h' b u C z (c + 1) o (r + 1) ∧ Same h h' (fun j => j = b) := by
  refine fspec_cwf hT H.r25 rfl ?_
  have wc : wrapF .i64 (c + 1) = c + 1 := wrapI (by omega) (by omega)
  have wr : wrapF .i64 (r + 1) = r + 1 := wrapI (by omega) (by omega)
  have wz : wrapF .i64 (z - C.length) = z - C.length := wrapI (by omega) (by omega)
  have m1 := m.set z (c + 1) o r
  have m2 := m1.set z (c + 1) o (r + 1)
  have s : Same h ((h.setB b (rmemBlk (useSl u C) z (c + 1) o r)).setB b (rmemBlk (useSl u C) z (c + 1) o (r + 1))) (fun j => j = b) := (Same.setB (S := fun j => j = b) rfl).trans (Same.setB (S := fun j => j = b) rfl) (fun _ _ x => x)
  simp only [af13, cwf_seq, cwf_ops, cwf_draw, andThen_normal, owf_nil, o_p, o_r, o_e, behind_eq, bo_eq, bd_eq, optQ_some, opt2_some, d_p, pop, popQ, rop_load1, ldV_ptr, ev, putA, putArgs, look_put, abinF_eq, abin, eop_store1, st1, scalar_int, decide_true, cond_true, cond_false, ite_true, ite_false, Nat.reduceEqDiff, Nat.zero_add, m.rd2, m.wr2, wc]
  refine ⟨cf00, cf00_ok, ?_⟩
  rcases Nat.eq_zero_or_pos n with e0 | e0
  · subst e0
    simp only [cwf_seq, cwf_ops, cwf_ret, c_true, andThen_normal, andThen_ret, fnQ_ret, owf_nil, o_p, o_r, o_e, behind_eq, bo_eq, bd_eq, optQ_some, opt2_some, dwf_nil, d_p, d_off, pop, popQ, rop_load1, ldV_ptr, ev, putA, look_put, isB_true, isB_false, abinF_eq, abin, resAll, resA, mkRes2, eop_store1, st1, Int.cast_ofNat_Int, scalar_int, decide_true, cond_true, ite_true, ite_false, Bool.not_true, Nat.reduceEqDiff, Nat.zero_add, Option.some.injEq, exists_eq_left', true_and, beq_self_eq_true, m1.rd4, m1.wr4, wr]
    exact ⟨m2, s⟩
  · have hb : ((n : Int) == 0) = false := by rw [beq_eq_false_iff_ne]; omega
    have hg : ((n : Int) > z - C.length) = True := by simp; omega
    simp only [cwf_seq, cwf_ops, cwf_ret, c_true, andThen_normal, andThen_ret, fnQ_ret, owf_nil, o_p, o_r, o_e, behind_eq, bo_eq, bd_eq, optQ_some, opt2_some, dwf_nil, d_p, d_r, d_on, pop, popQ, rop_load1, ldV_ptr, ev, putA, look_put, isB_true, isB_false, abinF_eq, abin, resAll, resA, mkRes2, eop_store1, st1, Nat.add_zero, scalar_int, decide_true, cond_true, cond_false, ite_true, ite_false, Bool.not_false, Nat.reduceEqDiff, Nat.zero_add, Option.some.injEq, exists_eq_left', true_and, m1.rd0, m1.rd1, m1.rd4, m1.wr4, hb, wz, wr, hg]
    exact ⟨m2, s⟩

theorem copy_spec (H : Has tab) (HR : HasR tab) {h : Heap} {b : Nat} {u : Option Nat} {C : List Int} {z c o r : Int} (m : RMemAt h b u C z c o r) (hz : 1 ≤ z ∧ z ≤ 65536) (hC : (C.length : Int) ≤ z) :
    FSpec P 8 [.pointer (some ⟨b, 0, none⟩)] h fun v h' => v = .pointer (some ⟨h.next, 0, none⟩) ∧ (∃ u' r', MemAt h' h.next u' C z 1 0 r' ∧ (∀ y, u' = some y → h.next < y)) ∧ Same h h' (fun _ => False) := by
  refine fspec_cwf hT HR.r26 rfl ?_
  obtain ⟨v1, h1, F1, rfl, m1, s1⟩ := new_spec hT H h z hz.1 hz.2
  have mr := m.same s1 (fun x => x) (fun _ _ x => x)
  have hlt := m.lt
  have x1 := m1.lt
  simp only [af8, cwf_seq, cwf_ops, andThen_normal, owf_nil, o_p, o_r, owf_call, bo_eq, optQ_some, pop, popQ, rop_load1, ldV_ptr, ev, evs, putA, putArgs, look_put, Nat.add_zero, ite_true, ite_false, Nat.reduceEqDiff, m.rd0]
  refine ⟨_, _, F1, ?_⟩
  simp only [cwf_seq, cwf_ops, andThen_normal, owf_nil, o_p, o_r, owf_call, behind_eq, bo_eq, optQ_some, pop, popQ, rop_load1, ldV_ptr, ev, evs, putA, look_put, ite_true, ite_false, Nat.reduceEqDiff, Nat.zero_add, List.getElem?_cons_zero, List.getElem?_cons_succ, mr.rd1]
  cases u with
  | none =>
    have hc := m.non rfl
    subst hc
    obtain ⟨v2, h2, F2, rfl, m2, s2⟩ := make_no hT H m1 (base := none) (cap := 0) (n := 0) (.inl rfl) ⟨by omega, hz.2⟩ (by simpa using hC) ⟨by omega, by omega⟩ ⟨by omega, by omega⟩
    refine ⟨_, _, F2, ?_⟩
    simp only [cwf_seq, cwf_ops, cwf_ret, andThen_normal, fnQ_ret, owf_nil, o_p, behind_eq, bo_eq, optQ_some, pop, popQ, ev, putA, look_put, resAll, resA, mkRes1, ite_true, ite_false, Nat.reduceEqDiff, Option.some.injEq, exists_eq_left', true_and]
    have sf : Same h h2 (fun _ => False) := s1.trans s2 (fun j hj e => by omega)
    rw [tail_marks h h2 sf.marks]
    exact ⟨⟨none, _, m2, fun y hy => by cases hy⟩, sf⟩
  | some y =>
    have hy := m.use y rfl
    obtain ⟨v2, h2, F2, rfl, ⟨u2, m2, n2⟩, s2⟩ := make_ok hT H m1 (m.own.rd.same s1 (fun x => x)) (by omega) hy.2.2.2 (by simpa using hC) hz.2 ⟨by omega, by omega⟩
    refine ⟨_, _, F2, ?_⟩
    simp only [cwf_seq, cwf_ops, cwf_ret, andThen_normal, fnQ_ret, owf_nil, o_p, behind_eq, bo_eq, optQ_some, pop, popQ, ev, putA, look_put, resAll, resA, mkRes1, List.length_nil, Int.reduceAdd, Int.cast_ofNat_Int, ite_true, ite_false, Nat.reduceEqDiff, Option.some.injEq, exists_eq_left', true_and]
    have sf : Same h h2 (fun _ => False) := s1.trans s2 (fun j hj e => e.elim (fun e => by omega) (fun e => by cases e))
    rw [tail_marks h h2 sf.marks]
    exact ⟨⟨u2, _, m2, fun w hw => (n2 w hw).elim (fun e => by cases e) (fun e => by omega)⟩, sf⟩
end
end
end Go.Proofs.YtedldiimhbebdaaGreat.Ai
/- Lists as they come, or made; whether two are alike. -/
namespace Go.Proofs.YtedldiimhbebdaaGreat.Ai
open Go.Proofs.YtedldiimhbebdaaGreat
noncomputable section
open Go.RowKit
theorem eq_pair (a b : Int) : eqE (.fld false 0 1 .int (.fld false 1 1 .int .done)) (.agg [I a, I b].toArray) (.agg [I a, I b].toArray) = some true := by simp [eqE]

def ldN (h : Heap) (n : Nat) (v : Value) : Option Value := match v with
  | .pointer (some ⟨b, o, none⟩) => (match h.rds b o n with
    | some l => some (.agg l.toArray)
    | none => none)
  | _ => none
theorem rop_loadN {ts : T Value} {h : Heap} {n : Nat} {x : Opd} : rop ts h (.loadN n x) = ldN h n (ev ts x) := (rfl)
theorem ldN_of {h : Heap} {b o n : Nat} {l : List Value} (hr : h.rds b o n = some l) : ldN h n (.pointer (some ⟨b, o, none⟩)) = some (.agg l.toArray) := by
  show (match h.rds b o n with | some l => some (Value.agg l.toArray) | none => none) = _
  rw [hr]

theorem pair_rds {h : Heap} {x p cap : Nat} {l : List Pr} (r : RdAt h x p 2 l.length cap (flat l)) {i : Nat} (hi : i < l.length) : h.rds x (p + i * 2) 2 = some [I l[i].1, I l[i].2] := by
  have s := r.sub (lo := i) (hi := i + 1) (by omega) (by omega)
  have := s.src
  have e : i + 1 - i = 1 := by omega
  rw [e] at this
  show h.rds x (p + i * 2) 2 = _
  have h2 : srcCells h 2 (.slice (some ⟨x, p + i * 2, none⟩) 1 (cap - i)) = (match h.rds x (p + i * 2) (1 * 2) with | some l => some (l, 1) | none => none) := (rfl)
  rw [h2] at this
  cases hq : h.rds x (p + i * 2) (1 * 2) with
  | none => rw [hq] at this; cases this
  | some q =>
    rw [hq] at this
    simp only [Option.some.injEq, Prod.mk.injEq, and_true] at this
    rw [this]
    have hk := flat_key l i hi
    have hv := flat_val l i hi
    have hlen := flat_len l
    apply congrArg some
    apply List.ext_getElem?
    intro j
    match j with
    | 0 => simp [hk]
    | 1 => simp [List.getElem?_drop, hv]
    | j + 2 => simp [List.getElem?_take]; omega

section
variable {P : Program} {tab : Nat → Option AFunc} (hT : TabOk P tab)
include hT

end
end
end Go.Proofs.YtedldiimhbebdaaGreat.Ai
/- Whether two memories hold the same. -/
namespace Go.Proofs.YtedldiimhbebdaaGreat.Ai
open Go.Proofs.YtedldiimhbebdaaGreat
noncomputable section
open Go.RowKit
section
variable {P : Program} {tab : Nat → Option AFunc} (hT : TabOk P tab)
include hT

theorem like_spec (H : Has tab) (HR : HasR tab) {h : Heap} {b b' : Nat} {u u' : Option Nat} {C : List Int} {z c o r c' o' r' : Int} (m : MemAt h b u C z c o r) (m' : RMemAt h b' u' C z c' o' r') (hC : C.length < 1000000) :
    FSpec P 17 [.pointer (some ⟨b, 0, none⟩), .pointer (some ⟨b', 0, none⟩)] h fun v h' => v = .bool true ∧ Same h h' (fun _ => False) := by
  refine fspec_cwf hT HR.r29 rfl ?_
  obtain ⟨_, h1, F1, ⟨uw, rfl, ow, fw⟩, s1⟩ := cells_spec hT H m hC
  have m1 := m.same s1 (fun x => x) (fun _ _ x => x)
  have m1' := m'.same s1 (fun x => x) (fun _ _ x => x)
  obtain ⟨_, h2, F2, hq, rfl⟩ := words_spec hT H ow.ints m1'.own.ints hC hC
  rcases hq with ⟨rfl, _⟩ | ⟨_, hne⟩
  rotate_left
  · exact (hne rfl).elim
  obtain ⟨_, h3, F3, rfl, rfl⟩ := used_spec hT H m1
  obtain ⟨_, h4, F4, rfl, rfl⟩ := size_spec hT H m1
  obtain ⟨CF, hcf, g34, g36, g20, g62⟩ : ∃ CF : CallF, CfOk P CF ∧ CF (.fn 29) [.pointer (some ⟨b, 0, none⟩)] h = some (ownSl uw C.length, h4) ∧ CF (.fn 28) [ownSl uw C.length, useSl u' C] h4 = some (.bool true, h4) ∧ CF (.fn 30) [.pointer (some ⟨b, 0, none⟩)] h4 = some (I C.length, h4) ∧ CF (.fn 31) [.pointer (some ⟨b, 0, none⟩)] h4 = some (I z, h4) :=
    ⟨cfOf 29 _ h _ h4 (cfOf 28 _ h4 _ h4 (cfOf 30 _ h4 _ h4 (cfOf 31 _ h4 _ h4 cf00))), cfOf_ok F1 (cfOf_ok F2 (cfOf_ok F3 (cfOf_ok F4 cf00_ok))), cfOf_eq, by rw [cfOf_ne (by decide)]; exact cfOf_eq, by rw [cfOf_ne (by decide), cfOf_ne (by decide)]; exact cfOf_eq, by rw [cfOf_ne (by decide), cfOf_ne (by decide), cfOf_ne (by decide)]; exact cfOf_eq⟩
  let J : Heap → Prop := fun k => RMemAt k b' u' C z c' o' r'
  have j0 : J h := m'
  have j1 : J h4 := m1'
  have pj := fun (r : List AOper) (ts : T Value) (dst : Option Nat) (q : POp) (S : T Value → Heap → Prop) => j_p (J := J) (cf := CF) (r := r) (ts := ts) (dst := dst) (q := q) (S := S) j0
  have pj1 := fun (r : List AOper) (ts : T Value) (dst : Option Nat) (q : POp) (S : T Value → Heap → Prop) => j_p (J := J) (cf := CF) (r := r) (ts := ts) (dst := dst) (q := q) (S := S) j1
  simp only [af17, cwf_seq, cwf_ops, andThen_normal, owf_nil, o_p, bo_eq, optQ_some, pop, popQ, ev, putA, putArgs, Nat.zero_add]
  refine cwf_calm J CF hcf j0 ?_
  simp only [optQ_some, opt2_some, pop, popQ, ldV_ptr, ev, evs, putA, look_put, ite_true, ite_false, Nat.reduceEqDiff, Nat.zero_add, j_load, j_call, bj_eq, bj2_eq, pj, pj1, g34]
  refine ⟨j1, ?_⟩
  refine ⟨_, fun k hk => RMemAt.rd1 hk, veq_slice _ _ _, ?_⟩
  simp only [optQ_some, opt2_some, pop, popQ, ev, evs, putA, look_put, isB_true, ite_true, ite_false, Nat.reduceEqDiff, j_call, j_on, bj_eq, bj2_eq, pj1, g36]
  refine ⟨j1, ?_⟩
  simp only [optQ_some, opt2_some, pop, popQ, ldV_ptr, ev, putA, look_put, isB_true, cond_false, ite_true, ite_false, Nat.reduceEqDiff, Nat.zero_add, j_load, j_on, bj_eq, bj2_eq, pj1, g20]
  refine ⟨j1, ?_⟩
  refine ⟨_, fun k hk => RMemAt.rd1 hk, veq_slice _ _ _, ?_⟩
  simp only [optQ_some, opt2_some, pop, popQ, ldV_ptr, ev, evs, putA, look_put, isB_true, abinF_eq, abin, Nat.add_zero, decide_true, cond_true, cond_false, ite_true, ite_false, Nat.reduceEqDiff, j_load, j_call, j_on, bj_eq, bj2_eq, pj1, beq_self_eq_true, g62]
  refine ⟨j1, ?_⟩
  refine ⟨_, fun k hk => RMemAt.rd0 hk, veq_int _ _, ?_⟩
  simp only [cwf_ret, andThen_normal, fnQ_ret, optQ_some, pop, popQ, ev, putA, look_put, resAll, resA, mkRes1, decide_true, cond_true, ite_true, ite_false, Nat.reduceEqDiff, Option.some.injEq, exists_eq_left', true_and, j_nil, bj_eq, pj1, beq_self_eq_true]
  rw [tail_marks h h4 s1.marks]
  exact s1
end
end
end Go.Proofs.YtedldiimhbebdaaGreat.Ai
/- PlantTells, for all arguments. -/
namespace Go.Proofs.YtedldiimhbebdaaGreat.Ai
open Go.Proofs.YtedldiimhbebdaaGreat
noncomputable section
open Go.RowKit

/-- a slice of pairs, to be read and to be taken over -/
abbrev PrE (h : Heap) (v : Value) (l : List Pr) (u : Option Nat) : Prop := RowAt h v 2 l.length (flat l) u

theorem PrE.pr {h : Heap} {v : Value} {l : List Pr} {u : Option Nat} (a : PrE h v l u) : PrAt h v l u := by
  rcases a with ⟨e, _, e2⟩ | ⟨x, p, cap, e, e2, r⟩
  · refine .inl ⟨List.eq_nil_of_length_eq_zero e, ?_⟩
    rcases e2 with rfl | ⟨b, o, k, rfl⟩ <;> exact ⟨_, _, rfl⟩
  · rcases Nat.eq_zero_or_pos l.length with e0 | e0
    · rw [e0] at e2
      exact .inl ⟨List.eq_nil_of_length_eq_zero e0, _, _, e2⟩
    · exact .inr ⟨x, p, cap, e, e2, e0, r⟩

section
variable {P : Program} {tab : Nat → Option AFunc} (hT : TabOk P tab)
include hT

end
end
end Go.Proofs.YtedldiimhbebdaaGreat.Ai
