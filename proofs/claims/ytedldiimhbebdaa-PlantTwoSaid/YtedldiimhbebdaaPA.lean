/- What the functions of plant, part, mem, ref, node come to. -/
import Derived.Test.YtedldiimhbebdaaPlant0
import Derived.Test.YtedldiimhbebdaaTabOk
namespace Go.Proofs.Ytedldiimhbebdaa.Ai
open Go.Proofs.Ytedldiimhbebdaa
noncomputable section
open Go.RowKit
structure Has (tab : Nat → Option AFunc) : Prop where
  f5 : tab 5 = some af5
  f7 : tab 7 = some af7
  f14 : tab 14 = some af14
  f20 : tab 20 = some af20
  f24 : tab 24 = some af24
  f27 : tab 27 = some af27
  f30 : tab 30 = some af30
  f33 : tab 33 = some af33
  f34 : tab 34 = some af34
  f35 : tab 35 = some af35
  f36 : tab 36 = some af36
  f37 : tab 37 = some af37
  f38 : tab 38 = some af38
  f40 : tab 40 = some af40
  f51 : tab 51 = some af51
  f53 : tab 53 = some af53
  f62 : tab 62 = some af62
  f63 : tab 63 = some af63
  f67 : tab 67 = some af67
  f68 : tab 68 = some af68
  f72 : tab 72 = some af72
  f82 : tab 82 = some af82
  f96 : tab 96 = some af96
  f97 : tab 97 = some af97
  f104 : tab 104 = some af104
  f106 : tab 106 = some af106
  f124 : tab 124 = some af124

theorem has : Has tabT.get := ⟨by kernel_rfl, by kernel_rfl, by kernel_rfl, by kernel_rfl, by kernel_rfl, by kernel_rfl, by kernel_rfl, by kernel_rfl, by kernel_rfl, by kernel_rfl, by kernel_rfl, by kernel_rfl, by kernel_rfl, by kernel_rfl, by kernel_rfl, by kernel_rfl, by kernel_rfl, by kernel_rfl, by kernel_rfl, by kernel_rfl, by kernel_rfl, by kernel_rfl, by kernel_rfl, by kernel_rfl, by kernel_rfl, by kernel_rfl, by kernel_rfl⟩

theorem of_or (a k : Int) (a0 : 0 ≤ a) (a1 : a ≤ 65536) (k0 : 0 ≤ k) (k1 : k < 8) : IntKind.i64.wrap ((BitVec.ofInt 64 (a * 8) ||| BitVec.ofInt 64 k).toNat : Int) = a * 8 + k := by
  obtain ⟨n, rfl⟩ := Int.eq_ofNat_of_zero_le a0
  obtain ⟨m, rfl⟩ := Int.eq_ofNat_of_zero_le k0
  have e1 : ((n : Int) * 8) = ((n * 8 : Nat) : Int) := by simp
  rw [e1]
  simp only [BitVec.ofInt_natCast, BitVec.toNat_or, BitVec.toNat_ofNat]
  rw [Nat.mod_eq_of_lt (show n * 8 < 2 ^ 64 by omega), Nat.mod_eq_of_lt (show m < 2 ^ 64 by omega)]
  have e2 : n * 8 ||| m = n * 8 + m := by
    have := Nat.shiftLeft_add_eq_or_of_lt (a := n) (b := m) (i := 3) (by omega)
    rw [Nat.shiftLeft_eq] at this
    exact this.symm
  rw [e2, IntWalk.i64_in _ (by omega)]
  simp

section
variable {P : Program} {tab : Nat → Option AFunc} (hT : TabOk P tab) (H : Has tab)
include hT H

theorem may_spec (k a : Int) (h : Heap) (c1 : k ≥ 1) (c2 : k ≤ 5) (c3 : a ≥ 1) (c4 : a ≤ 65536) : FSpec P 82 [I k, I a] h fun v h' => v = .bool true ∧ h' = h := by
  refine fspec_cwf hT H.f82 rfl ?_
  simp only [af82, cwf_seq, cwf_ops, cwf_ret, andThen_normal, fnQ_ret, owf_nil, o_p, o_on, bo_eq, optQ_some, pop, popQ, ev, putA, putArgs, look_put, isB_true, abinF_eq, abin, resAll, resA, mkRes1, decide_true, cond_true, ite_true, ite_false, Nat.reduceEqDiff, Nat.zero_add, Option.some.injEq, exists_eq_left', and_true, c1, c2, c3, c4]

theorem of_spec (k a : Int) (h : Heap) (c1 : k ≥ 1) (c2 : k ≤ 5) (c3 : a ≥ 1) (c4 : a ≤ 65536) : FSpec P 53 [I k, I a] h fun v h' => v = I (a * 8 + k) ∧ h' = h := by
  refine fspec_cwf hT H.f53 rfl ?_
  simp only [af53, cwf_seq, cwf_ops, andThen_normal, owf_nil, o_p, owf_call, bo_eq, optQ_some, pop, popQ, ev, evs, putA, putArgs, look_put, ite_true, ite_false, Nat.reduceEqDiff, Nat.zero_add]
  obtain ⟨v, h1, F, rfl, rfl⟩ := may_spec hT H k a h c1 c2 c3 c4
  refine ⟨_, _, F, ?_⟩
  have w : wrapF .i64 (a * 8) = a * 8 := wrapI (by omega) (by omega)
  simp only [cwf_seq, cwf_ops, cwf_ret, c_false, cwf_skip, andThen_normal, fnQ_ret, owf_nil, o_p, behind_eq, bo_eq, optQ_some, pop, popQ, ev, putA, look_put, isB_false, abinF_eq, abin, resAll, resA, mkRes1, Int.reduceLT, Int.reduceToNat, IntKind.bits, min364, Int.reducePow, decide_true, decide_false, cond_true, cond_false, ite_true, ite_false, Bool.not_true, Bool.not_false, Nat.reduceEqDiff, Option.some.injEq, exists_eq_left', and_true, w]
  exact congrArg (Value.int .i64) (of_or a k (by omega) c4 (by omega) (by omega))

theorem empty_spec (h : Heap) : FSpec P 51 [] h fun v h' => v = .slice (some ⟨h.next, 0, none⟩) 1 1 ∧ RdAt h' h.next 0 1 1 1 [I 0] ∧ Same h h' (fun _ => False) := by
  refine fspec_cwf hT H.f51 rfl ?_
  simp only [af51, cwf_seq, cwf_ops, cwf_ret, andThen_normal, fnQ_ret, owf_nil, o_p, o_e, behind_eq, bo_eq, optQ_some, opt2_some, pop, popQ, ev, putA, putArgs, look_put, resAll, resA, mkRes1, eop_buildS, bldS_some, evP_nil, evP_cons, fillA_nil, fillA_one, List.length_cons, List.length_nil, List.set_cons_zero, Nat.lt_add_one, Nat.mul_one, scalar_int, ite_true, ite_false, Nat.reduceEqDiff, Nat.zero_add, Option.some.injEq, exists_eq_left', true_and]
  exact ⟨RdAt.fresh h [I 0] 1 1 true false rfl, Same.new⟩

theorem leaf_spec (h : Heap) (k x : Int) : FSpec P 96 [I k, I x] h fun v h' => v = .slice (some ⟨h.next, 0, none⟩) 2 2 ∧ RdAt h' h.next 0 1 2 2 [I k, I x] ∧ Same h h' (fun _ => False) := by
  refine fspec_cwf hT H.f96 rfl ?_
  simp only [af96, cwf_seq, cwf_ops, cwf_ret, andThen_normal, fnQ_ret, owf_nil, o_p, o_e, behind_eq, bo_eq, optQ_some, opt2_some, pop, popQ, ev, putA, putArgs, look_put, resAll, resA, mkRes1, eop_buildS, bldS_some, evP_nil, evP_cons, fillA_nil, fillA_one, List.length_cons, List.length_nil, List.set_cons_zero, List.set_cons_succ, Nat.reduceLT, Nat.lt_add_one, Nat.mul_one, scalar_int, ite_true, ite_false, Nat.reduceEqDiff, Nat.reduceAdd, Nat.zero_add, Option.some.injEq, exists_eq_left', true_and]
  exact ⟨RdAt.fresh h [I k, I x] 2 1 true false rfl, Same.new⟩

theorem make_ok {h : Heap} {b : Nat} {u : Option Nat} {C : List Int} {z c o r : Int} (m : MemAt h b u C z c o r) {x p cap : Nat} {ws : List Int} (hw : RdAt h x p 1 ws.length cap (ws.map I)) (hx : x ≠ b) (n0 : ws ≠ []) (hn : (C.length : Int) + ws.length ≤ z) (hz : z ≤ 65536) (hc : 0 ≤ c ∧ c < 1000000000) :
    FSpec P 35 [.pointer (some ⟨b, 0, none⟩), .slice (some ⟨x, p, none⟩) ws.length cap] h fun v h' => v = .tuple #[I (C.length + 1), .bool true] ∧ (∃ u', MemAt h' b u' (C ++ ws) z (c + 1) o r ∧ (∀ x, u' = some x → u = some x ∨ h.next ≤ x)) ∧ Same h h' (fun j => j = b ∨ u = some j) := by
  refine fspec_cwf hT H.f35 rfl ?_
  have wc : wrapF .i64 (c + 1) = c + 1 := wrapI (by omega) (by omega)
  have wz : wrapF .i64 (z - C.length) = z - C.length := wrapI (by omega) (by omega)
  have wl : wrapF .i64 (C.length + 1) = C.length + 1 := wrapI (by omega) (by omega)
  have m1 := m.set z (c + 1) o r
  have s1 : Same h (h.setB b (memBlk (useSl u C) z (c + 1) o r)) (fun j => j = b ∨ u = some j) := Same.setB (.inl rfl)
  have hb : ((ws.length : Int) == 0) = false := by simp [n0]
  have hg : ((ws.length : Int) > z - C.length) = False := by simp; omega
  have hlt := m.lt
  obtain ⟨u', h2, ha, ho, hs, hu'⟩ := app_own (bytes := 8) m1.own (hw.same (S := fun j => j = b) (Same.setB rfl) hx).src (by simp) (by simp [scalar]) (Nat.le_refl _) (by omega) (by omega)
  have hb2 : h2.blks.get b = some (memBlk (useSl u C) z (c + 1) o r) := by
    rw [hs.get b m1.lt (fun hc => ((m1.use b hc).2.1 rfl))]; exact m1.blk
  have hu2 : ∀ y, u' = some y → y ≠ b := fun y hy => by
    rcases hu' y hy with e | e
    · exact (m.use y e).2.1
    · rw [e, setB_next]; omega
  have hw0 := mem_wr0 (v := ownSl u' (C.length + ws.length)) hb2 rfl
  simp only [af35, cwf_seq, cwf_ops, cwf_draw, andThen_normal, owf_nil, o_p, o_r, o_e, behind_eq, bo_eq, bd_eq, optQ_some, opt2_some, d_p, pop, popQ, rop_load1, ldV_ptr, ev, putA, putArgs, look_put, abinF_eq, abin, eop_store1, st1, scalar_int, decide_true, cond_true, cond_false, ite_true, ite_false, Nat.reduceEqDiff, Nat.zero_add, m.rd2, m.wr2, wc]
  refine ⟨cf00, cf00_ok, ?_⟩
  simp only [cwf_seq, cwf_ops, cwf_ret, c_false, cwf_skip, andThen_normal, fnQ_ret, owf_nil, o_p, o_r, o_e, behind_eq, bo_eq, bd_eq, optQ_some, opt2_some, dwf_nil, d_p, d_r, d_on, pop, popQ, rop_load1, ldV_ptr, ev, putA, look_put, isB_false, abinF_eq, abin, resAll, resA, mkRes2, eop_store1, eop_app, st1, Nat.add_zero, scalar_slice, decide_true, decide_false, cond_true, cond_false, ite_true, ite_false, Bool.not_false, Nat.reduceEqDiff, Nat.zero_add, Option.some.injEq, exists_eq_left', true_and, m1.rd0, m1.rd1, hb, wz, hg, wl, ha, hw0]
  refine ⟨⟨u', ?_, fun y hy => (hu' y hy).imp_right (fun e => by rw [e, setB_next]; exact Nat.le_refl _)⟩, ?_⟩
  · have hl : (C ++ ws).length = C.length + ws.length := by simp
    rw [← List.map_append, ← hl] at ho
    have := MemAt.of_own ho hu2 (Nat.lt_of_lt_of_le m1.lt hs.next) z (c + 1) o r
    have e : (h2.setB b (memBlk (useSl u' (C ++ ws)) z (c + 1) o r)).marks = h.marks := hs.marks
    rw [← tail_marks h _ e] at this
    rw [← hl]
    exact this
  · have s3 : Same h (h2.setB b (memBlk (ownSl u' (C.length + ws.length)) z (c + 1) o r)) (fun j => j = b ∨ u = some j) := (s1.trans (hs.mono (fun j hj => .inr hj)) (fun _ _ hj => hj)).trans (Same.setB (S := fun j => j = b ∨ u = some j) (.inl rfl)) (fun _ _ hj => hj)
    exact (tail_marks h (h2.setB b _) s3.marks) ▸ s3
end
end
end Go.Proofs.Ytedldiimhbebdaa.Ai
