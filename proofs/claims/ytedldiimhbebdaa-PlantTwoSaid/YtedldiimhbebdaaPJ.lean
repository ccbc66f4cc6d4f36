/- PlantTwo, for all arguments. -/
import Derived.Test.YtedldiimhbebdaaPI
namespace Go.Proofs.Ytedldiimhbebdaa.Ai
open Go.Proofs.Ytedldiimhbebdaa
noncomputable section
open Go.RowKit

theorem IntsAt.same {h h' : Heap} {v : Value} {L : List Int} (a : IntsAt h v L) (s : Same h h' (fun _ => False)) : IntsAt h' v L := by
  rcases a with a | ⟨x, p, cap, e, r⟩
  · exact .inl a
  · exact .inr ⟨x, p, cap, e, r.same s (fun x => x)⟩

theorem cells_most {n : Nat} (h : n ≤ 120) : cellsN n ≤ 1100 := by
  by_cases h2 : 2 ≤ n
  · exact (partN h2 h).most
  · have : n = 0 ∨ n = 1 := by omega
    rcases this with e | e
    · rw [e, cells0]; omega
    · rw [e, cells1]; omega

section
variable {P : Program} {tab : Nat → Option AFunc} (hT : TabOk P tab) (H : Has tab)
include hT H

theorem plantTwo_spec (Nu : Num P) (Kn : ∀ h, Fact P 22 [] h (.bool true) h) {h : Heap} {v v' : Value} {L L' : List Int} (a : IntsAt h v L) (a' : IntsAt h v' L') :
    FSpec P 5 [v, v'] h fun v h' => v = .bool true ∧ Same h h' (fun _ => False) := by
  refine fspec_cwf hT H.f5 rfl ?_
  obtain ⟨_, h1, F1, ⟨l1, u1, rfl, o1, asc1, le1, f1⟩, s1⟩ := pairs_spec hT H a
  obtain ⟨_, h2, F2, ⟨l2, u2, rfl, o2, asc2, le2, f2⟩, s2⟩ := pairs_spec hT H (a'.same s1)
  obtain ⟨_, h3, F3, rfl, m3, s3⟩ := new_spec hT H h2 3000 (by omega) (by omega)
  obtain ⟨_, h4, F4, rfl, m4, s4⟩ := new_spec hT H h3 3000 (by omega) (by omega)
  have x1 := s1.next
  have x2 := s2.next
  have x3 := s3.next
  have x4 := s4.next
  have b1l := m3.lt
  have b2l := m4.lt
  have k1 := cells_most (n := l1.length) (by omega)
  have k2 := cells_most (n := l2.length) (by omega)
  have u1l := fun y hy => (o1.use y hy).2.1
  have u2l := fun y hy => (o2.use y hy).2.1
  have p1 : OwnAt h4 u1 2 l1.length (flat l1) := ((o1.same s2 (fun _ _ x => x)).same s3 (fun _ _ x => x)).same s4 (fun _ _ x => x)
  have p2 : OwnAt h4 u2 2 l2.length (flat l2) := (o2.same s3 (fun _ _ x => x)).same s4 (fun _ _ x => x)
  obtain ⟨_, h5, F5, hb5⟩ := build_spec hT H Nu (own_pr p1) (by omega) (m3.same s4 (fun x => x) (fun _ _ x => x)) (fun e => by have := u1l _ e; omega) (by simp) (by simp) (by omega) (by omega) (by omega)
  rcases hb5 with ⟨rfl, _, _, ⟨u5, c5, m5, c50, c51, n5⟩, s5⟩ | ⟨_, hno, _⟩
  rotate_left
  · exact (hno ⟨asc1, by simp; omega⟩).elim
  have hw1 := layF_word (l1.length + 1) l1 0 (by omega)
  have hl1 := layF_len (l1.length + 1) l1 0 (by omega) (by omega)
  simp only [List.length_nil, List.nil_append] at m5 F5
  generalize hW1 : layF (l1.length + 1) l1 0 = W1 at m5 F5 hw1 hl1
  have x5 := s5.next
  have n5' : ∀ y, u5 = some y → h4.next ≤ y ∧ y < h5.next := fun y hy => ⟨(n5 y hy).elim (fun e => by cases e) id, (m5.use y hy).2.2.1⟩
  obtain ⟨_, h6, F6, ⟨uw, rfl, ow, fw⟩, s6⟩ := cells_spec hT H m5 (by omega)
  have x6 := s6.next
  have g5 : ∀ j, j < h4.next → j ≠ h2.next → ¬ (j = h2.next ∨ (none : Option Nat) = some j) := fun j _ hj hs => hs.elim hj (fun e => by cases e)
  have q6 : OwnAt h6 u2 2 l2.length (flat l2) := (p2.same s5 (fun y hy => g5 y (by have := u2l y hy; omega) (by have := u2l y hy; omega))).same s6 (fun _ _ x => x)
  obtain ⟨_, h7, F7, hb7⟩ := build_spec hT H Nu (own_pr q6) (by omega) (m5.same s6 (fun x => x) (fun _ _ x => x)) (fun e => by have := u2l _ e; omega) (fun y hy e => by have := u2l y hy; have := n5' y e; omega) (by omega) (by omega) (by omega) (by omega)
  rcases hb7 with ⟨rfl, _, _, ⟨u7, c7, m7, _, _, n7⟩, s7⟩ | ⟨_, hno, _⟩
  rotate_left
  · exact (hno ⟨asc2, by omega⟩).elim
  have hw2 := layF_word (l2.length + 1) l2 W1.2.length (by omega)
  have hl2 := layF_len (l2.length + 1) l2 W1.2.length (by omega) (by omega)
  have x7 := s7.next
  -- the other memory
  have mn7 : MemAt h7 h3.next none [] 3000 0 0 0 := ((m4.same s5 (g5 _ b2l (by omega)) (fun _ hy => by cases hy)).same s6 (fun x => x) (fun _ _ x => x)).same s7 (fun hs => hs.elim (by omega) (fun e => by have := n5' _ e; omega)) (fun _ hy => by cases hy)
  obtain ⟨w, rfl⟩ : ∃ w, uw = some w := by
    cases hu : uw with
    | none => have := ow.non hu; have := List.length_pos_iff.2 hw1.2.2; omega
    | some w => exact ⟨w, rfl⟩
  have wf := fw w rfl
  have wl := (ow.use w rfl).2.1
  have ow7 : OwnAt h7 (some w) 1 W1.2.length (W1.2.map I) := ow.same s7 (fun y hy hs => by cases hy; exact hs.elim (by omega) (fun e => by have := n5' w e; omega))
  obtain ⟨_, h8, F8, rfl, ⟨u8, m8, n8⟩, s8⟩ := make_ok hT H mn7 ow7.rd (by omega) hw1.2.2 (by simp; omega) (by omega) ⟨by omega, by omega⟩
  simp only [List.nil_append] at m8
  have n8' : ∀ y, u8 = some y → h7.next ≤ y := fun y hy => (n8 y hy).elim (fun e => by cases e) id
  have x8 := s8.next
  have g8 : ∀ j, j ≠ h3.next → ¬ (j = h3.next ∨ (none : Option Nat) = some j) := fun j hj hs => hs.elim hj (fun e => by cases e)
  have q7 : OwnAt h7 u2 2 l2.length (flat l2) := q6.same s7 (fun y hy hs => hs.elim (fun e => by have := u2l y hy; omega) (fun e => by have := u2l y hy; have := n5' y e; omega))
  have q8 : OwnAt h8 u2 2 l2.length (flat l2) := q7.same s8 (fun y hy => g8 y (by have := u2l y hy; omega))
  obtain ⟨_, h9, F9, hb9⟩ := build_spec hT H Nu (own_pr q8) (by omega) m8 (fun e => by have := u2l _ e; omega) (fun y hy e => by have := u2l y hy; have := n8' y e; omega) (by omega) (by omega) (by omega) (by omega)
  rcases hb9 with ⟨rfl, _, _, ⟨u9, c9, m9, _, _, n9⟩, s9⟩ | ⟨_, hno, _⟩
  rotate_left
  · exact (hno ⟨asc2, by omega⟩).elim
  generalize hW2 : layF (l2.length + 1) l2 W1.2.length = W2 at m7 F7 m9 F9 hw2 hl2
  have x9 := s9.next
  have u7n : ∀ y, u7 = some y → h4.next ≤ y ∧ y < h7.next := fun y hy => ⟨(n7 y hy).elim (fun e => (n5' y e).1) (fun e => by omega), (m7.use y hy).2.2.1⟩
  have m79 : MemAt h9 h2.next u7 (W1.2 ++ W2.2) 3000 c7 0 0 := (m7.same s8 (g8 _ (by omega)) (fun y hy => g8 y (by have := u7n y hy; omega))).same s9 (fun hs => hs.elim (by omega) (fun e => by have := n8' _ e; omega)) (fun y hy hs => hs.elim (by have := u7n y hy; omega) (fun e => by have := u7n y hy; have := n8' _ e; omega))
  obtain ⟨_, h10, F10, ⟨ua, rfl, oa, fa⟩, s10⟩ := cells_spec hT H m79 (by simp; omega)
  have x10 := s10.next
  obtain ⟨y, rfl⟩ : ∃ y, ua = some y := by
    cases hu : ua with
    | none => have h0 := oa.non hu; have := List.length_pos_iff.2 hw1.2.2; rw [List.length_append] at h0; omega
    | some w => exact ⟨w, rfl⟩
  have hlen : (W1.2 ++ W2.2).length = W1.2.length + W2.2.length := by simp
  have ow10 : OwnAt h10 (some w) 1 W1.2.length (W1.2.map I) := ((ow7.same s8 (fun z hz => by cases hz; exact g8 w (by omega))).same s9 (fun z hz hs => by cases hz; exact hs.elim (by omega) (fun e => by have := n8' _ e; omega))).same s10 (fun _ _ x => x)
  have cut := oa.rd.to (hi := W1.2.length) (by omega) (by have := List.length_pos_iff.2 hw1.2.2; omega)
  have part : IntsAt h10 (.slice (some ⟨y, 0, none⟩) W1.2.length (W1.2 ++ W2.2).length) W1.2 := by
    have := oa.rd.sub (lo := 0) (hi := W1.2.length) (Nat.zero_le _) (by omega)
    refine .inr ⟨y, 0, _, rfl, ?_⟩
    simpa using this
  obtain ⟨_, h11, F11, hq11, rfl⟩ := words_spec hT H part ow10.ints (by omega) (by omega)
  rcases hq11 with ⟨rfl, _⟩ | ⟨_, hne⟩
  rotate_left
  · exact (hne rfl).elim
  obtain ⟨_, h12, F12, ⟨un, rfl, on, fn⟩, s12⟩ := cells_spec hT H (m9.same s10 (fun x => x) (fun _ _ x => x)) (by simp; omega)
  obtain ⟨_, h13, F13, hq13, rfl⟩ := words_spec hT H (oa.same s12 (fun _ _ x => x)).ints on.ints (by simp; omega) (by simp; omega)
  rcases hq13 with ⟨rfl, _⟩ | ⟨_, hne⟩
  rotate_left
  · exact (hne rfl).elim
  have cn : ((0 : Int) != 0) = false := rfl
  have c1 : (W1.1 != W2.1) = true := by
    have h1 := hw1.2.1
    have h2 := hw2.1
    simp
    intro e
    omega
  have c2 : (((W1.2 ++ W2.2).length : Int) ≥ W1.2.length) = True := by simp; omega
  simp only [af5, cwf_seq, cwf_ops, andThen_normal, owf_nil, o_p, owf_call, bo_eq, optQ_some, pop, popQ, ev, evs, putA, putArgs, look_put, ite_true, ite_false, Nat.reduceEqDiff, Nat.zero_add]
  refine ⟨_, _, F1, ?_⟩
  simp only [o_p, owf_call, behind_eq, bo_eq, optQ_some, pop, popQ, ev, evs, putA, look_put, ite_true, ite_false, Nat.reduceEqDiff]
  refine ⟨_, _, F2, ?_⟩
  simp only [cwf_seq, cwf_ops, andThen_normal, owf_nil, o_p, owf_call, behind_eq, bo_eq, optQ_some, pop, popQ, ev, evs, putA, look_put, ite_true, ite_false, Nat.reduceEqDiff]
  refine ⟨_, _, F3, ?_⟩
  simp only [cwf_seq, cwf_ops, andThen_normal, owf_nil, o_p, owf_call, behind_eq, bo_eq, optQ_some, pop, popQ, ev, evs, putA, look_put, ite_true, ite_false, Nat.reduceEqDiff, List.getElem?_cons_zero, List.getElem?_cons_succ]
  refine ⟨_, _, F4, ?_⟩
  simp only [cwf_seq, cwf_ops, c_false, cwf_skip, andThen_normal, owf_nil, o_p, owf_call, o_on, behind_eq, bo_eq, optQ_some, pop, popQ, ev, evs, putA, look_put, isB_false, abinF_eq, abin, isNilV, Option.isNone_some, decide_true, cond_true, cond_false, ite_true, ite_false, Bool.not_false, Nat.reduceEqDiff, List.getElem?_cons_zero, List.getElem?_cons_succ, cn]
  refine ⟨_, _, F5, ?_⟩
  simp only [cwf_seq, cwf_ops, andThen_normal, owf_nil, o_p, owf_call, behind_eq, bo_eq, optQ_some, pop, popQ, ev, evs, putA, look_put, ite_true, ite_false, Nat.reduceEqDiff, List.getElem?_cons_zero, List.getElem?_cons_succ]
  refine ⟨_, _, F6, ?_⟩
  simp only [cwf_seq, cwf_ops, andThen_normal, owf_nil, o_p, owf_call, behind_eq, bo_eq, optQ_some, pop, popQ, ev, evs, putA, look_put, ite_true, ite_false, Nat.reduceEqDiff]
  refine ⟨_, _, F7, ?_⟩
  simp only [cwf_seq, cwf_ops, andThen_normal, owf_nil, o_p, owf_call, behind_eq, bo_eq, optQ_some, pop, popQ, ev, evs, putA, look_put, ite_true, ite_false, Nat.reduceEqDiff, List.getElem?_cons_zero, List.getElem?_cons_succ]
  refine ⟨_, _, F8, ?_⟩
  simp only [cwf_seq, cwf_ops, andThen_normal, owf_nil, o_p, owf_call, behind_eq, bo_eq, optQ_some, pop, popQ, ev, evs, putA, look_put, List.length_nil, Int.reduceAdd, Int.cast_ofNat_Int, ite_true, ite_false, Nat.reduceEqDiff]
  refine ⟨_, _, F9, ?_⟩
  simp only [cwf_seq, cwf_ops, andThen_normal, owf_nil, o_p, owf_call, behind_eq, bo_eq, optQ_some, pop, popQ, ev, evs, putA, look_put, ite_true, ite_false, Nat.reduceEqDiff, List.getElem?_cons_zero, List.getElem?_cons_succ]
  refine ⟨_, _, F10, ?_⟩
  simp only [cwf_seq, cwf_ops, andThen_normal, owf_nil, o_p, owf_call, behind_eq, bo_eq, optQ_some, pop, popQ, ev, evs, putA, look_put, ite_true, ite_false, Nat.reduceEqDiff]
  refine ⟨_, _, Kn _, ?_⟩
  simp only [ownSl, Option.map_some] at cut F11 F13
  simp only [o_p, o_r, owf_call, o_on, behind_eq, bo_eq, optQ_some, pop, popQ, rop_slice, ev, evO, evs, putA, look_put, isB_true, abinF_eq, abin, decide_true, cond_true, cond_false, ite_true, ite_false, Nat.reduceEqDiff, ownSl, Option.map_some, c1, c2, beq_self_eq_true, cut]
  refine ⟨_, _, F11, ?_⟩
  simp only [o_p, owf_call, o_on, behind_eq, bo_eq, optQ_some, pop, popQ, ev, evs, putA, look_put, isB_true, cond_true, ite_true, ite_false, Nat.reduceEqDiff]
  refine ⟨_, _, F12, ?_⟩
  simp only [owf_call, o_on, behind_eq, ev, evs, putA, look_put, isB_true, ite_true, ite_false, Nat.reduceEqDiff, ownSl]
  refine ⟨_, _, F13, ?_⟩
  simp only [cwf_ret, andThen_normal, fnQ_ret, owf_nil, o_p, behind_eq, bo_eq, optQ_some, pop, popQ, ev, putA, look_put, resAll, resA, mkRes1, cond_true, ite_true, ite_false, Nat.reduceEqDiff, Option.some.injEq, exists_eq_left', true_and]
  have s15 : Same h h4 (fun _ => False) := ((s1.trans s2 (fun _ _ x => x)).trans s3 (fun _ _ x => x)).trans s4 (fun _ _ x => x)
  have s16 : Same h h6 (fun _ => False) := (s15.trans s5 (fun j hj hs => hs.elim (by omega) (fun e => by cases e))).trans s6 (fun _ _ x => x)
  have s17 : Same h h7 (fun _ => False) := s16.trans s7 (fun j hj hs => hs.elim (by omega) (fun e => by have := n5' _ e; omega))
  have s18 : Same h h8 (fun _ => False) := s17.trans s8 (fun j hj hs => hs.elim (by omega) (fun e => by cases e))
  have s19 : Same h h9 (fun _ => False) := s18.trans s9 (fun j hj hs => hs.elim (by omega) (fun e => by have := n8' _ e; omega))
  have sf := (s19.trans s10 (fun _ _ x => x)).trans s12 (fun _ _ x => x)
  rw [tail_marks h _ sf.marks]
  exact sf
end
end
end Go.Proofs.Ytedldiimhbebdaa.Ai
