/- A tree is gone through: slots, records, Inner. -/
import Derived.Test.YtedldiimhbebdaaVB
import Derived.Test.YtedldiimhbebdaaTabOk
namespace Go.Proofs.Ytedldiimhbebdaa.Ai
open Go.Proofs.Ytedldiimhbebdaa
noncomputable section
open Go.RowKit
structure HasV3 (tab : Nat → Option AFunc) : Prop where
  v111 : tab 111 = some af111
  v127 : tab 127 = some af127
  v136 : tab 136 = some af136

theorem hasV3 : HasV3 tabT.get := ⟨by kernel_rfl, by kernel_rfl, by kernel_rfl⟩

theorem word_parts (t : Tr) : ∃ k : Nat, 1 ≤ k ∧ k ≤ 3 ∧ t.word = (t.adr : Int) * 8 + (k : Int) := by
  cases t
  · exact ⟨1, by omega, by omega, rfl⟩
  · exact ⟨2, by omega, by omega, rfl⟩
  · exact ⟨3, by omega, by omega, rfl⟩

theorem ok_adr {C : List Int} {t : Tr} (h : t.ok C) (hC : C.length ≤ 65536) : 1 ≤ t.adr ∧ t.adr ≤ 65536 := by
  cases t with
  | empty a => exact ⟨h.1, by have := h.2; show a ≤ _; omega⟩
  | leaf a k v => exact ⟨h.1, by have := h.2.1; show a ≤ _; omega⟩
  | inner a sz sh ch sm ks cs => exact ⟨h.1.1, by have := h.1.2.1; show a ≤ _; omega⟩

theorem spotss_len : ∀ (cs : List Tr) (s s' : Nat), (spotss s cs).length = (spotss s' cs).length
  | [], _, _ => rfl
  | t :: cs, s, s' => by simp [spotss, spotss_len cs (s + 1) (s' + 1)]

/-- of a record, and all below it -/
def RecP (P : Program) (t : Tr) : Prop := ∀ (h : Heap) (bt bm ut : Nat) (us um : Option Nat) (C : List Int) (z c o r : Int) (T : List Bool) (Sp : List Pr) (bs : Bool) (lo hi : Int), Vw h bt bm ut us um C z c o r T Sp bs → t.ok C → t.ord lo hi → t.free T → C.length ≤ 65536 → T.length = C.length + 1 → Sp.length + t.spots.length ≤ 100000 → -9223372036854775808 ≤ lo → hi ≤ 9223372036854775807 →
  FSpec P 127 [.pointer (some ⟨bt, 0, none⟩), I t.word, I lo, I hi] h fun v h' => v = .bool true ∧ (∃ us', Vw h' bt bm ut us' um C z c o r (t.marks T) (Sp ++ t.spots) (bs || t.busy) ∧ ∀ y, us' = some y → us = some y ∨ h.next ≤ y) ∧ Same h h' (VwS bt ut us)

section
variable {P : Program} {tab : Nat → Option AFunc} (hT : TabOk P tab) (V : HasV tab)
include hT V

theorem slot_spec (H : Has tab) (V3 : HasV3 tab) {t : Tr} (rec : RecP P t) {h : Heap} {bt bm ut : Nat} {us um : Option Nat} {C : List Int} {z c o r : Int} {T : List Bool} {Sp : List Pr} {bs : Bool} {lo hi : Int} (w : Vw h bt bm ut us um C z c o r T Sp bs) (hok : t.ok C) (hord : t.ord lo hi) (hfree : t.free T) (hC : C.length ≤ 65536) (hTl : T.length = C.length + 1) {s : Nat} (hs : s < 1000000) (hw : at0 C s = t.word) (hsp : Sp.length + (1 + t.spots.length) ≤ 100000) (h1 : -9223372036854775808 ≤ lo) (h2 : hi ≤ 9223372036854775807) :
    FSpec P 111 [.pointer (some ⟨bt, 0, none⟩), I s, I lo, I hi] h fun v h' => v = .bool true ∧ (∃ us', Vw h' bt bm ut us' um C z c o r (t.marks T) (Sp ++ (((s : Int), t.word) :: t.spots)) (bs || t.busy) ∧ ∀ y, us' = some y → us = some y ∨ h.next ≤ y) ∧ Same h h' (VwS bt ut us) := by
  refine fspec_cwf hT V3.v111 rfl ?_
  obtain ⟨k, k1, k2, hk⟩ := word_parts t
  obtain ⟨a1, a2⟩ := ok_adr hok hC
  obtain ⟨_, h, F1, rfl, rfl⟩ := at_spec hT V w.mem s hs
  rw [hw] at F1
  have F2 := kind_spec hT V H h t.adr k a1 a2 k1 (by omega)
  rw [← hk] at F2
  obtain ⟨_, h, F2, rfl, rfl⟩ := F2
  have F3 := logic_spec hT V H w.mem s hs a1 a2 k1 (by omega) (hw.trans hk)
  rw [← hk] at F3
  obtain ⟨_, h, F3, rfl, rfl⟩ := F3
  have c5 : ((k : Int) == 5) = false := by rw [beq_eq_false_iff_ne]; omega
  have r0 : h.rd bt 0 = some (.pointer (some ⟨bm, 0, none⟩)) := rd_of w.blk
  have r2 : h.rd bt 2 = some (ownSl us Sp.length) := rd_of w.blk
  have hcell : RdAt (h.new ⟨[I s, I t.word], 2, 2, true, false⟩) h.next 0 2 1 1 [I s, I t.word] := RdAt.fresh h [I s, I t.word] 1 2 true false rfl
  have s1 : Same h (h.new ⟨[I s, I t.word], 2, 2, true, false⟩) (fun _ => False) := Same.new
  have x1 : (h.new ⟨[I s, I t.word], 2, 2, true, false⟩).next = h.next + 1 := rfl
  generalize hh1 : h.new ⟨[I s, I t.word], 2, 2, true, false⟩ = k1' at hcell s1 x1
  have w1 := w.same s1
  obtain ⟨us2, k2', a3, o2, s2, n2⟩ := app_own (bytes := 16) w1.sp hcell.src rfl rfl (by omega) (by omega) (by omega)
  have x2 := s2.next
  have b2 : k2'.blks.get bt = some ⟨[.pointer (some ⟨bm, 0, none⟩), .slice (some ⟨ut, 0, none⟩) T.length T.length, ownSl us Sp.length, .slice none 0 0, .bool bs], 5, 5, true, false⟩ := by
    rw [s2.get bt w1.lt.1 (fun e => (w.ne.2.2.2.2 bt e).1 rfl)]; exact w1.blk
  have w2 : k2'.wrs bt 2 [ownSl us2 (Sp.length + 1)] = some (k2'.setB bt ⟨[.pointer (some ⟨bm, 0, none⟩), .slice (some ⟨ut, 0, none⟩) T.length T.length, ownSl us2 (Sp.length + 1), .slice none 0 0, .bool bs], 5, 5, true, false⟩) := wrs1_of b2 rfl (by simp) rfl
  have s3 : Same k2' (k2'.setB bt ⟨[.pointer (some ⟨bm, 0, none⟩), .slice (some ⟨ut, 0, none⟩) T.length T.length, ownSl us2 (Sp.length + 1), .slice none 0 0, .bool bs], 5, 5, true, false⟩) (fun j => j = bt) := Same.setB rfl
  have g3 : (k2'.setB bt ⟨[.pointer (some ⟨bm, 0, none⟩), .slice (some ⟨ut, 0, none⟩) T.length T.length, ownSl us2 (Sp.length + 1), .slice none 0 0, .bool bs], 5, 5, true, false⟩).blks.get bt = some ⟨[.pointer (some ⟨bm, 0, none⟩), .slice (some ⟨ut, 0, none⟩) T.length T.length, ownSl us2 (Sp.length + 1), .slice none 0 0, .bool bs], 5, 5, true, false⟩ := by rw [setB_get, if_pos rfl]
  generalize hh3 : k2'.setB bt ⟨[.pointer (some ⟨bm, 0, none⟩), .slice (some ⟨ut, 0, none⟩) T.length T.length, ownSl us2 (Sp.length + 1), .slice none 0 0, .bool bs], 5, 5, true, false⟩ = k3 at w2 s3 g3
  have x3 := s3.next
  have us2n : ∀ y, us2 = some y → y ≠ bt ∧ y ≠ ut ∧ y ≠ bm ∧ um ≠ some y := fun y hy => by
    rcases n2 y hy with e | e
    · exact w.ne.2.2.2.2 y e
    · have := w.lt; have := w.mem.lt
      exact ⟨by omega, by omega, by omega, fun e2 => by have := (w.mem.use y e2).2.2.1; omega⟩
  have hSp : (Sp ++ [((s : Int), t.word)]).length = Sp.length + 1 := by simp
  have wv : Vw k3 bt bm ut us2 um C z c o r T (Sp ++ [((s : Int), t.word)]) bs := by
    refine ⟨((w1.mem.same s2 (fun e => (w.ne.2.2.2.2 bm e).2.2.1 rfl) (fun y hy e => (w.ne.2.2.2.2 y e).2.2.2 hy)).same s3 (fun e => w.ne.1 e.symm) (fun y hy => (w.ne.2.2.2.1 y hy).1)), ?_, ?_, ?_, ⟨?_, ?_⟩, w.ne.1, w.ne.2.1, w.ne.2.2.1, w.ne.2.2.2.1, us2n⟩
    · rw [g3, hSp]
    · rw [s3.get ut (by have := w.lt; omega) w.ne.2.2.1, s2.get ut (by have := w.lt; omega) (fun e => (w.ne.2.2.2.2 ut e).2.1 rfl)]
      exact w1.tk
    · have := o2.same s3 (fun y hy e => (us2n y hy).1 e)
      rw [hSp, flat_app]
      exact this
    · have := w.lt; omega
    · have := w.lt; omega
  obtain ⟨_, h4, F4, rfl, ⟨us4, wv4, n4⟩, s4⟩ := rec k3 bt bm ut us2 um C z c o r T (Sp ++ [((s : Int), t.word)]) bs lo hi wv hok hord hfree hC hTl (by rw [hSp]; omega) h1 h2
  have sf : Same h h4 (VwS bt ut us) := (((s1.mono (T := VwS bt ut us) (fun _ x => x.elim)).trans s2 (fun j hj e => .inr (.inr e))).trans s3 (fun j hj e => .inl e)).trans s4 (fun j hj e => by
    rcases e with e | e | e
    · exact .inl e
    · exact .inr (.inl e)
    · rcases n2 j e with e2 | e2
      · exact .inr (.inr e2)
      · omega)
  simp only [af111, cwf_seq, cwf_ops, andThen_normal, owf_nil, o_p, o_r, owf_call, bo_eq, optQ_some, pop, popQ, rop_load1, ldV_ptr, ev, evs, putA, putArgs, look_put, Nat.add_zero, ite_true, ite_false, Nat.reduceEqDiff, Nat.reduceAdd, Nat.zero_add, r0]
  refine ⟨_, _, F1, ?_⟩
  simp only [cwf_seq, cwf_ops, andThen_normal, owf_nil, o_p, owf_call, behind_eq, bo_eq, optQ_some, pop, popQ, ev, evs, putA, look_put, ite_true, ite_false, Nat.reduceEqDiff]
  refine ⟨_, _, F2, ?_⟩
  simp only [cwf_seq, cwf_ops, c_false, cwf_skip, andThen_normal, owf_nil, o_p, o_r, owf_call, behind_eq, bo_eq, optQ_some, pop, popQ, rop_load1, ldV_ptr, ev, evs, putA, look_put, isB_false, abinF_eq, abin, Nat.add_zero, decide_true, cond_true, ite_true, ite_false, Bool.not_false, Nat.reduceEqDiff, c5, r0]
  refine ⟨_, _, F3, ?_⟩
  simp only [cwf_seq, cwf_ops, andThen_normal, owf_nil, o_p, o_r, o_e, owf_call, behind_eq, bo_eq, optQ_some, opt2_some, pop, popQ, rop_load1, ldV_ptr, ev, evs, putA, look_put, eop_store1, eop_app, st1, eop_buildS, bldS_some, evP_nil, evP_cons, fillA_nil, fillA_one, fillA_pair, List.length_cons, List.length_nil, List.set_cons_zero, List.set_cons_succ, Nat.reduceLT, Nat.lt_add_one, scalar_slice, scalar_int, ite_true, ite_false, Nat.reduceEqDiff, Nat.reduceAdd, Nat.zero_add, Nat.reduceMul, r2, hh1, a3, w2]
  refine ⟨_, _, F4, ?_⟩
  simp only [cwf_ret, andThen_normal, fnQ_ret, owf_nil, o_p, behind_eq, bo_eq, optQ_some, pop, popQ, ev, putA, look_put, resAll, resA, mkRes1, ite_true, ite_false, Nat.reduceEqDiff, Option.some.injEq, exists_eq_left', true_and]
  rw [tail_marks h h4 sf.marks]
  refine ⟨⟨us4, ?_, fun y hy => ?_⟩, sf⟩
  · rw [List.append_assoc] at wv4; exact wv4
  · rcases n4 y hy with e | e
    · exact (n2 y e).imp_right (fun e => by omega)
    · exact .inr (by omega)
end
end
end Go.Proofs.Ytedldiimhbebdaa.Ai
