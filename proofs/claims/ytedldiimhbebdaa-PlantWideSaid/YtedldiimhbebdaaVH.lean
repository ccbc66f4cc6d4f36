/- Is a word one of the tree; what is below it. -/
import Derived.Test.YtedldiimhbebdaaVG
import Derived.Test.YtedldiimhbebdaaTabOk
import Derived.Test.YtedldiimhbebdaaQX
namespace Go.Proofs.Ytedldiimhbebdaa.Ai
open Go.Proofs.Ytedldiimhbebdaa
noncomputable section
open Go.RowKit
structure HasV6 (tab : Nat → Option AFunc) : Prop where
  v48 : tab 48 = some af48
  v78 : tab 78 = some af78
  v80 : tab 80 = some af80
  v113 : tab 113 = some af113
  v114 : tab 114 = some af114
  v129 : tab 129 = some af129

theorem hasV6 : HasV6 tabT.get := ⟨by kernel_rfl, by kernel_rfl, by kernel_rfl, by kernel_rfl, by kernel_rfl, by kernel_rfl⟩

theorem boxV2 (h : Heap) (a b : Value) : boxV h 2 (.agg #[a, b]) = some (.pointer (some ⟨h.next, 0, none⟩), h.new ⟨[a, b], 2, 2, true, false⟩) := (rfl)

section
variable {P : Program} {tab : Nat → Option AFunc} (hT : TabOk P tab) (V : HasV tab)
include hT

theorem has1_spec (V6 : HasV6 tab) {h : Heap} {bx : Nat} {w : Int} (hb : h.rd bx 0 = some (I w)) (hlt : bx < h.next) (s x : Int) : FSpec P 114 [.agg #[I s, I x], .pointer (some ⟨bx, 0, none⟩)] h fun v h' => v = .bool (x == w) ∧ Same h h' (fun _ => False) := by
  refine fspec_cwf hT V6.v114 rfl ?_
  have s1 : Same h (h.new ⟨[I s, I x], 2, 2, true, false⟩) (fun _ => False) := Same.new
  have g1 : (h.new ⟨[I s, I x], 2, 2, true, false⟩).rd h.next 1 = some (I x) := by rw [rd_of (by rw [new_get, if_pos rfl])]; rfl
  have g2 : (h.new ⟨[I s, I x], 2, 2, true, false⟩).rd bx 0 = some (I w) := by
    unfold Heap.rd at hb ⊢
    rw [s1.get bx hlt (fun x => x)]; exact hb
  generalize hh : h.new ⟨[I s, I x], 2, 2, true, false⟩ = k at s1 g1 g2
  simp only [af114, cwf_seq, cwf_ops, cwf_ret, andThen_normal, fnQ_ret, owf_nil, o_p, o_r, o_e, behind_eq, bo_eq, optQ_some, opt2_some, pop, popQ, rop_load1, ldV_ptr, ev, putA, putArgs, look_put, abinF_eq, abin, resAll, resA, mkRes1, eop_box, decide_true, cond_true, ite_true, ite_false, Nat.reduceEqDiff, Nat.zero_add, Option.some.injEq, exists_eq_left', true_and, boxV2, hh, g1, g2]
  rw [tail_marks h k s1.marks]
  exact s1

theorem find_spec (V6 : HasV6 tab) {h : Heap} {bx : Nat} {w : Int} (hb : h.rd bx 0 = some (I w)) (hlt : bx < h.next) {x p n cap : Nat} {Sp : List Pr} (r : RdAt h x p 2 n cap (flat Sp)) (hl : Sp.length = n) (hn : n < 1000000) (hw : ∃ q ∈ Sp, q.2 = w) : FSpec P 113 [.slice (some ⟨x, p, none⟩) n cap, .func (.func 114) #[] #[.pointer (some ⟨bx, 0, none⟩)]] h fun v h' => v = .bool true ∧ Same h h' (fun _ => False) := by
  have F129 : FSpec P 129 [.slice (some ⟨x, p, none⟩) n cap, .func (.func 114) #[] #[.pointer (some ⟨bx, 0, none⟩)]] h fun v h' => (∃ i : Nat, v = I i) ∧ Same h h' (fun _ => False) := by
    refine fspec_cwf hT V6.v129 rfl ?_
    simp only [af129, cwf_seq, cwf_ops, cwf_block, cwf_loop, andThen_normal, owf_nil, o_p, bo_eq, optQ_some, pop, popQ, ev, putA, putArgs, look_put, Int.reduceNeg, cond_false, ite_true, ite_false, Nat.reduceEqDiff, Nat.zero_add]
    refine cw_loop (fun k ts h' => ∃ i : Nat, k = n - i ∧ i ≤ n ∧ look ts 0 = .slice (some ⟨x, p, none⟩) n cap ∧ look ts 1 = .func (.func 114) #[] #[.pointer (some ⟨bx, 0, none⟩)] ∧ look ts 7 = I n ∧ look ts 8 = I i ∧ (∀ j (hj : j < Sp.length), j < i → Sp[j].2 ≠ w) ∧ Same h h' (fun _ => False)) ?_ (n := n) ⟨0, rfl, Nat.zero_le _, by simp only [look_put, ite_true, ite_false, Nat.reduceEqDiff], by simp only [look_put, ite_true, ite_false, Nat.reduceEqDiff], by simp only [look_put, ite_true, ite_false, Nat.reduceEqDiff], by simp only [look_put, Int.cast_ofNat_Int, ite_true, ite_false, Nat.reduceEqDiff] <;> rfl, fun j hj h => by omega, Same.refl _ _⟩
    rintro k ts h' ⟨i, rfl, i2, t0, t1, t7, t8, hno, sm⟩
    refine cwf_cw ?_
    by_cases hi : i < n
    · have ci : ((i : Int) < n) = True := by simp [hi]
      have wi : wrapF .i64 ((i : Int) + 1) = ((i + 1 : Nat) : Int) := by rw [wrapI] <;> omega
      have his : i < Sp.length := by omega
      have rr : RdAt h' x p 2 Sp.length cap (flat Sp) := by rw [hl]; exact r.same sm (fun x => x)
      have q1 := ldN_of (pair_rds rr his)
      have hb' : h'.rd bx 0 = some (I w) := by
        unfold Heap.rd at hb ⊢
        rw [sm.get bx hlt (fun x => x)]; exact hb
      obtain ⟨_, h2, F, rfl, s2⟩ := has1_spec hT V6 hb' (Nat.lt_of_lt_of_le hlt sm.next) Sp[i].1 Sp[i].2
      simp only [cwf_seq, cwf_ops, c_true, cwf_skip, cwf_block, andThen_normal, owf_nil, o_p, o_r, bo_eq, optQ_some, pop, popQ, ev, evs, putA, look_put, isB_true, abinF_eq, abin, Int.toNat_natCast, Int.natCast_nonneg, Int.reduceNeg, inB_eq, decide_true, cond_true, ite_true, ite_false, Bool.and_true, Nat.reduceEqDiff, o_callv, callV_f, List.nil_append, List.cons_append, rop_loadN, t0, t1, t7, t8, ci, q1]
      refine ⟨_, _, F, ?_⟩
      have sf := sm.trans s2 (fun _ _ x => x)
      by_cases hc : Sp[i].2 = w
      · have e : (Sp[i].2 == w) = true := by rw [hc]; simp
        simp only [cwf_seq, cwf_ops, cwf_ret, c_true, andThen_normal, andThen_ret, blockQ_ret, roundQ_ret, fnQ_ret, owf_nil, o_p, behind_eq, bo_eq, optQ_some, pop, popQ, ev, putA, look_put, isB_true, resAll, resA, mkRes1, Int.reduceNeg, ite_true, ite_false, Nat.reduceEqDiff, Option.some.injEq, exists_eq_left', e]
        rw [tail_marks h h2 sf.marks]
        exact ⟨⟨i, rfl⟩, sf⟩
      · have e : (Sp[i].2 == w) = false := by simp [hc]
        simp only [cwf_ops, c_false, cwf_skip, andThen_normal, blockQ_normal, roundQ_normal, owf_nil, o_p, behind_eq, bo_eq, optQ_some, pop, popQ, ev, putA, look_put, isB_false, abinF_eq, abin, Int.reduceNeg, decide_true, cond_true, ite_true, ite_false, Bool.not_false, Nat.reduceEqDiff, true_and, t0, t1, t7, t8, e, wi]
        refine ⟨n - (i + 1), by omega, i + 1, rfl, by omega, rfl, fun j hj hji => ?_, sf⟩
        by_cases q : j < i
        · exact hno j hj q
        · have : j = i := by omega
          subst this; exact hc
    · exfalso
      obtain ⟨q, hq, hqw⟩ := hw
      obtain ⟨j, hj, rfl⟩ := List.getElem_of_mem hq
      exact hno j hj (by omega) hqw
  obtain ⟨_, h1, F1, ⟨i, rfl⟩, s1⟩ := F129
  refine fspec_cwf hT V6.v113 rfl ?_
  have c1 : ((i : Int) ≥ 0) = True := by simp
  simp only [af113, cwf_seq, cwf_ops, andThen_normal, owf_nil, o_p, owf_call, bo_eq, optQ_some, pop, popQ, ev, evs, putA, putArgs, look_put, ite_true, ite_false, Nat.reduceEqDiff, Nat.zero_add]
  refine ⟨_, _, F1, ?_⟩
  simp only [cwf_ret, andThen_normal, fnQ_ret, owf_nil, o_p, behind_eq, bo_eq, optQ_some, pop, popQ, ev, putA, look_put, abinF_eq, abin, resAll, resA, mkRes1, decide_true, cond_true, ite_true, ite_false, Nat.reduceEqDiff, Option.some.injEq, exists_eq_left', true_and, c1]
  rw [tail_marks h h1 s1.marks]
  exact s1

include V

theorem none_spec (h : Heap) (w : Int) : FSpec P 112 [.slice none 0 0, I w] h fun v h' => v = .bool false ∧ h' = h := by
  have F128 : FSpec P 128 [.slice none 0 0, I w] h fun v h' => v = I (-1) ∧ h' = h := by
    refine fspec_cwf hT V.v128 rfl ?_
    simp only [af128, cwf_seq, cwf_ops, cwf_block, cwf_loop, andThen_normal, owf_nil, o_p, bo_eq, optQ_some, pop, popQ, ev, putA, putArgs, look_put, Int.cast_ofNat_Int, Int.reduceNeg, cond_false, ite_true, ite_false, Nat.reduceEqDiff, Nat.zero_add]
    refine cw_lw (lw_step ?_)
    simp only [cwf_seq, cwf_ops, cwf_ret, c_false, cwf_exit, andThen_normal, andThen_exit, blockQ_exit, lwQ_exit, fnQ_ret, owf_nil, o_p, bo_eq, optQ_some, pop, popQ, ev, putA, look_put, isB_false, abinF_eq, abin, resAll, resA, mkRes1, Int.reduceLT, Int.reduceNeg, decide_true, decide_false, cond_true, ite_true, ite_false, Bool.not_false, Nat.reduceEqDiff, Option.some.injEq, exists_eq_left', and_true]
  obtain ⟨_, h1, F1, rfl, rfl⟩ := F128
  refine fspec_cwf hT V.v112 rfl ?_
  have c1 : ((-1 : Int) ≥ 0) = False := by simp
  simp only [af112, cwf_seq, cwf_ops, andThen_normal, owf_nil, o_p, owf_call, bo_eq, optQ_some, pop, popQ, ev, evs, putA, putArgs, look_put, ite_true, ite_false, Nat.reduceEqDiff, Nat.zero_add]
  refine ⟨_, _, F1, ?_⟩
  simp only [cwf_ret, andThen_normal, fnQ_ret, owf_nil, o_p, behind_eq, bo_eq, optQ_some, pop, popQ, ev, putA, look_put, abinF_eq, abin, resAll, resA, mkRes1, Int.reduceNeg, decide_true, decide_false, cond_true, ite_true, ite_false, Nat.reduceEqDiff, Option.some.injEq, exists_eq_left', and_true, c1]

theorem has_spec (V6 : HasV6 tab) {h : Heap} {bt bm ut : Nat} {us um : Option Nat} {C : List Int} {z c o r : Int} {T : List Bool} {Sp : List Pr} {bs : Bool} (w : Vw h bt bm ut us um C z c o r T Sp bs) (hl : Sp.length < 1000000) {x : Int} (hx : ∃ q ∈ Sp, q.2 = x) : FSpec P 78 [.pointer (some ⟨bt, 0, none⟩), I x] h fun v h' => v = .bool true ∧ Same h h' (fun _ => False) := by
  refine fspec_cwf hT V6.v78 rfl ?_
  have s1 : Same h (h.new ⟨[I x], 1, 1, true, false⟩) (fun _ => False) := Same.new
  have g1 : (h.new ⟨[I x], 1, 1, true, false⟩).rd h.next 0 = some (I x) := by rw [rd_of (by rw [new_get, if_pos rfl])]; rfl
  have x1 : (h.new ⟨[I x], 1, 1, true, false⟩).next = h.next + 1 := rfl
  generalize hh : h.new ⟨[I x], 1, 1, true, false⟩ = k at s1 g1 x1
  have w1 := w.same s1
  have r3 : k.rd bt 3 = some (.slice none 0 0) := rd_of w1.blk
  have r2 : k.rd bt 2 = some (ownSl us Sp.length) := rd_of w1.blk
  obtain ⟨_, k, F1, rfl, rfl⟩ := none_spec hT V k x
  have hpos : Sp ≠ [] := by
    obtain ⟨q, hq, _⟩ := hx
    intro e; rw [e] at hq; simp at hq
  obtain ⟨y, rfl⟩ : ∃ y, us = some y := by
    cases us with
    | none => have := w1.sp.non rfl; exact (hpos (List.eq_nil_of_length_eq_zero this)).elim
    | some y => exact ⟨y, rfl⟩
  obtain ⟨_, h2, F2, rfl, s2⟩ := find_spec hT V6 g1 (by omega) w1.sp.rd rfl hl hx
  simp only [af78, cwf_seq, cwf_ops, cwf_draw, andThen_normal, owf_nil, o_p, o_e, behind_eq, bo_eq, bd_eq, optQ_some, opt2_some, d_p, d_r, pop, popQ, rop_load1, ldV_ptr, ev, putA, putArgs, look_put, eop_box, scalar_int, ite_true, ite_false, Nat.reduceEqDiff, Nat.zero_add, box1, hh]
  refine ⟨cfOf 112 _ k _ k (cfOf 113 _ k _ h2 cf00), cfOf_ok F1 (cfOf_ok F2 cf00_ok), ?_⟩
  have e1 := @cfOf_eq 112 [.slice none 0 0, I x] k (.bool false) k (cfOf 113 [.slice (some ⟨y, 0, none⟩) Sp.length Sp.length, .func (.func 114) #[] #[.pointer (some ⟨h.next, 0, none⟩)]] k (.bool true) h2 cf00)
  have e2 : cfOf 112 [.slice none 0 0, I x] k (.bool false) k (cfOf 113 [.slice (some ⟨y, 0, none⟩) Sp.length Sp.length, .func (.func 114) #[] #[.pointer (some ⟨h.next, 0, none⟩)]] k (.bool true) h2 cf00) (.fn 113) [.slice (some ⟨y, 0, none⟩) Sp.length Sp.length, .func (.func 114) #[] #[.pointer (some ⟨h.next, 0, none⟩)]] k = some (.bool true, h2) := by rw [cfOf_ne (by decide)]; exact cfOf_eq
  simp only [ownSl, Option.map_some] at r2
  simp only [cwf_ret, andThen_normal, fnQ_ret, bd_eq, bd2_eq, optQ_some, opt2_some, dwf_nil, d_p, d_r, d_call, d_on, pop, popQ, rop_load1, ldV_ptr, ev, evs, putA, look_put, isB_false, resAll, resA, mkRes1, cond_false, ite_true, ite_false, Bool.not_false, Nat.reduceEqDiff, Nat.zero_add, Option.some.injEq, exists_eq_left', true_and, r3, g1, r2, e1, e2]
  have sf := s1.trans s2 (fun _ _ x => x)
  rw [tail_marks h h2 sf.marks]
  exact sf

/-- what Content keeps -/
def ContI (bm : Nat) (um : Option Nat) (h0 : Heap) (bx : Nat) (acc : List Pr) (F : Nat → Prop) (h : Heap) : Prop :=
  ∃ uo, h.blks.get bx = some ⟨[ownSl uo acc.length], 1, 1, true, false⟩ ∧ OwnAt h uo 2 acc.length (flat acc) ∧ (∀ j, F j ↔ j = bx ∨ uo = some j) ∧ bx < h.next ∧ bx ≠ bm ∧ um ≠ some bx ∧ (∀ y, uo = some y → y ≠ bx ∧ y ≠ bm ∧ um ≠ some y ∧ h0.next ≤ y)

omit V in
theorem content1_client (V6 : HasV6 tab) {bm : Nat} {um : Option Nat} {C : List Int} {z c o r : Int} {bx : Nat} {h0 : Heap} (hb0 : h0.next ≤ bx) : Client P bm um C z c o r (.func (.func 80) #[] #[.pointer (some ⟨bx, 0, none⟩)]) (ContI bm um h0 bx) := by
  refine ⟨?_, ?_, ?_, ?_, rfl, ?_, ?_, ?_, ?_⟩
  · rintro acc F h ⟨uo, h1, h2, h3, h4, _⟩ j hj
    rcases (h3 j).1 hj with e | e
    · omega
    · exact (h2.use j e).2.1
  · rintro acc F h h' S ⟨uo, h1, h2, h3, h4, h5, h6, h7⟩ s hs
    refine ⟨uo, by rw [s.get bx h4 (hs bx ((h3 bx).2 (.inl rfl)))]; exact h1, ?_, h3, Nat.lt_of_lt_of_le h4 s.next, h5, h6, h7⟩
    exact ⟨fun x hx => by
      obtain ⟨q1, q2, q3⟩ := h2.use x hx
      exact ⟨by rw [s.get x q2 (hs x ((h3 x).2 (.inr hx)))]; exact q1, Nat.lt_of_lt_of_le q2 s.next, q3⟩, h2.non, h2.len, h2.sc⟩
  · rintro acc F h ⟨uo, h1, h2, h3, h4, h5, h6, h7⟩ j hj
    rcases (h3 j).1 hj with e | e
    · rw [e]; exact ⟨h5, h6⟩
    · exact ⟨(h7 j e).2.1, (h7 j e).2.2.1⟩
  · rintro acc F h p hacc ⟨uo, h1, h2, h3, h4, h5, h6, h7⟩ m
    rw [callV_f]
    show FSpec P 80 [I p.1, I p.2, .pointer (some ⟨bx, 0, none⟩)] h _
    refine fspec_cwf hT V6.v80 rfl ?_
    have r1 : h.rd bx 0 = some (ownSl uo acc.length) := rd_of h1
    have hcell : RdAt (h.new ⟨[I p.1, I p.2], 2, 2, true, false⟩) h.next 0 2 1 1 [I p.1, I p.2] := RdAt.fresh h [I p.1, I p.2] 1 2 true false rfl
    have s1 : Same h (h.new ⟨[I p.1, I p.2], 2, 2, true, false⟩) (fun _ => False) := Same.new
    have x1 : (h.new ⟨[I p.1, I p.2], 2, 2, true, false⟩).next = h.next + 1 := rfl
    generalize hh1 : h.new ⟨[I p.1, I p.2], 2, 2, true, false⟩ = k1 at hcell s1 x1
    obtain ⟨uo', k2, a2, o2, s2, n2⟩ := app_own (bytes := 16) (h2.same s1 (fun _ _ x => x)) hcell.src rfl rfl (by omega) (by omega) (by omega)
    have x2 := s2.next
    have g2 : k2.blks.get bx = some ⟨[ownSl uo acc.length], 1, 1, true, false⟩ := by rw [s2.get bx (by omega) (fun e => (h7 bx e).1 rfl), s1.get bx h4 (fun x => x)]; exact h1
    have w2 : k2.wrs bx 0 [ownSl uo' (acc.length + 1)] = some (k2.setB bx ⟨[ownSl uo' (acc.length + 1)], 1, 1, true, false⟩) := wrs1_of g2 rfl (by simp) rfl
    have s3 : Same k2 (k2.setB bx ⟨[ownSl uo' (acc.length + 1)], 1, 1, true, false⟩) (fun j => j = bx) := Same.setB rfl
    have g3 : (k2.setB bx ⟨[ownSl uo' (acc.length + 1)], 1, 1, true, false⟩).blks.get bx = some ⟨[ownSl uo' (acc.length + 1)], 1, 1, true, false⟩ := by rw [setB_get, if_pos rfl]
    generalize k2.setB bx ⟨[ownSl uo' (acc.length + 1)], 1, 1, true, false⟩ = k3 at w2 s3 g3
    have x3 := s3.next
    simp only [af80, cwf_seq, cwf_ops, cwf_ret, andThen_normal, fnQ_ret, owf_nil, o_p, o_r, o_e, behind_eq, bo_eq, optQ_some, opt2_some, pop, popQ, rop_load1, ldV_ptr, ev, putA, putArgs, look_put, resAll, resA, mkRes1, eop_store1, eop_app, st1, eop_buildS, bldS_some, evP_nil, evP_cons, fillA_nil, fillA_one, fillA_pair, List.length_cons, List.length_nil, List.set_cons_zero, List.set_cons_succ, Nat.reduceLT, Nat.lt_add_one, scalar_slice, scalar_int, ite_true, ite_false, Nat.reduceEqDiff, Nat.reduceAdd, Nat.zero_add, Nat.reduceMul, Option.some.injEq, exists_eq_left', true_and, r1, hh1, a2, w2]
    have sf : Same h k3 F := ((s1.mono (T := F) (fun _ x => x.elim)).trans s2 (fun j _ e => (h3 j).2 (.inr e))).trans s3 (fun j _ e => (h3 j).2 (.inl e))
    rw [tail_marks h k3 sf.marks]
    have hn : ∀ y, uo' = some y → y ≠ bx ∧ y ≠ bm ∧ um ≠ some y ∧ h0.next ≤ y := fun y hy => by
      rcases n2 y hy with e | e
      · exact h7 y e
      · have := m.lt
        exact ⟨by omega, by omega, fun e2 => by have := (m.use y e2).2.2.1; omega, by omega⟩
    refine ⟨fun j => j = bx ∨ uo' = some j, ⟨uo', ?_, ?_, fun j => Iff.rfl, by omega, h5, h6, hn⟩, sf, fun j hj => ?_⟩
    · rw [g3]; simp
    · have := o2.same s3 (fun y hy e => (hn y hy).1 e)
      rw [flat_app, List.length_append]; exact this
    · rcases hj with e | e
      · exact .inl ((h3 j).2 (.inl e))
      · rcases n2 j e with e2 | e2
        · exact .inl ((h3 j).2 (.inr e2))
        · exact .inr (by omega)
  · simp [veq, veqs, veq1]
  · rintro f fs cs e; cases e; simp
  · rintro f fs cs e; cases e; simp
  · rintro f fs cs e; cases e; simp

theorem content_spec (H : Has tab) (V2 : HasV2 tab) (V3 : HasV3 tab) (V4 : HasV4 tab) (V5 : HasV5 tab) (V6 : HasV6 tab) {h : Heap} {bm : Nat} {um : Option Nat} {C : List Int} {z c o r : Int} {t : Tr} (m : MemAt h bm um C z c o r) (R : Rooted C t) (hl : t.content.length ≤ 100000) : FSpec P 48 [.pointer (some ⟨bm, 0, none⟩), I t.word] h fun v h' => (∃ u, v = ownSl u t.content.length ∧ OwnAt h' u 2 t.content.length (flat t.content) ∧ ∀ y, u = some y → h.next ≤ y) ∧ Same h h' (fun _ => False) := by
  refine fspec_cwf hT V6.v48 rfl ?_
  obtain ⟨_, h1, F1, bt, ut, us, rfl, w, _, s1⟩ := survey_spec hT V H V2 V3 V4 m R
  obtain ⟨_, h2, F2, rfl, s2⟩ := has_spec hT V V6 w (by have := R.few; simp; omega) (x := t.word) ⟨((6 : Int), t.word), by simp, rfl⟩
  have s02 := s1.trans s2 (fun _ _ x => x)
  have m2 := m.same s02 (fun x => x) (fun _ _ x => x)
  have x2 := s02.next
  have hbm := m.lt
  have huml := fun y hy => (m.use y hy).2.2.1
  have s3 : Same h2 (h2.new ⟨[.slice none 0 0], 1, 1, true, false⟩) (fun _ => False) := Same.new
  have g3 : (h2.new ⟨[.slice none 0 0], 1, 1, true, false⟩).blks.get h2.next = some ⟨[.slice none 0 0], 1, 1, true, false⟩ := by rw [new_get, if_pos rfl]
  have x3 : (h2.new ⟨[.slice none 0 0], 1, 1, true, false⟩).next = h2.next + 1 := rfl
  generalize hh3 : h2.new ⟨[.slice none 0 0], 1, 1, true, false⟩ = h3 at s3 g3 x3
  obtain ⟨_, h4, F4, rfl, ⟨F', ⟨uo, q1, q2, q3, q4, q5, q6, q7⟩, hF'⟩, s4⟩ := leaves_spec hT V H V5 (content1_client hT V6 (bm := bm) (um := um) (C := C) (z := z) (c := c) (o := o) (r := r) (bx := h2.next) (h0 := h2) (Nat.le_refl _)) R.len.2 t h3 [] (fun j => j = h2.next)
    ⟨none, g3, OwnAt.nil _ _, fun j => ⟨fun e => .inl e, fun e => e.elim id (fun e => by cases e)⟩, by omega, by omega, fun e => by have := huml _ e; omega, fun y hy => by cases hy⟩ (m2.same s3 (fun x => x) (fun _ _ x => x)) R.ok (by simpa using hl)
  have r4 : h4.rd h2.next 0 = some (ownSl uo t.content.length) := by rw [rd_of q1]; rfl
  simp only [af48, cwf_seq, cwf_ops, andThen_normal, owf_nil, o_p, owf_call, bo_eq, optQ_some, pop, popQ, ev, evs, putA, putArgs, look_put, ite_true, ite_false, Nat.reduceEqDiff, Nat.zero_add]
  refine ⟨_, _, F1, ?_⟩
  simp only [cwf_seq, cwf_ops, andThen_normal, owf_nil, o_p, owf_call, o_on, behind_eq, bo_eq, optQ_some, pop, popQ, ev, evs, putA, look_put, isB_false, ite_true, ite_false, Bool.not_true, Bool.not_false, Nat.reduceEqDiff, List.getElem?_cons_zero, List.getElem?_cons_succ]
  refine ⟨_, _, F2, ?_⟩
  simp only [cwf_seq, cwf_ops, c_false, cwf_skip, andThen_normal, owf_nil, o_p, o_e, owf_call, o_on, behind_eq, bo_eq, optQ_some, opt2_some, pop, popQ, ev, evs, putA, look_put, isB_false, List.length_cons, List.length_nil, cond_false, ite_true, ite_false, Bool.not_true, Bool.not_false, Nat.reduceEqDiff, Nat.zero_add, eop_alloc, List.length_cons, List.length_nil, hh3]
  refine ⟨_, _, F4, ?_⟩
  simp only [cwf_seq, cwf_ops, cwf_ret, andThen_normal, fnQ_ret, owf_nil, o_p, o_r, behind_eq, bo_eq, optQ_some, pop, popQ, rop_load1, ldV_ptr, ev, putA, look_put, resAll, resA, mkRes1, ite_true, ite_false, Nat.reduceEqDiff, Option.some.injEq, exists_eq_left', r4]
  have sf : Same h h4 (fun _ => False) := (s02.trans s3 (fun _ _ x => x)).trans s4 (fun j hj e => by omega)
  rw [tail_marks h h4 sf.marks]
  exact ⟨⟨uo, rfl, q2, fun y hy => by have := (q7 y hy).2.2.2; omega⟩, sf⟩
end
end
end Go.Proofs.Ytedldiimhbebdaa.Ai
