/- The Leaves below a word, one by one, each handed to one who knows what comes. -/
import Derived.Test.YtedldiimhbebdaaVH
import Derived.Test.YtedldiimhbebdaaVK
namespace Go.Proofs.Ytedldiimhbebdaa.Ai
open Go.Proofs.Ytedldiimhbebdaa
noncomputable section
set_option linter.unusedVariables false
open Go.RowKit

/-- one who is handed Leaves: what he keeps of those that he got; which blocks are his -/
structure ClientO (Ok : List Pr → Prop) (P : Program) (bm : Nat) (um : Option Nat) (C : List Int) (z c o r : Int) (yv : Value) (Iv : List Pr → (Nat → Prop) → Heap → Prop) : Prop where
  lt : ∀ acc F h, Iv acc F h → ∀ j, F j → j < h.next
  frame : ∀ acc F h h' S, Iv acc F h → SameB h h' S → (∀ j, F j → ¬ S j) → Iv acc F h'
  mem : ∀ acc F h, Iv acc F h → ∀ j, F j → j ≠ bm ∧ um ≠ some j
  call : ∀ acc F h (p : Pr), Ok (acc ++ [p]) → Iv acc F h → MemAt h bm um C z c o r → callV P yv [I p.1, I p.2] h fun v h' => v = .bool true ∧ ∃ F', Iv (acc ++ [p]) F' h' ∧ Same h h' F ∧ ∀ j, F' j → F j ∨ h.next ≤ j
  fn : isFunc yv = true
  veq : veq yv yv = true
  y118 : notFn yv [118]
  y76 : notFn yv [76]
  y58 : notFn yv [58]
  pre : ∀ a b, Ok (a ++ b) → Ok a

section
variable {P : Program} {tab : Nat → Option AFunc} (hT : TabOk P tab) (V : HasV tab)
include hT V

/-- of a tree -/
def LeafO (Ok : List Pr → Prop) (P : Program) (bm : Nat) (um : Option Nat) (C : List Int) (z c o r : Int) (yv : Value) (Iv : List Pr → (Nat → Prop) → Heap → Prop) (t : Tr) : Prop :=
  ∀ (h : Heap) (acc : List Pr) (F : Nat → Prop), Iv acc F h → MemAt h bm um C z c o r → t.ok C → Ok (acc ++ t.content) → FSpec P 75 [.pointer (some ⟨bm, 0, none⟩), I t.word, yv] h fun v h' => v = .bool true ∧ (∃ F', Iv (acc ++ t.content) F' h' ∧ ∀ j, F' j → F j ∨ h.next ≤ j) ∧ Same h h' F

theorem leavesO_spec {Ok : List Pr → Prop} (H : Has tab) (V5 : HasV5 tab) {bm : Nat} {um : Option Nat} {C : List Int} {z c o r : Int} {yv : Value} {Iv : List Pr → (Nat → Prop) → Heap → Prop} (cl : ClientO Ok P bm um C z c o r yv Iv) (hC : C.length ≤ 65536) : ∀ t : Tr, LeafO Ok P bm um C z c o r yv Iv t := by
  intro t
  induction t using Tr.ind with
  | e a =>
    intro h acc F iv m hok hacc
    refine fspec_cwf hT V5.v75 rfl ?_
    have q1 : 1 ≤ a := hok.1
    have q2 : a ≤ C.length := hok.2
    have hFl := cl.lt acc F h iv
    have ew : (Tr.empty a).word = (a : Int) * 8 + ((1 : Nat) : Int) := rfl
    have hys := isFunc_scalar cl.fn
    -- what is its own
    have s1 : Same h (h.new ⟨[.pointer (some ⟨bm, 0, none⟩)], 1, 1, true, false⟩) (fun _ => False) := Same.new
    have g1 : (h.new ⟨[.pointer (some ⟨bm, 0, none⟩)], 1, 1, true, false⟩).blks.get h.next = some ⟨[.pointer (some ⟨bm, 0, none⟩)], 1, 1, true, false⟩ := by rw [new_get, if_pos rfl]
    have x1 : (h.new ⟨[.pointer (some ⟨bm, 0, none⟩)], 1, 1, true, false⟩).next = h.next + 1 := rfl
    generalize hh1 : h.new ⟨[.pointer (some ⟨bm, 0, none⟩)], 1, 1, true, false⟩ = h1 at s1 g1 x1
    have s2 : Same h1 (h1.new ⟨[yv], 1, 1, true, false⟩) (fun _ => False) := Same.new
    have g2 : (h1.new ⟨[yv], 1, 1, true, false⟩).blks.get h1.next = some ⟨[yv], 1, 1, true, false⟩ := by rw [new_get, if_pos rfl]
    have x2 : (h1.new ⟨[yv], 1, 1, true, false⟩).next = h1.next + 1 := rfl
    generalize hh2 : h1.new ⟨[yv], 1, 1, true, false⟩ = h2 at s2 g2 x2
    have s3 : Same h2 (h2.new ⟨[.bool false], 1, 1, true, false⟩) (fun _ => False) := Same.new
    have g3 : (h2.new ⟨[.bool false], 1, 1, true, false⟩).blks.get h2.next = some ⟨[.bool false], 1, 1, true, false⟩ := by rw [new_get, if_pos rfl]
    have x3 : (h2.new ⟨[.bool false], 1, 1, true, false⟩).next = h2.next + 1 := rfl
    generalize hh3 : h2.new ⟨[.bool false], 1, 1, true, false⟩ = h3 at s3 g3 x3
    have s03 : Same h h3 (fun _ => False) := (s1.trans s2 (fun _ _ x => x)).trans s3 (fun _ _ x => x)
    have k1 : h3.blks.get h.next = some ⟨[.pointer (some ⟨bm, 0, none⟩)], 1, 1, true, false⟩ := by rw [s3.get h.next (by omega) (fun x => x), s2.get h.next (by omega) (fun x => x)]; exact g1
    have k2 : h3.blks.get (h.next + 1) = some ⟨[yv], 1, 1, true, false⟩ := by rw [s3.get (h.next + 1) (by omega) (fun x => x), ← x1]; exact g2
    have k3 : h3.blks.get (h.next + 2) = some ⟨[.bool false], 1, 1, true, false⟩ := by rw [show h.next + 2 = h2.next by omega]; exact g3
    have r1 : h3.rd h.next 0 = some (.pointer (some ⟨bm, 0, none⟩)) := rd_of k1
    obtain ⟨_, h3, F107, rfl, rfl⟩ := inside_spec hT V H V5 h3 (.pointer (some ⟨bm, 0, none⟩)) a 1 q1 (by omega) (by omega) (by omega)
    obtain ⟨_, h3, F91, rfl, rfl⟩ := refat_spec hT V H h3 a 1 q1 (by omega) (by omega) (by omega)
    obtain ⟨_, h3, F108, rfl, rfl⟩ := kind_spec hT V H h3 a 1 q1 (by omega) (by omega) (by omega)
    have c1n : ((1 : Int) == 2) = false := rfl
    have c1m : ((1 : Int) == 3) = false := rfl
    rw [show h.next + 2 = h2.next by omega] at k3
    have w6 : h3.wrs h2.next 0 [.bool true] = some (h3.setB h2.next ⟨[.bool true], 1, 1, true, false⟩) := wrs1_of k3 rfl (by simp) rfl
    have s6 : Same h3 (h3.setB h2.next ⟨[.bool true], 1, 1, true, false⟩) (fun j => j = h2.next) := Same.setB rfl
    have g7 : (h3.setB h2.next ⟨[.bool true], 1, 1, true, false⟩).blks.get h2.next = some ⟨[.bool true], 1, 1, true, false⟩ := by rw [setB_get, if_pos rfl]
    generalize h3.setB h2.next ⟨[.bool true], 1, 1, true, false⟩ = Z at w6 s6 g7
    have r6 : Z.rd h2.next 0 = some (.bool true) := rd_of g7
    rw [ew]
    simp only [af75, cwf_seq, cwf_ops, andThen_normal, owf_nil, o_p, o_r, o_e, owf_call, behind_eq, bo_eq, optQ_some, opt2_some, pop, popQ, rop_load1, ldV_ptr, ev, evs, putA, putArgs, look_put, eop_box, List.length_cons, List.length_nil, Int.cast_ofNat_Int, scalar_ptr, ite_true, ite_false, Nat.reduceEqDiff, Nat.reduceAdd, Nat.zero_add, eop_alloc, box1, hh1, hys, hh2, List.length_cons, List.length_nil, hh3, r1]
    refine ⟨_, _, F107, ?_⟩
    simp only [cwf_seq, cwf_ops, andThen_normal, owf_nil, o_p, owf_call, behind_eq, bo_eq, optQ_some, pop, popQ, ev, evs, putA, look_put, Int.cast_ofNat_Int, ite_true, ite_false, Nat.reduceEqDiff]
    refine ⟨_, _, F91, ?_⟩
    simp only [cwf_seq, cwf_ops, andThen_normal, owf_nil, o_p, owf_call, behind_eq, bo_eq, optQ_some, pop, popQ, ev, evs, putA, look_put, ite_true, ite_false, Nat.reduceEqDiff]
    refine ⟨_, _, F108, ?_⟩
    simp only [cwf_seq, cwf_ops, cwf_ret, c_false, cwf_skip, cwf_block, andThen_normal, blockQ_normal, fnQ_ret, owf_nil, o_p, o_e, behind_eq, bo_eq, optQ_some, opt2_some, pop, popQ, ev, putA, look_put, isB_false, abinF_eq, abin, resAll, resA, mkRes1, eop_store1, st1, Int.cast_ofNat_Int, scalar_bool, decide_true, cond_true, ite_true, ite_false, Bool.not_false, Nat.reduceEqDiff, Option.some.injEq, exists_eq_left', true_and, c1n, c1m, w6, r6]
    have sf : Same h Z (fun j => j = h2.next) := (s03.mono (T := fun j => j = h2.next) (fun _ x => x.elim)).trans s6 (fun _ _ x => x)
    have sf' : Same h Z (fun _ => False) := s03.trans s6 (fun j hj e => by omega)
    rw [tail_marks h Z sf.marks]
    have e0 : acc ++ (Tr.empty a).content = acc := List.append_nil _
    rw [e0]
    exact ⟨⟨F, cl.frame _ _ _ _ _ iv sf'.toB (fun _ _ x => x), fun j hj => .inl hj⟩, sf'.mono (fun _ x => x.elim)⟩
  | l a k v =>
    intro h acc F iv m hok hacc
    refine fspec_cwf hT V5.v75 rfl ?_
    obtain ⟨q1, q2, q3, q4⟩ := hok
    have hbm := m.lt
    have huml := fun y hy => (m.use y hy).2.2.1
    have hFl := cl.lt acc F h iv
    have hFm := cl.mem acc F h iv
    have ew : (Tr.leaf a k v).word = (a : Int) * 8 + ((2 : Nat) : Int) := rfl
    have hys := isFunc_scalar cl.fn
    -- what is its own
    have s1 : Same h (h.new ⟨[.pointer (some ⟨bm, 0, none⟩)], 1, 1, true, false⟩) (fun _ => False) := Same.new
    have g1 : (h.new ⟨[.pointer (some ⟨bm, 0, none⟩)], 1, 1, true, false⟩).blks.get h.next = some ⟨[.pointer (some ⟨bm, 0, none⟩)], 1, 1, true, false⟩ := by rw [new_get, if_pos rfl]
    have x1 : (h.new ⟨[.pointer (some ⟨bm, 0, none⟩)], 1, 1, true, false⟩).next = h.next + 1 := rfl
    generalize hh1 : h.new ⟨[.pointer (some ⟨bm, 0, none⟩)], 1, 1, true, false⟩ = h1 at s1 g1 x1
    have s2 : Same h1 (h1.new ⟨[yv], 1, 1, true, false⟩) (fun _ => False) := Same.new
    have g2 : (h1.new ⟨[yv], 1, 1, true, false⟩).blks.get h1.next = some ⟨[yv], 1, 1, true, false⟩ := by rw [new_get, if_pos rfl]
    have x2 : (h1.new ⟨[yv], 1, 1, true, false⟩).next = h1.next + 1 := rfl
    generalize hh2 : h1.new ⟨[yv], 1, 1, true, false⟩ = h2 at s2 g2 x2
    have s3 : Same h2 (h2.new ⟨[.bool false], 1, 1, true, false⟩) (fun _ => False) := Same.new
    have g3 : (h2.new ⟨[.bool false], 1, 1, true, false⟩).blks.get h2.next = some ⟨[.bool false], 1, 1, true, false⟩ := by rw [new_get, if_pos rfl]
    have x3 : (h2.new ⟨[.bool false], 1, 1, true, false⟩).next = h2.next + 1 := rfl
    generalize hh3 : h2.new ⟨[.bool false], 1, 1, true, false⟩ = h3 at s3 g3 x3
    have s03 : Same h h3 (fun _ => False) := (s1.trans s2 (fun _ _ x => x)).trans s3 (fun _ _ x => x)
    have k1 : h3.blks.get h.next = some ⟨[.pointer (some ⟨bm, 0, none⟩)], 1, 1, true, false⟩ := by rw [s3.get h.next (by omega) (fun x => x), s2.get h.next (by omega) (fun x => x)]; exact g1
    have k2 : h3.blks.get (h.next + 1) = some ⟨[yv], 1, 1, true, false⟩ := by rw [s3.get (h.next + 1) (by omega) (fun x => x), ← x1]; exact g2
    have k3 : h3.blks.get (h.next + 2) = some ⟨[.bool false], 1, 1, true, false⟩ := by rw [show h.next + 2 = h2.next by omega]; exact g3
    have r1 : h3.rd h.next 0 = some (.pointer (some ⟨bm, 0, none⟩)) := rd_of k1
    have r2 : h3.rd h1.next 0 = some yv := by rw [x1, rd_of k2]; rfl
    obtain ⟨_, h3, F107, rfl, rfl⟩ := inside_spec hT V H V5 h3 (.pointer (some ⟨bm, 0, none⟩)) a 2 q1 (by omega) (by omega) (by omega)
    obtain ⟨_, h3, F91, rfl, rfl⟩ := refat_spec hT V H h3 a 2 q1 (by omega) (by omega) (by omega)
    obtain ⟨_, h3, F108, rfl, rfl⟩ := kind_spec hT V H h3 a 2 q1 (by omega) (by omega) (by omega)
    have m3 := m.same s03 (fun x => x) (fun _ _ x => x)
    have Fk : Fact P 58 [.pointer (some ⟨bm, 0, none⟩), I a] h3 (I k) h3 := by
      obtain ⟨_, _, F, e, rfl⟩ := at_spec hT V m3 a (by omega)
      rw [q3] at e; subst e; exact F
    have Fv : Fact P 58 [.pointer (some ⟨bm, 0, none⟩), I ((a + 1 : Nat) : Int)] h3 (I v) h3 := by
      obtain ⟨_, _, F, e, rfl⟩ := at_spec hT V m3 (a + 1) (by omega)
      rw [q4] at e; subst e; exact F
    have iv3 : Iv acc F h3 := cl.frame _ _ _ _ _ iv s03.toB (fun _ _ x => x)
    obtain ⟨vy, h4, CF, hcf, gv, rfl, F', iv4, s4, hF'⟩ := callV_cf (cl.call acc F h3 (k, v) hacc iv3 m3)
    have x4 := s4.next
    have nF : ∀ j, h.next ≤ j → ¬ F j := fun j hj hf => by have := hFl j hf; omega
    have c2y : ((2 : Int) == 2) = true := rfl
    have wz : wrapF .i64 ((a : Int) + 0) = (a : Int) := by rw [wrapI] <;> omega
    have wa : wrapF .i64 ((a : Int) + 1) = ((a + 1 : Nat) : Int) := by rw [wrapI] <;> omega
    rw [show h.next + 2 = h2.next by omega] at k3
    have k4 : h4.blks.get h2.next = some ⟨[.bool false], 1, 1, true, false⟩ := by rw [s4.get h2.next (by omega) (nF _ (by omega))]; exact k3
    have w6 : h4.wrs h2.next 0 [.bool true] = some (h4.setB h2.next ⟨[.bool true], 1, 1, true, false⟩) := wrs1_of k4 rfl (by simp) rfl
    have s6 : Same h4 (h4.setB h2.next ⟨[.bool true], 1, 1, true, false⟩) (fun j => j = h2.next) := Same.setB rfl
    have g7 : (h4.setB h2.next ⟨[.bool true], 1, 1, true, false⟩).blks.get h2.next = some ⟨[.bool true], 1, 1, true, false⟩ := by rw [setB_get, if_pos rfl]
    generalize h4.setB h2.next ⟨[.bool true], 1, 1, true, false⟩ = Z at w6 s6 g7
    have x6 := s6.next
    have r6 : Z.rd h2.next 0 = some (.bool true) := rd_of g7
    obtain ⟨CG, hcg, gk, gvv, gy⟩ : ∃ CG : CallF, CfOk P CG ∧ CG (.fn 58) [.pointer (some ⟨bm, 0, none⟩), I a] h3 = some (I k, h3) ∧ CG (.fn 58) [.pointer (some ⟨bm, 0, none⟩), I ((a + 1 : Nat) : Int)] h3 = some (I v, h3) ∧ callW CG yv [I k, I v] h3 = some (.bool true, h4) := by
      refine ⟨cfOf 58 _ h3 _ h3 (cfOf 58 _ h3 _ h3 CF), cfOf_ok Fk (cfOf_ok Fv hcf), cfOf_eq, ?_, by rw [callW_cfOf cl.y58, callW_cfOf cl.y58]; exact gv⟩
      unfold cfOf
      rw [if_neg (by
        rintro ⟨_, e, _⟩
        simp only [List.cons.injEq, Value.int.injEq, true_and, and_true] at e
        omega), if_pos ⟨rfl, rfl, rfl⟩]
    rw [ew]
    simp only [af75, cwf_seq, cwf_ops, andThen_normal, owf_nil, o_p, o_r, o_e, owf_call, behind_eq, bo_eq, optQ_some, opt2_some, pop, popQ, rop_load1, ldV_ptr, ev, evs, putA, putArgs, look_put, eop_box, List.length_cons, List.length_nil, Int.cast_ofNat_Int, scalar_ptr, ite_true, ite_false, Nat.reduceEqDiff, Nat.reduceAdd, Nat.zero_add, eop_alloc, box1, hh1, hys, hh2, List.length_cons, List.length_nil, hh3, r1]
    refine ⟨_, _, F107, ?_⟩
    simp only [cwf_seq, cwf_ops, andThen_normal, owf_nil, o_p, owf_call, behind_eq, bo_eq, optQ_some, pop, popQ, ev, evs, putA, look_put, Int.cast_ofNat_Int, ite_true, ite_false, Nat.reduceEqDiff]
    refine ⟨_, _, F91, ?_⟩
    simp only [cwf_seq, cwf_ops, andThen_normal, owf_nil, o_p, owf_call, behind_eq, bo_eq, optQ_some, pop, popQ, ev, evs, putA, look_put, ite_true, ite_false, Nat.reduceEqDiff]
    refine ⟨_, _, F108, ?_⟩
    simp only [cwf_seq, cwf_ops, c_true, cwf_block, andThen_normal, owf_nil, o_p, behind_eq, bo_eq, optQ_some, pop, popQ, ev, putA, look_put, isB_true, abinF_eq, abin, Int.cast_ofNat_Int, decide_true, cond_true, ite_true, ite_false, Nat.reduceEqDiff, c2y]
    let Jw : Nat → Heap → Prop := fun i q => i ≤ 2 → q.rd h1.next 0 = some yv ∧ q.rd h.next 0 = some (.pointer (some ⟨bm, 0, none⟩))
    have w0 : Jw 0 h3 := fun _ => ⟨r2, r1⟩
    have w1 : Jw (0 + 1) h3 := fun _ => ⟨r2, r1⟩
    have w2 : Jw (0 + 1 + 1) h3 := fun _ => ⟨r2, r1⟩
    have w3 : Jw (0 + 1 + 1 + 1) h4 := fun h => by omega
    have w4 : Jw (0 + 1 + 1 + 1 + 1) Z := fun h => by omega
    have l1 : ∀ j q, 0 ≤ j → j ≤ 2 → Jw j q → q.rd h1.next 0 = some yv := fun j q _ hj x => (x hj).1
    have l2 : ∀ j q, 0 ≤ j → j ≤ 0 → Jw j q → q.rd h.next 0 = some (.pointer (some ⟨bm, 0, none⟩)) := fun j q _ hj x => (x (by omega)).2
    have l3 : ∀ j q, 0 ≤ j → j ≤ 1 → Jw j q → q.rd h.next 0 = some (.pointer (some ⟨bm, 0, none⟩)) := fun j q _ hj x => (x (by omega)).2
    have vp : veq (.pointer (some ⟨bm, 0, none⟩)) (.pointer (some ⟨bm, 0, none⟩)) = true := by simp [veq, veq1]
    clear_value Jw
    refine cwf_win Jw CG hcg w0 ?_
    simp only [optQ_some, opt2_some, pop, popQ, rop_load1, ldV_ptr, ev, evs, putA, look_put, abinF_eq, abin, decide_true, cond_true, ite_true, ite_false, Nat.reduceEqDiff, Nat.reduceAdd, Nat.zero_add, true_and, w_p, w_r, w_call, bw_eq, bwr_eq, bw2_eq, r1, r2, vp, wz, gk]
    refine ⟨l1, cl.veq, l2, w1, l3, ?_⟩
    simp only [opt2_some, ev, evs, putA, look_put, ite_true, ite_false, Nat.reduceEqDiff, Nat.reduceAdd, w_callv, bw2_eq, wa, gvv]
    refine ⟨w2, ?_⟩
    simp only [opt2_some, ev, putA, look_put, eop_store1, st1, scalar_bool, ite_true, ite_false, Nat.reduceEqDiff, Nat.reduceAdd, w_e, bw2_eq, gy]
    refine ⟨w3, ?_⟩
    simp only [cwf_ret, andThen_normal, andThen_ret, blockQ_ret, fnQ_ret, opt2_some, putA, look_put, resAll, resA, ite_true, ite_false, Nat.reduceEqDiff, w_nil, bw2_eq, w6]
    refine ⟨w4, ?_⟩
    simp only [mkRes1, Option.some.injEq, exists_eq_left', true_and, r6]
    have sf : Same h Z F := ((s03.mono (T := F) (fun _ x => x.elim)).trans s4 (fun _ _ x => x)).trans s6 (fun j hj e => by omega)
    rw [tail_marks h Z sf.marks]
    refine ⟨⟨F', ?_, fun j hj => (hF' j hj).imp_right (fun e => by omega)⟩, sf⟩
    exact cl.frame _ _ _ _ _ iv4 s6.toB (fun j hj e => (hF' j hj).elim (nF j (by omega)) (fun e2 => by omega))
  | i a sz sh ch sm ks cs ih =>
    intro h acc F iv m hok hacc
    refine fspec_cwf hT V5.v75 rfl ?_
    obtain ⟨⟨q1, q2, q3, q4⟩, ⟨p0, p1, p2, p3, p4⟩, hsh, hsz, hks, hcs, hoks⟩ := hok
    have hbm := m.lt
    have huml := fun y hy => (m.use y hy).2.2.1
    have hFl := cl.lt acc F h iv
    have hFm := cl.mem acc F h iv
    have ew : (Tr.inner a sz sh ch sm ks cs).word = (a : Int) * 8 + ((3 : Nat) : Int) := rfl
    have hys := isFunc_scalar cl.fn
    -- what is its own
    have s1 : Same h (h.new ⟨[.pointer (some ⟨bm, 0, none⟩)], 1, 1, true, false⟩) (fun _ => False) := Same.new
    have g1 : (h.new ⟨[.pointer (some ⟨bm, 0, none⟩)], 1, 1, true, false⟩).blks.get h.next = some ⟨[.pointer (some ⟨bm, 0, none⟩)], 1, 1, true, false⟩ := by rw [new_get, if_pos rfl]
    have x1 : (h.new ⟨[.pointer (some ⟨bm, 0, none⟩)], 1, 1, true, false⟩).next = h.next + 1 := rfl
    generalize hh1 : h.new ⟨[.pointer (some ⟨bm, 0, none⟩)], 1, 1, true, false⟩ = h1 at s1 g1 x1
    have s2 : Same h1 (h1.new ⟨[yv], 1, 1, true, false⟩) (fun _ => False) := Same.new
    have g2 : (h1.new ⟨[yv], 1, 1, true, false⟩).blks.get h1.next = some ⟨[yv], 1, 1, true, false⟩ := by rw [new_get, if_pos rfl]
    have x2 : (h1.new ⟨[yv], 1, 1, true, false⟩).next = h1.next + 1 := rfl
    generalize hh2 : h1.new ⟨[yv], 1, 1, true, false⟩ = h2 at s2 g2 x2
    have s3 : Same h2 (h2.new ⟨[.bool false], 1, 1, true, false⟩) (fun _ => False) := Same.new
    have g3 : (h2.new ⟨[.bool false], 1, 1, true, false⟩).blks.get h2.next = some ⟨[.bool false], 1, 1, true, false⟩ := by rw [new_get, if_pos rfl]
    have x3 : (h2.new ⟨[.bool false], 1, 1, true, false⟩).next = h2.next + 1 := rfl
    generalize hh3 : h2.new ⟨[.bool false], 1, 1, true, false⟩ = h3 at s3 g3 x3
    have s03 : Same h h3 (fun _ => False) := (s1.trans s2 (fun _ _ x => x)).trans s3 (fun _ _ x => x)
    have k1 : h3.blks.get h.next = some ⟨[.pointer (some ⟨bm, 0, none⟩)], 1, 1, true, false⟩ := by rw [s3.get h.next (by omega) (fun x => x), s2.get h.next (by omega) (fun x => x)]; exact g1
    have k2 : h3.blks.get (h.next + 1) = some ⟨[yv], 1, 1, true, false⟩ := by rw [s3.get (h.next + 1) (by omega) (fun x => x), ← x1]; exact g2
    have k3 : h3.blks.get (h.next + 2) = some ⟨[.bool false], 1, 1, true, false⟩ := by rw [show h.next + 2 = h2.next by omega]; exact g3
    have r1 : h3.rd h.next 0 = some (.pointer (some ⟨bm, 0, none⟩)) := rd_of k1
    obtain ⟨_, h3, F107, rfl, rfl⟩ := inside_spec hT V H V5 h3 (.pointer (some ⟨bm, 0, none⟩)) a 3 q1 (by omega) (by omega) (by omega)
    obtain ⟨_, h3, F91, rfl, rfl⟩ := refat_spec hT V H h3 a 3 q1 (by omega) (by omega) (by omega)
    obtain ⟨_, h3, F108, rfl, rfl⟩ := kind_spec hT V H h3 a 3 q1 (by omega) (by omega) (by omega)
    obtain ⟨_, h4, F109, rfl, c1, c2, x4, s4⟩ := children_spec hT V5 h3 (some ⟨bm, 0, none⟩) a
    have c3n : ((3 : Int) == 2) = false := rfl
    have c3y : ((3 : Int) == 3) = true := rfl
    rw [ew]
    simp only [af75, cwf_seq, cwf_ops, andThen_normal, owf_nil, o_p, o_r, o_e, owf_call, behind_eq, bo_eq, optQ_some, opt2_some, pop, popQ, rop_load1, ldV_ptr, ev, evs, putA, putArgs, look_put, eop_box, List.length_cons, List.length_nil, Int.cast_ofNat_Int, scalar_ptr, ite_true, ite_false, Nat.reduceEqDiff, Nat.reduceAdd, Nat.zero_add, eop_alloc, box1, hh1, hys, hh2, List.length_cons, List.length_nil, hh3, r1]
    refine ⟨_, _, F107, ?_⟩
    simp only [cwf_seq, cwf_ops, andThen_normal, owf_nil, o_p, owf_call, behind_eq, bo_eq, optQ_some, pop, popQ, ev, evs, putA, look_put, Int.cast_ofNat_Int, ite_true, ite_false, Nat.reduceEqDiff]
    refine ⟨_, _, F91, ?_⟩
    simp only [cwf_seq, cwf_ops, andThen_normal, owf_nil, o_p, owf_call, behind_eq, bo_eq, optQ_some, pop, popQ, ev, evs, putA, look_put, ite_true, ite_false, Nat.reduceEqDiff]
    refine ⟨_, _, F108, ?_⟩
    simp only [cwf_seq, cwf_ops, c_true, c_false, cwf_block, andThen_normal, owf_nil, o_p, o_r, owf_call, behind_eq, bo_eq, optQ_some, pop, popQ, rop_load1, ldV_ptr, ev, evs, putA, look_put, isB_true, isB_false, abinF_eq, abin, Int.cast_ofNat_Int, decide_true, cond_true, ite_true, ite_false, Bool.not_false, Nat.reduceEqDiff, c3n, c3y, r1]
    refine ⟨_, _, F109, ?_⟩
    simp only [cwf_block, andThen_normal, owf_nil, behind_eq, putA, cwf_range]
    refine cw_gen (fun t => look t 3 = .pointer (some ⟨h.next, 0, none⟩) ∧ look t 5 = .pointer (some ⟨h1.next, 0, none⟩) ∧ look t 6 = .pointer (some ⟨h2.next, 0, none⟩) ∧ look t 33 = .func (.func 125) #[] #[.pointer (some ⟨h3.next, 0, none⟩), .pointer (some ⟨h3.next + 1, 0, none⟩)]) ⟨by simp only [look_put, ite_true, ite_false, Nat.reduceEqDiff], by simp only [look_put, ite_true, ite_false, Nat.reduceEqDiff], by simp only [look_put, ite_true, ite_false, Nat.reduceEqDiff], by simp only [look_put, ite_true, ite_false, Nat.reduceEqDiff]⟩ ?_
    rintro tsX ⟨t3, t5, t6, t33⟩
    refine cw_range' t33 (fun k kts kn kps kasg kbody kst kpd => ?_)
    have s4E : SameB h3 (h4.enter k) (fun _ => False) := s4.toB.trans (sameB_enter h4 k) (fun _ _ x => x)
    have xE : (h4.enter k).next = h4.next + 2 := rfl
    have lE : (h4.enter k).loops.get (h4.next + 1) = some k := by rw [enter_loops, if_pos rfl]
    have s0E : SameB h (h4.enter k) (fun _ => False) := s03.toB.trans s4E (fun _ _ x => x)
    have bE : ∀ j, (h4.enter k).blks.get j = h4.blks.get j := fun j => rfl
    have p1 : (h4.enter k).rd h.next 0 = some (.pointer (some ⟨bm, 0, none⟩)) := by
      rw [rd_of (by rw [bE, s4.get h.next (by omega) (fun x => x)]; exact k1)]; rfl
    have p2' : (h4.enter k).blks.get h1.next = some ⟨[yv], 1, 1, true, false⟩ := by rw [bE, s4.get h1.next (by omega) (fun x => x), x1]; exact k2
    have p3' : (h4.enter k).blks.get h2.next = some ⟨[.bool false], 1, 1, true, false⟩ := by rw [bE, s4.get h2.next (by omega) (fun x => x), show h2.next = h.next + 2 by omega]; exact k3
    have e1 : (h4.enter k).rd h3.next 0 = some (.pointer (some ⟨bm, 0, none⟩)) := c1
    have e2 : (h4.enter k).rd (h3.next + 1) 0 = some (I a) := c2
    generalize hE : h4.enter k = E at s4E xE lE s0E p1 p2' p3' e1 e2
    have mE : MemAt E bm um C z c o r := m.sameB s0E (fun x => x) (fun _ _ x => x)
    have nF : ∀ j, h.next ≤ j → ¬ F j := fun j hj hf => by have := hFl j hf; omega
    have rdk : ∀ (q : Heap) (b : Nat) (v : Value), Same E q F → h.next ≤ b → b < E.next → E.rd b 0 = some v → q.rd b 0 = some v := by
      intro q b v s hb hb2 hv
      unfold Heap.rd at hv ⊢
      rw [s.get b hb2 (nF b hb)]; exact hv
    have memk : ∀ q, Same E q F → MemAt q bm um C z c o r := fun q s => mE.same s (fun e => (hFm bm e).1 rfl) (fun y hy e => (hFm y e).2 hy)
    obtain ⟨vv, hX, FX, F', iv', hF', sX⟩ := children1_spec hT V H V5 (yv := .func (.yield (h4.next + 1)) #[] #[]) (bm := bm) (um := um) (C := C) (z := z) (c := c) (o := o) (r := r) (a := a) (d := cs.length) (pm := h3.next) (pa := h3.next + 1) (cs := cs) rfl hC (by omega) p0 hcs hoks (fun f fs cs e => by cases e) (fun f fs cs e => by cases e)
      (fun i q => ∃ F', Iv (acc ++ contents (cs.take i)) F' q ∧ (∀ j, F' j → F j ∨ E.next ≤ j) ∧ Same E q F)
      (fun i q ⟨F', _, _, s⟩ => ⟨memk q s, rdk q _ _ s (by omega) (by omega) e1, rdk q _ _ s (by omega) (by omega) e2⟩)
      (fun i q q' ⟨F', i1, i2, s⟩ s' => ⟨F', cl.frame _ _ _ _ _ i1 s'.toB (fun _ _ x => x), i2, s.trans s' (fun _ _ x => x.elim)⟩)
      (fun i q q' ⟨_, _, _, s⟩ ⟨_, _, _, s'⟩ => by rw [s'.marks, s.marks])
      (fun i hi q ⟨F', i1, i2, s⟩ => by
        rw [callV_y]
        have lq : q.loops.get (h4.next + 1) = some k := by rw [s.loops _ (by omega) (nF _ (by omega))]; exact lE
        have nF' : ¬ F' (h4.next + 1) := fun e => (i2 _ e).elim (nF _ (by omega)) (fun e => by omega)
        refine yspec_round lq kts kn kps kasg kbody kst kpd rfl rfl (fun q1 hq1 => ?_)
        have b1 : SameB q (q.setL (h4.next + 1) { k with st := 1 } q.marks) (fun j => j = h4.next + 1) := sameB_setL _ _ _ _
        have l1 : (q.setL (h4.next + 1) { k with st := 1 } q.marks).loops.get (h4.next + 1) = some { k with st := 1 } := by rw [setL_loops, if_pos rfl]
        have x1q : (q.setL (h4.next + 1) { k with st := 1 } q.marks).next = q.next := rfl
        have m1q : (q.setL (h4.next + 1) { k with st := 1 } q.marks).marks = q.marks := rfl
        have bl1 : ∀ j, (q.setL (h4.next + 1) { k with st := 1 } q.marks).blks.get j = q.blks.get j := fun j => rfl
        rw [← hq1] at b1 l1 x1q m1q bl1
        simp only [cwf_seq, cwf_ops, cwf_block, owf_nil, o_p, o_r, bo_eq, optQ_some, pop, popQ, rop_load1, ldV_ptr, ev, putA, look_put, ite_true, ite_false, Nat.reduceEqDiff, true_and, putPs_nil, putPs_cons, t3]
        have xs := s.next
        have hcur : ∀ (b : Nat) (v : Value), h.next ≤ b → b < E.next → E.rd b 0 = some v → q1.rd b 0 = some v := by
          intro b v hb hb2 hv
          unfold Heap.rd at hv ⊢
          rw [bl1, s.get b hb2 (nF b hb)]; exact hv
        have u1 := hcur h.next _ (Nat.le_refl _) (by omega) p1
        have u2 : q1.rd h1.next 0 = some yv := hcur h1.next yv (by omega) (by omega) (by rw [rd_of p2']; rfl)
        have iv1 : Iv (acc ++ contents (cs.take i)) F' q1 := cl.frame _ _ _ _ _ i1 b1 (fun j hj e => nF' (e ▸ hj))
        have mq1 : MemAt q1 bm um C z c o r := (memk q s).sameB b1 (fun e => by have := mE.lt; omega) (fun y hy e => by have := huml y hy; omega)
        obtain ⟨_, q2, F2, rfl, ⟨F'', iv2, hF2⟩, s2q⟩ := ih cs[i] (List.getElem_mem _) q1 _ F' iv1 mq1 (oks_mem hoks i hi) (by
          refine cl.pre _ (contents (cs.drop (i + 1))) ?_
          have e2 : contents (cs.take i) ++ (cs[i].content ++ contents (cs.drop (i + 1))) = contents cs := by
            have e3 : cs = cs.take i ++ (cs[i] :: cs.drop (i + 1)) := by simp
            have e4 : contents cs = contents (cs.take i ++ (cs[i] :: cs.drop (i + 1))) := by rw [← e3]
            rw [e4, contents_app]; rfl
          rw [List.append_assoc, List.append_assoc, e2]
          exact hacc)
        have x2q := s2q.next
        simp only [o_p, o_r, owf_call, bo_eq, optQ_some, pop, popQ, rop_load1, ldV_ptr, ev, evs, putA, look_put, ite_true, ite_false, Nat.reduceEqDiff, u1, u2, t5]
        refine ⟨_, _, F2, ?_⟩
        simp only [c_false, cwf_skip, andThen_normal, blockQ_normal, owf_nil, o_p, behind_eq, bo_eq, optQ_some, pop, popQ, ev, putA, look_put, isB_false, ite_true, ite_false, Bool.not_true, Bool.not_false, Nat.reduceEqDiff, true_and]
        have l2 : q2.loops.get (h4.next + 1) = some { k with st := 1 } := by rw [s2q.loops _ (by omega) nF']; exact l1
        refine ⟨l2, F'', ?_, fun j hj => ?_, ?_⟩
        · rw [take_one cs hi, contents_app, ← List.append_assoc]
          have e : contents [cs[i]] = cs[i].content := by simp [contents]
          rw [e]
          exact cl.frame _ _ _ _ _ iv2 (sameB_setL _ _ _ _) (fun j hj e => (hF2 j hj).elim (fun e2 => nF' (e ▸ e2)) (fun e2 => by omega))
        · rcases hF2 j hj with e | e
          · exact i2 j e
          · exact .inr (by omega)
        · refine SameB.of ?_ ?_
          · refine SameB.less (b := h4.next + 1) (((s.toB.mono (T := fun j => F j ∨ j = h4.next + 1) (fun j e => .inl e)).trans b1 (fun j hj e => .inr e)).trans s2q.toB (fun j hj e => (i2 j e).elim .inl (fun e => by omega)) |>.trans (sameB_setL q2 (h4.next + 1) k q.marks) (fun j hj e => .inr e)) ?_ ?_
            · rw [setL_loops, if_pos rfl]; exact lE.symm
            · show q2.blks.get _ = _
              rw [s2q.get _ (by omega) nF', bl1, s.get _ (by omega) (nF _ (by omega))]
          · rw [setL_marks, s.marks]) (h := E) ⟨F, cl.frame _ _ _ _ _ (by simpa [contents] using iv) s0E (fun _ _ x => x), fun j hj => .inl hj, Same.refl _ _⟩
    rw [List.take_length] at iv'
    have lX : hX.loops.get (h4.next + 1) = some k := by rw [sX.loops _ (by omega) (nF _ (by omega))]; exact lE
    refine ⟨vv, hX, FX, lX, ?_⟩
    have xX := sX.next
    have bX : SameB hX (hX.setL (h4.next + 1) { k with st := 3 } hX.marks) (fun j => j = h4.next + 1) := sameB_setL _ _ _ _
    have blX : ∀ j, (hX.setL (h4.next + 1) { k with st := 3 } hX.marks).blks.get j = hX.blks.get j := fun j => rfl
    have xY : (hX.setL (h4.next + 1) { k with st := 3 } hX.marks).next = hX.next := rfl
    simp only [cwf_seq, cwf_ops, andThen_normal, blockQ_normal, o_e, ev, eop_store1, st1, scalar_bool]
    generalize hX.setL (h4.next + 1) { k with st := 3 } hX.marks = Y at bX blX xY
    have g6 : Y.blks.get h2.next = some ⟨[.bool false], 1, 1, true, false⟩ := by rw [blX, sX.get h2.next (by omega) (nF _ (by omega))]; exact p3'
    have w6 : Y.wrs h2.next 0 [.bool true] = some (Y.setB h2.next ⟨[.bool true], 1, 1, true, false⟩) := wrs1_of g6 rfl (by simp) rfl
    have s6 : Same Y (Y.setB h2.next ⟨[.bool true], 1, 1, true, false⟩) (fun j => j = h2.next) := Same.setB rfl
    have g7 : (Y.setB h2.next ⟨[.bool true], 1, 1, true, false⟩).blks.get h2.next = some ⟨[.bool true], 1, 1, true, false⟩ := by rw [setB_get, if_pos rfl]
    generalize Y.setB h2.next ⟨[.bool true], 1, 1, true, false⟩ = Z at w6 s6 g7
    have r6 : Z.rd h2.next 0 = some (.bool true) := rd_of g7
    simp only [cwf_ret, andThen_normal, fnQ_ret, owf_nil, behind_eq, opt2_some, putA, resAll, resA, mkRes1, Option.some.injEq, exists_eq_left', true_and, t6, w6, r6]
    have nF' : ∀ j, h.next ≤ j → j < E.next → ¬ F' j := fun j h1 h2 hf => (hF' j hf).elim (nF j h1) (fun e => by omega)
    have xZ := s6.next
    have sZ : SameB h Z F := (((s0E.mono (T := F) (fun _ x => x.elim)).trans sX.toB (fun _ _ x => x)).trans bX (fun j hj e => by omega)).trans s6.toB (fun j hj e => by omega)
    refine ⟨⟨F', ?_, fun j hj => (hF' j hj).imp_right (fun e => by omega)⟩, sZ.close⟩
    refine cl.frame _ _ _ _ _ iv' (((bX.mono (T := fun j => j = h4.next + 1 ∨ j = h2.next) (fun j e => .inl e)).trans s6.toB (fun j hj e => .inr e)).trans (⟨Nat.le_refl _, fun _ _ _ => rfl, fun _ _ _ => rfl⟩ : SameB Z { Z with marks := h.marks } (fun _ => False)) (fun _ _ x => x.elim)) (fun j hj e => ?_)
    rcases e with e | e
    · exact nF' j (by omega) (by omega) hj
    · exact nF' j (by omega) (by omega) hj
end
end
end Go.Proofs.Ytedldiimhbebdaa.Ai
