/- PlantWide, for all arguments. -/
import Derived.Test.YtedldiimhbebdaaVT
import Derived.Test.YtedldiimhbebdaaTabOk
import Derived.Test.YtedldiimhbebdaaVS
namespace Go.Proofs.Ytedldiimhbebdaa.Ai
open Go.Proofs.Ytedldiimhbebdaa
noncomputable section
set_option linter.unusedVariables false
open Go.RowKit
structure HasV13 (tab : Nat → Option AFunc) : Prop where
  v10 : tab 10 = some af10
  v44 : tab 44 = some af44
  v74 : tab 74 = some af74

theorem hasV13 : HasV13 tabT.get := ⟨by kernel_rfl, by kernel_rfl, by kernel_rfl⟩

section
variable {P : Program} {tab : Nat → Option AFunc} (hT : TabOk P tab) (V : HasV tab)
include hT

theorem leaves0_spec (V13 : HasV13 tab) (h : Heap) (p : Option Addr) : FSpec P 44 [.pointer p] h fun v h' => v = .func (.func 74) #[] #[.pointer (some ⟨h.next, 0, none⟩)] ∧ h'.rd h.next 0 = some (.pointer p) ∧ h'.next = h.next + 1 ∧ Same h h' (fun _ => False) := by
  refine fspec_cwf hT V13.v44 rfl ?_
  have s1 : Same h (h.new ⟨[.pointer p], 1, 1, true, false⟩) (fun _ => False) := Same.new
  have g1 : (h.new ⟨[.pointer p], 1, 1, true, false⟩).blks.get h.next = some ⟨[.pointer p], 1, 1, true, false⟩ := by rw [new_get, if_pos rfl]
  have x1 : (h.new ⟨[.pointer p], 1, 1, true, false⟩).next = h.next + 1 := rfl
  generalize hh1 : h.new ⟨[.pointer p], 1, 1, true, false⟩ = h1 at s1 g1 x1
  simp only [af44, cwf_seq, cwf_ops, cwf_ret, andThen_normal, fnQ_ret, owf_nil, o_p, o_e, behind_eq, bo_eq, optQ_some, opt2_some, pop, popQ, ev, evs, putA, putArgs, look_put, resAll, resA, mkRes1, eop_box, scalar_ptr, ite_true, ite_false, Nat.reduceEqDiff, Option.some.injEq, exists_eq_left', true_and, box1, hh1]
  rw [tail_marks h h1 s1.marks]
  exact ⟨rd_of g1, x1, s1⟩

include V

theorem leaves74_spec (H : Has tab) (V2 : HasV2 tab) (V3 : HasV3 tab) (V4 : HasV4 tab) (V5 : HasV5 tab) (V13 : HasV13 tab) {Ok : List Pr → Prop} {bm : Nat} {um : Option Nat} {C : List Int} {z c o r : Int} {yv : Value} {Iv : List Pr → (Nat → Prop) → Heap → Prop} (cl : ClientO Ok P bm um C z c o r yv Iv) {t : Tr} {h : Heap} {acc : List Pr} {F : Nat → Prop} {bx : Nat} (iv : Iv acc F h) (m : MemAt h bm um C z c o r) (R : Rooted C t) (hb : h.rd bx 0 = some (.pointer (some ⟨bm, 0, none⟩))) (hlt : bx < h.next) (hacc : Ok (acc ++ t.content)) :
    FSpec P 74 [yv, .pointer (some ⟨bx, 0, none⟩)] h fun _ h' => (∃ F', Iv (acc ++ t.content) F' h' ∧ ∀ j, F' j → F j ∨ h.next ≤ j) ∧ Same h h' F := by
  refine fspec_cwf hT V13.v74 rfl ?_
  obtain ⟨_, h1, F1, rfl, s1⟩ := sound_spec hT V H V2 V3 V4 V5 m R
  have m1 := m.same s1 (fun x => x) (fun _ _ x => x)
  have x1 := s1.next
  have hb1 : h1.rd bx 0 = some (.pointer (some ⟨bm, 0, none⟩)) := by
    unfold Heap.rd at hb ⊢
    rw [s1.get bx hlt (fun x => x)]; exact hb
  obtain ⟨a, a1, a2, a3, ew⟩ := ok_word R.ok
  have hlen := R.len.2
  obtain ⟨_, h1, F2, rfl, rfl⟩ := logic_spec hT V H m1 6 (by omega) a1 (by omega) a3.1 (by omega) (R.root.trans ew)
  rw [← ew] at F2
  have iv1 := cl.frame _ _ _ _ _ iv s1.toB (fun _ _ x => x)
  obtain ⟨_, h2, F3, rfl, ⟨F', iv2, hF'⟩, s2⟩ := leavesO_spec hT V H V5 cl R.len.2 t h1 acc F iv1 m1 R.ok hacc
  have sf : Same h h2 F := (s1.mono (T := F) (fun _ x => x.elim)).trans s2 (fun _ _ x => x)
  obtain ⟨CG, hcg, g76, g75⟩ : ∃ CG : CallF, CfOk P CG ∧ CG (.fn 76) [.pointer (some ⟨bm, 0, none⟩), I 6] h1 = some (I t.word, h1) ∧ CG (.fn 75) [.pointer (some ⟨bm, 0, none⟩), I t.word, yv] h1 = some (.bool true, h2) :=
    ⟨cfOf 76 _ h1 _ h1 (cfOf 75 _ h1 _ h2 cf00), cfOf_ok F2 (cfOf_ok F3 cf00_ok), cfOf_eq, by rw [cfOf_ne (by decide)]; exact cfOf_eq⟩
  have hys := isFunc_scalar cl.fn
  have vp : veq (.pointer (some ⟨bm, 0, none⟩)) (.pointer (some ⟨bm, 0, none⟩)) = true := by simp [veq, veq1]
  have hend : ∀ (T : T Value) , (∃ F', Iv (acc ++ t.content) F' h2 ∧ ∀ j, F' j → F j ∨ h.next ≤ j) ∧ Same h h2 F := fun _ => ⟨⟨F', iv2, fun j hj => (hF' j hj).imp_right (fun e => by omega)⟩, sf⟩
  let Jw : Nat → Heap → Prop := fun i q => i ≤ 1 → q.rd bx 0 = some (.pointer (some ⟨bm, 0, none⟩))
  have w0 : Jw 0 h1 := fun _ => hb1
  have w1 : Jw (0 + 1) h1 := fun _ => hb1
  have w2 : Jw (0 + 1 + 1) h2 := fun h => by omega
  have l1 : ∀ j q, 0 ≤ j → j ≤ 1 → Jw j q → q.rd bx 0 = some (.pointer (some ⟨bm, 0, none⟩)) := fun j q _ hj x => x hj
  have l0 : ∀ j q, 0 ≤ j → j ≤ 0 → Jw j q → q.rd bx 0 = some (.pointer (some ⟨bm, 0, none⟩)) := fun j q _ hj x => x (by omega)
  clear_value Jw
  simp only [af74, cwf_seq, cwf_ops, o_r, owf_call, bo_eq, optQ_some, rop_load1, ldV_ptr, ev, evs, putA, putArgs, look_put, ite_true, ite_false, Nat.reduceEqDiff, Nat.zero_add, hb]
  refine ⟨_, _, F1, ?_⟩
  simp only [c_true, andThen_normal, owf_nil, behind_eq, ev, putA, look_put, isB_true, ite_true, ite_false, Nat.reduceEqDiff]
  refine cwf_win Jw CG hcg w0 ?_
  simp only [optQ_some, opt2_some, pop, popQ, rop_load1, ldV_ptr, ev, evs, putA, look_put, ite_true, ite_false, Nat.reduceEqDiff, Nat.reduceAdd, Nat.zero_add, true_and, w_p, w_r, w_call, bw_eq, bwr_eq, bw2_eq, hb1, vp, g76]
  refine ⟨l1, l0, w1, ?_⟩
  simp only [fnQ_normal, opt2_some, putA, resAll, Option.some.injEq, exists_eq_left', w_nil, bw2_eq, g75]
  refine ⟨w2, ?_⟩
  rw [tail_marks h h2 sf.marks]
  exact hend .nil

end
/-- a key's half -/
def half (k : Int) : Int := wrapF .i64 (k.tdiv 2)
def wideL (l : List Pr) : List Pr := l.map fun p => (p.1, half p.1)

theorem wide_len (l : List Pr) : (wideL l).length = l.length := by simp [wideL]
theorem wide_asc {l : List Pr} (h : Asc l) : Asc (wideL l) := by
  intro j hj
  have hj' : j + 1 < l.length := by rw [wide_len] at hj; exact hj
  simp only [wideL, List.getElem_map]
  exact h j hj'
theorem rooted_wide {L : List Int} {l : List Pr} {t : Tr} {w : Int} (S : LaidAt t w L l 7) (hl : l.length ≤ 120) (ha : Asc l) (hk : ∀ p ∈ l, -9223372036854775808 ≤ p.1 ∧ p.1 ≤ 9223372036854775807) (hL : L.length ≤ 60000) : Rooted ([1, 0, 0, 0, 0, w, 0] ++ L) t := by
  have hlen : ([1, 0, 0, 0, 0, w, 0] ++ L).length = 7 + L.length := by simp; omega
  refine ⟨⟨by omega, by omega⟩, ⟨rfl, rfl⟩, S.word.symm, S.ok _ ⟨by omega, fun j v hv => ?_⟩, fits_ord t l _ _ S.fits ha hk, free_of _ _ (fun i hi => ?_) S.nodup, fits_few t l S.fits hl⟩
  · unfold at0
    rw [if_neg (by omega), show 7 + 1 + j - 1 = 7 + j by omega, List.getElem?_append_right (by simp)]
    simp [hv]
  · have := S.adr i hi
    exact base0_get (by omega) (by omega)

section
variable {P : Program} {tab : Nat → Option AFunc} (hT : TabOk P tab) (V : HasV tab)
include hT V
theorem plantWide_spec (H : Has tab) (V2 : HasV2 tab) (V3 : HasV3 tab) (V4 : HasV4 tab) (V5 : HasV5 tab) (V6 : HasV6 tab) (V8 : HasV8 tab) (V9 : HasV9 tab) (V12 : HasV12 tab) (V13 : HasV13 tab) (Nu : Num P) (Kn : ∀ h, Fact P 22 [] h (.bool true) h)
    {h : Heap} {v : Value} {L : List Int} (a : IntsAt h v L) (hL : ∀ k ∈ L, -9223372036854775808 ≤ k ∧ k ≤ 9223372036854775807) :
    FSpec P 10 [v] h fun v h' => v = .bool true ∧ Same h h' (fun _ => False) := by
  refine fspec_cwf hT V13.v10 rfl ?_
  have s0 : Same h (h.new ⟨[.bool false], 1, 1, true, false⟩) (fun _ => False) := Same.new
  have g0 : (h.new ⟨[.bool false], 1, 1, true, false⟩).blks.get h.next = some ⟨[.bool false], 1, 1, true, false⟩ := by rw [new_get, if_pos rfl]
  have x0 : (h.new ⟨[.bool false], 1, 1, true, false⟩).next = h.next + 1 := rfl
  generalize hh0 : h.new ⟨[.bool false], 1, 1, true, false⟩ = h0 at s0 g0 x0
  have a0 : IntsAt h0 v L := by
    rcases a with a | ⟨x, p, cap, e, r⟩
    · exact .inl a
    · exact .inr ⟨x, p, cap, e, r.same s0 (fun x => x)⟩
  obtain ⟨_, h1, F1, ⟨l, u, rfl, o, hasc, hl, hu, hkeys⟩, s1⟩ := wide_spec hT H V12 a0
  have x1 := s1.next
  have s2 : Same h1 (h1.new ⟨[.slice none 0 0], 1, 1, true, false⟩) (fun _ => False) := Same.new
  have g2 : (h1.new ⟨[.slice none 0 0], 1, 1, true, false⟩).blks.get h1.next = some ⟨[.slice none 0 0], 1, 1, true, false⟩ := by rw [new_get, if_pos rfl]
  have x2 : (h1.new ⟨[.slice none 0 0], 1, 1, true, false⟩).next = h1.next + 1 := rfl
  generalize hh2 : h1.new ⟨[.slice none 0 0], 1, 1, true, false⟩ = h2 at s2 g2 x2
  have ol := fun y hy => (o.use y hy).2.1
  simp only [af10, cwf_seq, cwf_ops, andThen_normal, owf_nil, o_p, o_e, owf_call, behind_eq, bo_eq, optQ_some, opt2_some, pop, popQ, ev, evs, putA, putArgs, look_put, List.length_cons, List.length_nil, ite_true, ite_false, Nat.reduceEqDiff, Nat.zero_add, eop_alloc, List.length_cons, List.length_nil, hh0]
  refine ⟨_, _, F1, ?_⟩
  simp only [cwf_seq, cwf_ops, cwf_block, cwf_loop, andThen_normal, owf_nil, o_p, o_e, behind_eq, bo_eq, optQ_some, opt2_some, pop, popQ, ev, putA, look_put, List.length_cons, List.length_nil, ite_true, ite_false, Nat.reduceEqDiff, Nat.zero_add, eop_alloc, List.length_cons, List.length_nil, hh2]
  refine cw_loop (fun m ts h' => ∃ (j : Nat) (w : Option Nat), m = l.length - j ∧ j ≤ l.length ∧ look ts 2 = .pointer (some ⟨h.next, 0, none⟩) ∧ look ts 3 = ownSl u l.length ∧ look ts 4 = .pointer (some ⟨h1.next, 0, none⟩) ∧ look ts 5 = I j ∧ h'.blks.get h1.next = some ⟨[ownSl w j], 1, 1, true, false⟩ ∧ OwnAt h' w 2 j (flat (wideL (l.take j))) ∧ (∀ y, w = some y → h2.next ≤ y) ∧ Same h2 h' (fun j => j = h1.next)) ?_ (n := l.length) ⟨0, none, rfl, Nat.zero_le _, by simp only [look_put, ite_true, ite_false, Nat.reduceEqDiff], by simp only [look_put, ite_true, ite_false, Nat.reduceEqDiff], by simp only [look_put, ite_true, ite_false, Nat.reduceEqDiff], by simp only [look_put, Int.cast_ofNat_Int, ite_true, ite_false, Nat.reduceEqDiff] <;> rfl, g2, OwnAt.nil _ _, by simp, Same.refl _ _⟩
  rintro m ts h' ⟨j, w, rfl, j2, t2, t3, t4, t5, gw, ow, hw, sw⟩
  have xw := sw.next
  by_cases hj : j < l.length
  · obtain ⟨y, rfl⟩ : ∃ y, u = some y := by
      cases u with
      | none => have := o.non rfl; omega
      | some y => exact ⟨y, rfl⟩
    have hy := ol y rfl
    have cj : ((j : Int) < l.length) = True := by simp [hj]
    have wj : wrapF .i64 ((j : Int) + 1) = ((j + 1 : Nat) : Int) := by rw [wrapI] <;> omega
    have rd' : RdAt h' y 0 1 l.length l.length (l.map fun p => I p.1) := (o.rd.same s2 (fun x => x)).same sw (fun e => by omega)
    have rk : h'.rd y j = some (I l[j].1) := by
      have := rd'.rd (i := j) (by omega)
      rw [Nat.zero_add] at this
      rw [this]; simp [hj]
    have r4 : h'.rd h1.next 0 = some (ownSl w j) := rd_of gw
    have t3' : look ts 3 = .slice (some ⟨y, 0, none⟩) l.length l.length := t3
    have sA : Same h' (h'.new ⟨[I l[j].1, I (half l[j].1)], 2, 2, true, false⟩) (fun _ => False) := Same.new
    have hcell : RdAt (h'.new ⟨[I l[j].1, I (half l[j].1)], 2, 2, true, false⟩) h'.next 0 2 1 1 [I l[j].1, I (half l[j].1)] := RdAt.fresh h' [I l[j].1, I (half l[j].1)] 1 2 true false rfl
    have xA : (h'.new ⟨[I l[j].1, I (half l[j].1)], 2, 2, true, false⟩).next = h'.next + 1 := rfl
    generalize hhA : h'.new ⟨[I l[j].1, I (half l[j].1)], 2, 2, true, false⟩ = kA at sA hcell xA
    obtain ⟨w', kB, aB, oB, sB, nB⟩ := app_own (bytes := 16) (ow.same sA (fun _ _ x => x)) hcell.src rfl rfl (by omega) (by omega) (by omega)
    have xB := sB.next
    have gB : kB.blks.get h1.next = some ⟨[ownSl w j], 1, 1, true, false⟩ := by rw [sB.get h1.next (by omega) (fun e => by have := hw _ e; omega), sA.get h1.next (by omega) (fun x => x)]; exact gw
    have wC : kB.wrs h1.next 0 [ownSl w' (j + 1)] = some (kB.setB h1.next ⟨[ownSl w' (j + 1)], 1, 1, true, false⟩) := wrs1_of gB rfl (by simp) rfl
    have sC : Same kB (kB.setB h1.next ⟨[ownSl w' (j + 1)], 1, 1, true, false⟩) (fun j => j = h1.next) := Same.setB rfl
    have gC : (kB.setB h1.next ⟨[ownSl w' (j + 1)], 1, 1, true, false⟩).blks.get h1.next = some ⟨[ownSl w' (j + 1)], 1, 1, true, false⟩ := by rw [setB_get, if_pos rfl]
    generalize kB.setB h1.next ⟨[ownSl w' (j + 1)], 1, 1, true, false⟩ = kC at wC sC gC
    have rA : kA.rd h1.next 0 = some (ownSl w j) := rd_of (by rw [sA.get h1.next (by omega) (fun x => x)]; exact gw)
    have ehalf : wrapF .i64 (Int.tdiv l[j].1 2) = half l[j].1 := rfl
    have hw' : ∀ z, w' = some z → h2.next ≤ z := fun z hz => by
      rcases nB z hz with e | e
      · exact hw z e
      · omega
    have oC := oB.same sC (fun z hz e => by have := hw' z hz; omega)
    have eW : flat (wideL (l.take (j + 1))) = flat (wideL (l.take j)) ++ [I l[j].1, I (half l[j].1)] := by
      have e : l.take (j + 1) = l.take j ++ [l[j]] := by rw [List.take_add_one]; simp [hj]
      rw [e, wideL, List.map_append, flat_app]; rfl
    rw [← eW] at oC
    have sf : Same h2 kC (fun j => j = h1.next) := (((sw.trans sA (fun _ _ x => x.elim)).trans sB (fun z hz e => by have := hw z e; omega)).trans sC (fun _ _ e => e))
    have d20 : decide ((2 : Int) = 0) = false := by decide
    let Jw : Nat → Heap → Prop := fun i q => i ≤ 1 → q.rd h1.next 0 = some (ownSl w j) ∧ (i ≤ 0 → q.rd y j = some (I l[j].1))
    have w0 : Jw 0 h' := fun _ => ⟨r4, fun _ => rk⟩
    have w1 : Jw (0 + 1) kA := fun _ => ⟨rA, fun h => by omega⟩
    have w2 : Jw (0 + 1 + 1) kB := fun h => by omega
    have w3 : Jw (0 + 1 + 1 + 1) kC := fun h => by omega
    have l1 : ∀ i q, 0 ≤ i → i ≤ 1 → Jw i q → q.rd h1.next 0 = some (ownSl w j) := fun i q _ hi x => (x hi).1
    have l0 : ∀ i q, 0 ≤ i → i ≤ 0 → Jw i q → q.rd y j = some (I l[j].1) := fun i q _ hi x => (x (by omega)).2 hi
    clear_value Jw
    refine cwf_cw ?_
    simp only [cwf_seq, cwf_ops, c_true, cwf_skip, cwf_block, andThen_normal, owf_nil, o_p, bo_eq, optQ_some, pop, popQ, ev, putA, look_put, isB_true, abinF_eq, abin, decide_true, cond_true, cond_false, ite_true, ite_false, Nat.reduceEqDiff, t3', t5, cj]
    refine cwf_win Jw cf00 cf00_ok w0 ?_
    simp only [cwf_ops, andThen_normal, blockQ_normal, roundQ_normal, owf_nil, o_p, bo_eq, optQ_some, opt2_some, pop, popQ, rop_load1, ldV_ptr, ev, putA, look_put, abinF_eq, abin, eop_store1, eop_app, st1, eop_buildS, bldS_some, evP_nil, evP_cons, fillA_nil, fillA_one, fillA_pair, List.length_cons, List.length_nil, List.set_cons_zero, List.set_cons_succ, Nat.reduceLT, Nat.lt_add_one, Int.toNat_natCast, Int.natCast_nonneg, Nat.mul_one, scalar_slice, scalar_int, inB_eq, decide_true, cond_true, cond_false, ite_true, ite_false, Bool.and_true, Nat.reduceEqDiff, Nat.reduceAdd, Nat.zero_add, Nat.reduceMul, true_and, w_nil, w_p, w_r, w_e, bw_eq, bwr_eq, bw2_eq, t2, t3', t4, t5, cj, rk, r4, veq_int, veq_slice, ehalf, d20, hhA, aB, wC]
    refine ⟨l1, l0, l0, ?_⟩
    exact ⟨w1, w2, w3, l.length - (j + 1), by omega, j + 1, w', rfl, by omega, rfl, by rw [wj], gC, oC, hw', sf⟩
  · have ej : j = l.length := by omega
    subst ej
    rw [List.take_length] at ow
    have cj : ((l.length : Int) < l.length) = False := by simp
    have hwl := wide_len l
    have hasc2 := wide_asc hasc
    have hk2 : ∀ p ∈ wideL l, -9223372036854775808 ≤ p.1 ∧ p.1 ≤ 9223372036854775807 := fun p hp => by
      obtain ⟨q, hq, rfl⟩ := List.mem_map.1 hp
      exact hL _ (hkeys q hq)
    generalize hl2 : wideL l = l2 at ow hwl hasc2 hk2
    rw [← hwl] at ow gw
    have hl2n : l2.length ≤ 80 := by omega
    have owl := fun y hy => (ow.use y hy).2.1
    obtain ⟨_, k1, G1, rfl, m1, e1⟩ := new_spec hT H h' 2500 (by omega) (by omega)
    have y1 := e1.next
    have hbm : h'.next < k1.next := m1.lt
    obtain ⟨_, k2, G2, rfl, ⟨u2, m2, n2⟩, e2⟩ := begin_spec hT H V9 m1 (by omega) (by omega) ⟨by omega, by omega⟩
    have y2 := e2.next
    have e12 : Same h' k2 (fun _ => False) := e1.trans e2 (fun j hj e => by omega)
    have hcm : cellsN l2.length ≤ 1100 := by
      by_cases h2 : 2 ≤ l2.length
      · exact (partN h2 (by omega)).most
      · have : l2.length = 0 ∨ l2.length = 1 := by omega
        rcases this with e | e
        · rw [e, cells0]; omega
        · rw [e, cells1]; omega
    have hu2 : ∀ y, u2 = some y → h'.next ≤ y := fun y hy => by have := n2 y hy; omega
    obtain ⟨_, k3, G3, hb⟩ := build_spec hT H Nu (own_pr (ow.same e12 (fun _ _ x => x))) (by omega) m2 (fun e => by have := owl _ e; omega) (fun y hy e => by have := owl y hy; have := hu2 y e; omega) (by simp) (by omega) (by omega) (by omega)
    have S := treeF_spec (l2.length + 1) l2 7 (by omega) (by omega)
    have hLl : (layF (l2.length + 1) l2 7).2.length = cellsN l2.length := layF_len _ _ _ (by omega) (by omega)
    have e7 : ([1, 0, 0, 0, 0, 57, 0] : List Int).length = 7 := rfl
    rw [e7] at hb
    rcases hb with ⟨rfl, _, hroom, ⟨u4, c4, m3, c41, c42, n3⟩, e3⟩ | ⟨rfl, hno, rfl⟩
    rotate_left
    · exact (hno ⟨hasc2, by simp; omega⟩).elim
    generalize (layF (l2.length + 1) l2 7).1 = wd at S G3
    generalize (layF (l2.length + 1) l2 7).2 = LL at S m3 hLl
    generalize treeF (l2.length + 1) l2 7 = t at S
    have y3 := e3.next
    obtain ⟨x, rfl⟩ : ∃ y, u4 = some y := by
      cases u4 with
      | none => have := m3.non rfl; simp at this
      | some y => exact ⟨y, rfl⟩
    have hxx : h'.next ≤ x := by
      rcases n3 x rfl with e | e
      · exact hu2 x e
      · omega
    have e13 : Same h' k3 (fun _ => False) := e12.trans e3 (fun j hj e => by
      rcases e with e | e
      · omega
      · have := hu2 _ e; omega)
    have hC4 : ([1, 0, 0, 0, 0, 57, 0] ++ LL).length = 7 + cellsN l2.length := by simp [hLl]; omega
    obtain ⟨_, k4, G4, m4, e4⟩ := write_spec hT V9 m3 ⟨by omega, by omega⟩ (a := 6) (by omega) (by omega) (by omega) wd
    have eset : ([1, 0, 0, 0, 0, 57, 0] ++ LL).set (6 - 1) wd = [1, 0, 0, 0, 0, wd, 0] ++ LL := rfl
    rw [eset] at m4
    have R := rooted_wide S (by omega) hasc2 hk2 (by omega)
    have hcont := fits_content t l2 S.fits
    generalize [1, 0, 0, 0, 0, wd, 0] ++ LL = C at m4 R
    have y4 := e4.next
    have e14 : Same h' k4 (fun _ => False) := e13.trans e4 (fun j hj e => by omega)
    -- the count
    have e5 : Same k4 (k4.new ⟨[I 0], 1, 1, true, false⟩) (fun _ => False) := Same.new
    have g5 : (k4.new ⟨[I 0], 1, 1, true, false⟩).blks.get k4.next = some ⟨[I 0], 1, 1, true, false⟩ := by rw [new_get, if_pos rfl]
    have y5 : (k4.new ⟨[I 0], 1, 1, true, false⟩).next = k4.next + 1 := rfl
    generalize hk5 : k4.new ⟨[I 0], 1, 1, true, false⟩ = k5 at e5 g5 y5
    have w6 : k5.wrs k4.next 0 [I 0] = some (k5.setB k4.next ⟨[I 0], 1, 1, true, false⟩) := wrs1_of g5 rfl (by simp) rfl
    have e6 : Same k5 (k5.setB k4.next ⟨[I 0], 1, 1, true, false⟩) (fun j => j = k4.next) := Same.setB rfl
    have g6 : (k5.setB k4.next ⟨[I 0], 1, 1, true, false⟩).blks.get k4.next = some ⟨[I 0], 1, 1, true, false⟩ := by rw [setB_get, if_pos rfl]
    have y6 : (k5.setB k4.next ⟨[I 0], 1, 1, true, false⟩).next = k5.next := rfl
    generalize k5.setB k4.next ⟨[I 0], 1, 1, true, false⟩ = k6 at w6 e6 g6 y6
    obtain ⟨_, k7, G7, rfl, rb7, y7, e7'⟩ := leaves0_spec hT V13 k6 (some ⟨h'.next, 0, none⟩)
    have e17 : Same h' k7 (fun _ => False) := ((e14.trans e5 (fun _ _ x => x)).trans e6 (fun j hj e => by omega)).trans e7' (fun _ _ x => x)
    have e47 : Same k4 k7 (fun _ => False) := (e5.trans e6 (fun j hj e => by omega)).trans e7' (fun _ _ x => x)
    have c00 : ((0 : Int) != 0) = false := rfl
    refine cwf_cw ?_
    have t3n : ∃ base cap, look ts 3 = .slice base l.length cap := ⟨_, _, t3⟩
    obtain ⟨b3, c3, t3'⟩ := t3n
    have r4 : k2.rd h1.next 0 = some (ownSl w l2.length) := rd_of (by rw [e12.get h1.next (by omega) (fun x => x)]; exact gw)
    simp only [cwf_seq, cwf_ops, c_false, cwf_exit, andThen_normal, andThen_exit, blockQ_exit, roundQ_exit, owf_nil, o_p, owf_call, bo_eq, optQ_some, pop, popQ, ev, evs, putA, look_put, isB_false, abinF_eq, abin, decide_true, decide_false, cond_true, cond_false, ite_true, ite_false, Bool.not_false, Nat.reduceEqDiff, t3', t5, cj]
    refine ⟨_, _, G1, ?_⟩
    simp only [cwf_seq, cwf_ops, andThen_normal, owf_nil, o_p, owf_call, o_on, behind_eq, bo_eq, optQ_some, pop, popQ, ev, evs, putA, look_put, isB_false, abinF_eq, abin, isNilV, Option.isNone_some, decide_true, cond_true, cond_false, ite_true, ite_false, Bool.not_false, Nat.reduceEqDiff, List.getElem?_cons_zero, List.getElem?_cons_succ, c00]
    refine ⟨_, _, G2, ?_⟩
    simp only [cwf_seq, cwf_ops, c_false, cwf_skip, andThen_normal, owf_nil, o_p, o_r, owf_call, o_on, behind_eq, bo_eq, optQ_some, pop, popQ, rop_load1, ldV_ptr, ev, evs, putA, look_put, isB_false, cond_false, ite_true, ite_false, Bool.not_true, Bool.not_false, Nat.reduceEqDiff, t4, r4]
    refine ⟨_, _, G3, ?_⟩
    simp only [cwf_seq, cwf_ops, andThen_normal, owf_nil, o_p, owf_call, behind_eq, bo_eq, optQ_some, pop, popQ, ev, evs, putA, look_put, ite_true, ite_false, Nat.reduceEqDiff, List.getElem?_cons_zero, List.getElem?_cons_succ]
    refine ⟨_, _, G4, ?_⟩
    simp only [cwf_seq, cwf_ops, andThen_normal, owf_nil, o_p, o_e, owf_call, behind_eq, bo_eq, optQ_some, opt2_some, pop, popQ, ev, evs, putA, look_put, eop_store1, st1, List.length_cons, List.length_nil, scalar_int, ite_true, ite_false, Nat.reduceEqDiff, Nat.zero_add, eop_alloc, List.length_cons, List.length_nil, hk5, w6]
    refine ⟨_, _, G7, ?_⟩
    simp only [cwf_block, andThen_normal, owf_nil, behind_eq, putA, cwf_range]
    refine cw_gen (fun T => look T 2 = .pointer (some ⟨h.next, 0, none⟩) ∧ look T 4 = .pointer (some ⟨h1.next, 0, none⟩) ∧ look T 6 = .pointer (some ⟨h'.next, 0, none⟩) ∧ look T 8 = I wd ∧ look T 9 = .bool true ∧ look T 10 = .pointer (some ⟨k4.next, 0, none⟩) ∧ look T 59 = .func (.func 74) #[] #[.pointer (some ⟨k6.next, 0, none⟩)]) ⟨by simp only [look_put, ite_false, Nat.reduceEqDiff, t2], by simp only [look_put, ite_false, Nat.reduceEqDiff, t4], by simp only [look_put, ite_true, ite_false, Nat.reduceEqDiff], by simp only [look_put, ite_true, ite_false, Nat.reduceEqDiff], by simp only [look_put, ite_true, ite_false, Nat.reduceEqDiff], by simp only [look_put, ite_true, ite_false, Nat.reduceEqDiff], by simp only [look_put, ite_true, ite_false, Nat.reduceEqDiff]⟩ ?_
    rintro tsX ⟨t2, t4, t6, t8, t9, t10, t59⟩
    refine cw_range' t59 (fun k kts kn kps kasg kbody kst kpd => ?_)
    have T7 : SameB k7 (k7.enter k) (fun _ => False) := sameB_enter k7 k
    have xE : (k7.enter k).next = k7.next + 2 := rfl
    have lE : (k7.enter k).loops.get (k7.next + 1) = some k := by rw [enter_loops, if_pos rfl]
    have rbE : (k7.enter k).rd k6.next 0 = some (.pointer (some ⟨h'.next, 0, none⟩)) := rb7
    generalize hE : k7.enter k = E at T7 xE lE rbE
    have Th : SameB h' E (fun _ => False) := e17.toB.trans T7 (fun _ _ x => x)
    have T4 : SameB k4 E (fun _ => False) := e47.toB.trans T7 (fun _ _ x => x)
    have mE : MemAt E h'.next (some x) C 2500 (c4 + 1) 0 0 := m4.sameB T4 (fun x => x) (fun _ _ x => x)
    have gE4 : E.blks.get h1.next = some ⟨[ownSl w l2.length], 1, 1, true, false⟩ := by rw [Th.get h1.next (by omega) (fun x => x)]; exact gw
    have gE10 : E.blks.get k4.next = some ⟨[I 0], 1, 1, true, false⟩ := by rw [T7.get k4.next (by omega) (fun x => x), e7'.get k4.next (by omega) (fun x => x)]; exact g6
    have oE : OwnAt E w 2 l2.length (flat l2) := ⟨fun y hy => by
      obtain ⟨z1, z2, z3⟩ := ow.use y hy
      exact ⟨by rw [Th.get y z2 (fun x => x)]; exact z1, by omega, z3⟩, ow.non, ow.len, ow.sc⟩
    have hxl : x < k4.next := (m4.use x rfl).2.2.1
    let Ok : List Pr → Prop := fun acc => ∃ r, acc ++ r = l2
    let Iv : List Pr → (Nat → Prop) → Heap → Prop := fun acc F q => (∀ j, F j ↔ j = k4.next ∨ j = h1.next ∨ w = some j ∨ j = k7.next + 1) ∧ q.blks.get k4.next = some ⟨[I acc.length], 1, 1, true, false⟩ ∧ q.blks.get h1.next = some ⟨[ownSl w l2.length], 1, 1, true, false⟩ ∧ OwnAt q w 2 l2.length (flat l2) ∧ q.loops.get (k7.next + 1) = some k ∧ E.next ≤ q.next
    have cl : ClientO Ok P h'.next (some x) C 2500 (c4 + 1) 0 0 (.func (.yield (k7.next + 1)) #[] #[]) Iv := by
      refine ⟨?_, ?_, ?_, ?_, rfl, by simp [veq, veqs], (fun f fs cs e => by cases e), (fun f fs cs e => by cases e), (fun f fs cs e => by cases e), fun a b ⟨r, hr⟩ => ⟨b ++ r, by rw [← List.append_assoc]; exact hr⟩⟩
      · rintro acc F q ⟨hF, _, _, _, _, hq⟩ j hj
        rcases (hF j).1 hj with e | e | e | e
        · omega
        · omega
        · have := owl j e; omega
        · omega
      · rintro acc F q q' S' ⟨hF, i1, i2, i3, i4, hq⟩ sb hS
        have hn := sb.next
        refine ⟨hF, by rw [sb.get k4.next (by omega) (hS _ ((hF _).2 (.inl rfl)))]; exact i1, by rw [sb.get h1.next (by omega) (hS _ ((hF _).2 (.inr (.inl rfl))))]; exact i2, ⟨fun y hy => ?_, i3.non, i3.len, i3.sc⟩, by rw [sb.loops _ (by omega) (hS _ ((hF _).2 (.inr (.inr (.inr rfl)))))]; exact i4, by omega⟩
        obtain ⟨z1, z2, z3⟩ := i3.use y hy
        exact ⟨by rw [sb.get y z2 (hS _ ((hF _).2 (.inr (.inr (.inl hy)))))]; exact z1, by omega, z3⟩
      · rintro acc F q ⟨hF, _, _, _, _, hq⟩ j hj
        rcases (hF j).1 hj with e | e | e | e
        · exact ⟨by omega, fun e2 => by cases e2; omega⟩
        · exact ⟨by omega, fun e2 => by cases e2; omega⟩
        · have := owl j e
          exact ⟨by omega, fun e2 => by cases e2; omega⟩
        · exact ⟨by omega, fun e2 => by cases e2; omega⟩
      · rintro acc F q p ⟨r, hr⟩ ⟨hF, i1, i2, i3, i4, hq⟩ _
        have hlen : acc.length + 1 + r.length = l2.length := by rw [← hr]; simp; omega
        have hi : acc.length < l2.length := by omega
        have hp : l2[acc.length] = p := by
          have : l2[acc.length]? = some p := by rw [← hr]; simp
          rw [List.getElem?_eq_getElem hi] at this
          exact Option.some.inj this
        obtain ⟨y, rfl⟩ : ∃ y, w = some y := by
          cases w with
          | none => have := i3.non rfl; omega
          | some y => exact ⟨y, rfl⟩
        have hyl := owl y rfl
        rw [callV_y]
        refine yspec_round i4 kts kn kps kasg kbody kst kpd rfl rfl (fun q1 hq1 => ?_)
        have bq : SameB q (q.setL (k7.next + 1) { k with st := 1 } q.marks) (fun j => j = k7.next + 1) := sameB_setL _ _ _ _
        have l1 : (q.setL (k7.next + 1) { k with st := 1 } q.marks).loops.get (k7.next + 1) = some { k with st := 1 } := by rw [setL_loops, if_pos rfl]
        have x1q : (q.setL (k7.next + 1) { k with st := 1 } q.marks).next = q.next := rfl
        have m1q : (q.setL (k7.next + 1) { k with st := 1 } q.marks).marks = q.marks := rfl
        have bl1 : ∀ j, (q.setL (k7.next + 1) { k with st := 1 } q.marks).blks.get j = q.blks.get j := fun j => rfl
        rw [← hq1] at bq l1 x1q m1q bl1
        have r10 : q1.rd k4.next 0 = some (I acc.length) := rd_of (by rw [bl1]; exact i1)
        have r4 : q1.rd h1.next 0 = some (.slice (some ⟨y, 0, none⟩) l2.length l2.length) := rd_of (by rw [bl1]; exact i2)
        have rk : q1.rd y (acc.length * 2) = some (I p.1) := by
          have e1 := i3.rd.rd (i := acc.length * 2) (by omega)
          rw [Nat.zero_add] at e1
          have e2 : q.rd y (acc.length * 2) = some (I l2[acc.length].1) := by rw [e1]; exact flat_key l2 _ hi
          rw [hp] at e2
          unfold Heap.rd at e2 ⊢
          rw [bl1]; exact e2
        have rv : q1.rd y (acc.length * 2 + 1) = some (I p.2) := by
          have e1 := i3.rd.rd (i := acc.length * 2 + 1) (by omega)
          rw [Nat.zero_add] at e1
          have e2 : q.rd y (acc.length * 2 + 1) = some (I l2[acc.length].2) := by rw [e1]; exact flat_val l2 _ hi
          rw [hp] at e2
          unfold Heap.rd at e2 ⊢
          rw [bl1]; exact e2
        have g10 : q1.blks.get k4.next = some ⟨[I acc.length], 1, 1, true, false⟩ := by rw [bl1]; exact i1
        have w10 : q1.wrs k4.next 0 [I ((acc.length + 1 : Nat) : Int)] = some (q1.setB k4.next ⟨[I ((acc.length + 1 : Nat) : Int)], 1, 1, true, false⟩) := wrs1_of g10 rfl (by simp) rfl
        have s10 : Same q1 (q1.setB k4.next ⟨[I ((acc.length + 1 : Nat) : Int)], 1, 1, true, false⟩) (fun j => j = k4.next) := Same.setB rfl
        have g11 : (q1.setB k4.next ⟨[I ((acc.length + 1 : Nat) : Int)], 1, 1, true, false⟩).blks.get k4.next = some ⟨[I ((acc.length + 1 : Nat) : Int)], 1, 1, true, false⟩ := by rw [setB_get, if_pos rfl]
        generalize q1.setB k4.next ⟨[I ((acc.length + 1 : Nat) : Int)], 1, 1, true, false⟩ = q2 at w10 s10 g11
        have x2q := s10.next
        have cge : ((acc.length : Int) ≥ l2.length) = False := by simp; omega
        have clt : ((acc.length : Int) < l2.length) = True := by simp; omega
        have ck : (p.1 != p.1) = false := by simp
        have cv : (p.2 != p.2) = false := by simp
        have wa : wrapF .i64 ((acc.length : Int) + 1) = ((acc.length + 1 : Nat) : Int) := by rw [wrapI] <;> omega
        simp only [cwf_seq, cwf_ops, c_false, cwf_skip, cwf_block, andThen_normal, blockQ_normal, owf_nil, o_p, o_r, o_e, o_on, behind_eq, bo_eq, optQ_some, opt2_some, pop, popQ, rop_load1, ldV_ptr, ev, putA, look_put, isB_false, abinF_eq, abin, eop_store1, st1, Int.toNat_natCast, Int.natCast_nonneg, Nat.add_zero, scalar_int, inB_eq, decide_true, decide_false, cond_true, cond_false, ite_true, ite_false, Bool.and_true, Bool.not_false, Nat.reduceEqDiff, Nat.zero_add, true_and, putPs_nil, putPs_cons, t4, t10, r10, r4, cge, clt, rk, rv, ck, cv, wa, w10]
        have l2' : q2.loops.get (k7.next + 1) = some { k with st := 1 } := by rw [s10.loops _ (by omega) (by omega)]; exact l1
        refine ⟨l2', F, ⟨hF, by show q2.blks.get k4.next = _; rw [g11, List.length_append]; rfl, ?_, ?_, ?_, ?_⟩, ?_, fun j hj => .inl hj⟩
        · show q2.blks.get h1.next = _
          rw [s10.get h1.next (by omega) (by omega), bl1]; exact i2
        · exact ⟨fun z hz => by
            obtain ⟨z1, z2, z3⟩ := i3.use z hz
            cases hz
            exact ⟨by show q2.blks.get y = _; rw [s10.get y (by omega) (by omega), bl1]; exact z1, by show y < q2.next; omega, z3⟩, i3.non, i3.len, i3.sc⟩
        · rw [setL_loops, if_pos rfl]
        · show E.next ≤ q2.next
          omega
        · refine SameB.of ?_ (setL_marks _ _ _ _)
          refine ((bq.mono (T := F) (fun j e => (hF j).2 (.inr (.inr (.inr e))))).trans s10.toB (fun j hj e => (hF j).2 (.inl e))).trans (sameB_setL q2 (k7.next + 1) k q.marks) (fun j hj e => (hF j).2 (.inr (.inr (.inr e))))
    have iv0 : Iv [] (fun j => j = k4.next ∨ j = h1.next ∨ w = some j ∨ j = k7.next + 1) E := ⟨fun j => Iff.rfl, gE10, gE4, oE, lE, Nat.le_refl _⟩
    obtain ⟨vv, hX, FX, ⟨F', ⟨hF', i1, i2, i3, i4, hq⟩, _⟩, sX⟩ := leaves74_spec hT V H V2 V3 V4 V5 V13 cl iv0 mE R rbE (by omega) ⟨[], by rw [hcont]; simp⟩
    rw [hcont, List.nil_append] at i1
    refine ⟨vv, hX, FX, i4, ?_⟩
    have bX : SameB hX (hX.setL (k7.next + 1) { k with st := 3 } hX.marks) (fun j => j = k7.next + 1) := sameB_setL _ _ _ _
    have blX : ∀ j, (hX.setL (k7.next + 1) { k with st := 3 } hX.marks).blks.get j = hX.blks.get j := fun j => rfl
    have xY : (hX.setL (k7.next + 1) { k with st := 3 } hX.marks).next = hX.next := rfl
    simp only [cwf_seq, cwf_ops, andThen_normal, blockQ_normal, owf_call, evs]
    generalize hX.setL (k7.next + 1) { k with st := 3 } hX.marks = Y at bX blX xY
    have xX := sX.next
    have hFm := fun j hj => (hF' j).1 hj
    have SY : SameB h' Y (fun j => j = h1.next ∨ w = some j) := (Th.mono (T := fun j => j = h1.next ∨ w = some j) (fun _ e => e.elim)).trans (sX.toB.trans bX (S := fun j => j = k4.next ∨ j = h1.next ∨ w = some j ∨ j = k7.next + 1) (fun j hj e => .inr (.inr (.inr e)))) (fun j hj e => by
      rcases e with e | e | e | e
      · omega
      · exact .inl e
      · exact .inr e
      · omega)
    have mY : MemAt Y h'.next (some x) C 2500 (c4 + 1) 0 0 := (mE.sameB sX.toB (fun e => by
      rcases e with e | e | e | e
      · omega
      · omega
      · have := owl _ e; omega
      · omega) (fun y hy e => by
      cases hy
      rcases e with e | e | e | e
      · omega
      · omega
      · have := owl _ e; omega
      · omega)).sameB bX (fun e => by omega) (fun y hy e => by cases hy; omega)
    obtain ⟨_, z1, G8, rfl, sz⟩ := ideal1_spec hT V H V2 V3 V4 V5 V6 V8 Nu mY R (fits_idl t l2 S.fits)
    have r10 : Y.rd k4.next 0 = some (I l2.length) := rd_of (by rw [blX]; exact i1)
    have r4Y : Y.rd h1.next 0 = some (ownSl w l2.length) := rd_of (by rw [blX]; exact i2)
    have ceq : ((l2.length : Int) == l2.length) = true := by simp
    have z0 : z1.blks.get h.next = some ⟨[.bool false], 1, 1, true, false⟩ := by
      rw [sz.get h.next (by omega) (fun x => x), SY.get h.next (by omega) (fun e => by
        rcases e with e | e
        · omega
        · have := hw _ e; omega), sw.get h.next (by omega) (by omega), s2.get h.next (by omega) (fun x => x), s1.get h.next (by omega) (fun x => x)]
      exact g0
    have wz : z1.wrs h.next 0 [.bool true] = some (z1.setB h.next ⟨[.bool true], 1, 1, true, false⟩) := wrs1_of z0 rfl (by simp) rfl
    have s9 : Same z1 (z1.setB h.next ⟨[.bool true], 1, 1, true, false⟩) (fun j => j = h.next) := Same.setB rfl
    have g9 : (z1.setB h.next ⟨[.bool true], 1, 1, true, false⟩).blks.get h.next = some ⟨[.bool true], 1, 1, true, false⟩ := by rw [setB_get, if_pos rfl]
    generalize z1.setB h.next ⟨[.bool true], 1, 1, true, false⟩ = z2 at wz s9 g9
    have r2 : z2.rd h.next 0 = some (.bool true) := rd_of g9
    have S9 : SameB h z2 (fun _ => False) := (((((s0.trans s1 (fun _ _ x => x)).trans s2 (fun _ _ x => x)).trans sw (fun j hj e => by omega)).toB.trans SY (fun j hj e => by
      rcases e with e | e
      · omega
      · have := hw _ e; omega)).trans sz.toB (fun _ _ x => x)).trans s9.toB (fun j hj e => by omega)
    have hfin := S9.close
    refine ⟨_, _, Kn _, ?_⟩
    simp only [o_p, o_r, owf_call, o_on, behind_eq, bo_eq, optQ_some, pop, popQ, rop_load1, ldV_ptr, ev, evs, putA, look_put, isB_true, abinF_eq, abin, decide_true, cond_true, cond_false, ite_true, ite_false, Nat.reduceEqDiff, t4, t6, t8, t9, t10, r10, r4Y, ceq]
    have ewd : I wd = I t.word := by rw [S.word]
    rw [ewd]
    refine ⟨_, _, G8, ?_⟩
    simp only [cwf_ret, andThen_normal, fnQ_ret, owf_nil, o_p, o_e, behind_eq, bo_eq, optQ_some, opt2_some, pop, popQ, ev, putA, look_put, resAll, resA, mkRes1, eop_store1, st1, scalar_bool, cond_true, ite_true, ite_false, Nat.reduceEqDiff, Option.some.injEq, exists_eq_left', true_and, t2, wz, r2]
    exact hfin
end
end
end Go.Proofs.Ytedldiimhbebdaa.Ai
