/- A record, and all below it. -/
import Derived.Test.YtedldiimhbebdaaVC
namespace Go.Proofs.Ytedldiimhbebdaa.Ai
open Go.Proofs.Ytedldiimhbebdaa
noncomputable section
open Go.RowKit
def pre136_5 (x : ACode) : ACode := (.seq (.ops [⟨(some 8), .p (.mov (.c (.bool false))), none⟩]) (.seq (.ops [⟨(some 19), .p (.mov (.t 0)), none⟩, ⟨(some 20), .p (.nilchk (.t 19)), none⟩, ⟨(some 21), .p (.fieldAddr 0 (.t 20)), none⟩, ⟨(some 22), .r (.load1 (.t 21)), none⟩, ⟨(some 9), .p (.mov (.t 22)), none⟩]) (.seq (.ops [⟨(some 23), .p (.mov (.t 9)), none⟩, ⟨(some 24), .p (.mov (.t 1)), none⟩, ⟨(some 25), .p (.bin .add false (.t 24) (.c (.int .i64 0))), none⟩, ⟨(some 26), .call 58 [(.t 23), (.t 25)], none⟩, ⟨(some 27), .p (.mov (.t 9)), none⟩, ⟨(some 28), .p (.mov (.t 1)), none⟩, ⟨(some 29), .p (.bin .add false (.t 28) (.c (.int .i64 2))), none⟩, ⟨(some 30), .call 58 [(.t 27), (.t 29)], none⟩, ⟨(some 10), .p (.mov (.t 26)), none⟩, ⟨(some 11), .p (.mov (.t 30)), none⟩]) (.seq (.seq (.ops [⟨(some 31), .p (.mov (.t 10)), none⟩, ⟨(some 32), .p (.bin .lss false (.t 31) (.c (.int .i64 2))), none⟩, ⟨(some 33), .p (.mov (.t 32)), none⟩, ⟨(some 34), .p (.mov (.t 10)), some (33, false)⟩, ⟨(some 35), .p (.mov (.t 9)), some (33, false)⟩, ⟨(some 36), .call 20 [(.t 35)], some (33, false)⟩, ⟨(some 37), .p (.bin .gtr false (.t 34) (.t 36)), some (33, false)⟩, ⟨(some 38), .p (.pick (.t 33) (.c (.bool true)) (.t 37)), none⟩, ⟨(some 39), .p (.mov (.t 38)), none⟩, ⟨(some 40), .p (.mov (.t 0)), some (39, false)⟩, ⟨(some 41), .p (.mov (.t 1)), some (39, false)⟩, ⟨(some 42), .p (.mov (.t 10)), some (39, false)⟩, ⟨(some 43), .p (.bin .mul false (.c (.int .i64 2)) (.t 42)), some (39, false)⟩, ⟨(some 44), .p (.bin .add false (.c (.int .i64 4)) (.t 43)), some (39, false)⟩, ⟨(some 45), .call 110 [(.t 40), (.t 41), (.t 44)], some (39, false)⟩, ⟨(some 46), .p (.not (.t 45)), some (39, false)⟩, ⟨(some 47), .p (.pick (.t 39) (.c (.bool true)) (.t 46)), none⟩, ⟨(some 48), .p (.mov (.t 47)), none⟩, ⟨(some 49), .p (.mov (.t 11)), some (48, false)⟩, ⟨(some 50), .p (.bin .neq false (.t 49) (.c (.int .i64 0))), some (48, false)⟩, ⟨(some 51), .p (.mov (.t 50)), some (48, false)⟩, ⟨(some 52), .p (.mov (.t 11)), some (51, true)⟩, ⟨(some 53), .p (.bin .neq false (.t 52) (.c (.int .i64 1))), some (51, true)⟩, ⟨(some 54), .p (.pick (.t 51) (.t 53) (.c (.bool false))), some (48, false)⟩, ⟨(some 55), .p (.pick (.t 48) (.c (.bool true)) (.t 54)), none⟩]) (.cond (.t 55) (.seq (.ops [⟨(some 8), .p (.mov (.c (.bool false))), none⟩]) .ret) .skip)) (.seq (.seq (.ops [⟨(some 56), .p (.mov (.t 11)), none⟩, ⟨(some 57), .p (.bin .eql false (.t 56) (.c (.int .i64 1))), none⟩, ⟨(some 58), .p (.mov (.t 57)), none⟩, ⟨(some 59), .p (.mov (.t 9)), some (58, false)⟩, ⟨(some 60), .p (.mov (.t 1)), some (58, false)⟩, ⟨(some 61), .p (.bin .add false (.t 60) (.c (.int .i64 3))), some (58, false)⟩, ⟨(some 62), .call 58 [(.t 59), (.t 61)], some (58, false)⟩, ⟨(some 63), .p (.mov (.t 9)), some (58, false)⟩, ⟨(some 64), .p (.mov (.t 1)), some (58, false)⟩, ⟨(some 65), .p (.bin .add false (.t 64) (.c (.int .i64 1))), some (58, false)⟩, ⟨(some 66), .call 58 [(.t 63), (.t 65)], some (58, false)⟩, ⟨(some 67), .call 141 [(.t 66)], some (58, false)⟩, ⟨(some 68), .p (.bin .geq false (.t 62) (.t 67)), some (58, false)⟩, ⟨(some 69), .p (.pick (.t 58) (.c (.bool true)) (.t 68)), none⟩]) (.cond (.t 69) (.ops [⟨(some 70), .p (.mov (.t 0)), none⟩, ⟨(some 71), .p (.nilchk (.t 70)), none⟩, ⟨(some 72), .p (.fieldAddr 4 (.t 71)), none⟩, ⟨none, .e (.store 1 (.t 72) (.c (.bool true))), none⟩]) .skip)) x)))))
def rest136_5 : ACode := (.seq (.ops [⟨(some 73), .p (.mov (.t 10)), none⟩, ⟨(some 74), .p (.mov (.t 2)), none⟩, ⟨(some 12), .p (.mov (.t 73)), none⟩, ⟨(some 13), .p (.mov (.t 74)), none⟩]) (.seq (.seq (.ops [⟨(some 14), .p (.mov (.c (.int .i64 1))), none⟩]) (.block 0 (.loop (.seq (.seq (.ops [⟨(some 75), .p (.mov (.t 14)), none⟩, ⟨(some 76), .p (.mov (.t 12)), none⟩, ⟨(some 77), .p (.bin .lss false (.t 75) (.t 76)), none⟩]) (.cond (.t 77) .skip (.exit 0))) (.seq (.block 1 (.seq (.ops [⟨(some 80), .p (.mov (.t 9)), none⟩, ⟨(some 81), .p (.mov (.t 1)), none⟩, ⟨(some 82), .p (.mov (.t 14)), none⟩, ⟨(some 83), .call 130 [(.t 81), (.t 82)], none⟩, ⟨(some 84), .call 58 [(.t 80), (.t 83)], none⟩, ⟨(some 15), .p (.mov (.t 84)), none⟩]) (.seq (.seq (.ops [⟨(some 85), .p (.mov (.t 15)), none⟩, ⟨(some 86), .p (.mov (.t 13)), none⟩, ⟨(some 87), .p (.bin .leq false (.t 85) (.t 86)), none⟩, ⟨(some 88), .p (.mov (.t 87)), none⟩, ⟨(some 89), .p (.mov (.t 15)), some (88, false)⟩, ⟨(some 90), .p (.mov (.t 3)), some (88, false)⟩, ⟨(some 91), .p (.bin .gtr false (.t 89) (.t 90)), some (88, false)⟩, ⟨(some 92), .p (.pick (.t 88) (.c (.bool true)) (.t 91)), none⟩]) (.cond (.t 92) (.seq (.ops [⟨(some 8), .p (.mov (.c (.bool false))), none⟩]) .ret) .skip)) (.ops [⟨(some 93), .p (.mov (.t 15)), none⟩, ⟨(some 13), .p (.mov (.t 93)), none⟩])))) (.ops [⟨(some 78), .p (.mov (.t 14)), none⟩, ⟨(some 79), .p (.bin .add false (.t 78) (.c (.int .i64 1))), none⟩, ⟨(some 14), .p (.mov (.t 79)), none⟩])))))) (.seq (.seq (.ops [⟨(some 94), .p (.mov (.t 12)), none⟩, ⟨(some 95), .p (.mov (.c (.int .i64 0))), none⟩]) (.block 2 (.loop (.seq (.ops [⟨(some 96), .p (.bin .lss false (.t 95) (.t 94)), none⟩]) (.seq (.cond (.t 96) .skip (.exit 2)) (.seq (.block 3 (.seq (.ops [⟨(some 97), .p (.mov (.t 95)), none⟩, ⟨(some 16), .p (.mov (.t 97)), none⟩]) (.seq (.ops [⟨(some 98), .p (.mov (.t 2)), none⟩, ⟨(some 99), .p (.mov (.t 3)), none⟩, ⟨(some 17), .p (.mov (.t 98)), none⟩, ⟨(some 18), .p (.mov (.t 99)), none⟩]) (.seq (.seq (.ops [⟨(some 100), .p (.mov (.t 16)), none⟩, ⟨(some 101), .p (.bin .gtr false (.t 100) (.c (.int .i64 0))), none⟩]) (.cond (.t 101) (.ops [⟨(some 102), .p (.mov (.t 9)), none⟩, ⟨(some 103), .p (.mov (.t 1)), none⟩, ⟨(some 104), .p (.mov (.t 16)), none⟩, ⟨(some 105), .call 130 [(.t 103), (.t 104)], none⟩, ⟨(some 106), .call 58 [(.t 102), (.t 105)], none⟩, ⟨(some 17), .p (.mov (.t 106)), none⟩]) .skip)) (.seq (.seq (.ops [⟨(some 107), .p (.mov (.t 16)), none⟩, ⟨(some 108), .p (.mov (.t 12)), none⟩, ⟨(some 109), .p (.bin .sub false (.t 108) (.c (.int .i64 1))), none⟩, ⟨(some 110), .p (.bin .lss false (.t 107) (.t 109)), none⟩]) (.cond (.t 110) (.ops [⟨(some 111), .p (.mov (.t 9)), none⟩, ⟨(some 112), .p (.mov (.t 1)), none⟩, ⟨(some 113), .p (.mov (.t 16)), none⟩, ⟨(some 114), .p (.bin .add false (.t 113) (.c (.int .i64 1))), none⟩, ⟨(some 115), .call 130 [(.t 112), (.t 114)], none⟩, ⟨(some 116), .call 58 [(.t 111), (.t 115)], none⟩, ⟨(some 117), .p (.bin .sub false (.t 116) (.c (.int .i64 1))), none⟩, ⟨(some 18), .p (.mov (.t 117)), none⟩]) .skip)) (.seq (.ops [⟨(some 118), .p (.mov (.t 0)), none⟩, ⟨(some 119), .p (.mov (.t 1)), none⟩, ⟨(some 120), .p (.mov (.t 12)), none⟩, ⟨(some 121), .p (.mov (.t 16)), none⟩, ⟨(some 122), .call 118 [(.t 119), (.t 120), (.t 121)], none⟩, ⟨(some 123), .p (.mov (.t 17)), none⟩, ⟨(some 124), .p (.mov (.t 18)), none⟩, ⟨(some 125), .call 111 [(.t 118), (.t 122), (.t 123), (.t 124)], none⟩, ⟨(some 126), .p (.not (.t 125)), none⟩]) (.cond (.t 126) (.seq (.ops [⟨(some 8), .p (.mov (.c (.bool false))), none⟩]) .ret) .skip))))))) (.ops [⟨(some 127), .p (.bin .add false (.t 95) (.c (.int .i64 1))), none⟩, ⟨(some 95), .p (.mov (.t 127)), none⟩]))))))) (.seq (.ops [⟨(some 8), .p (.mov (.c (.bool true))), none⟩]) .ret))))
theorem cut136_5 : af136.body = pre136_5 rest136_5 := (rfl)

theorem Vw.mono {h h' : Heap} {bt bm ut : Nat} {us um : Option Nat} {C : List Int} {z c o r : Int} {T : List Bool} {Sp : List Pr} {bs : Bool} (w : Vw h bt bm ut us um C z c o r T Sp bs) (m : Same h h' (fun _ => False)) : Vw h' bt bm ut us um C z c o r T Sp bs := w.same m

theorem VwS_false {bt ut : Nat} {us : Option Nat} {h h' : Heap} (m : Same h h' (fun _ => False)) : Same h h' (VwS bt ut us) := m.mono (fun _ x => x.elim)

theorem spots_take (cs : List Tr) (s : Nat) : ∀ i, i ≤ cs.length → (spotss s (cs.take i)).length ≤ (spotss s cs).length := by
  intro i _
  have e : cs = cs.take i ++ cs.drop i := (List.take_append_drop i cs).symm
  rw [show (spotss s cs).length = (spotss s (cs.take i ++ cs.drop i)).length by rw [← e], spotss_app, List.length_append]
  omega

section
variable {P : Program} {tab : Nat → Option AFunc} (hT : TabOk P tab) (V : HasV tab)
include hT V

/-- the keys, and then the slots -/
theorem inner_tail (H : Has tab) (V3 : HasV3 tab) {a : Nat} {ks : List Int} {cs : List Tr} (ih : ∀ t ∈ cs, RecP P t) {h0 h : Heap} {bt bm ut : Nat} {us um : Option Nat} {C : List Int} {z c o r : Int} {T : List Bool} {Sp : List Pr} {bs : Bool} {lo hi : Int} {d : Nat} (hd : d = cs.length) (w : Vw h bt bm ut us um C z c o r T Sp bs) (q2 : a + (2 * d + 4) ≤ C.length + 1) (q3 : d = ks.length + 1) (q4 : 1 ≤ ks.length)
    (hks : ∀ i (h : i < ks.length), at0 C (a + 5 + i) = ks[i]) (hcs : ∀ i (h : i < cs.length), at0 C (a + 4 + cs.length + i) = cs[i].word) (hoks : oks C cs) (hord : ords lo hi ks cs) (hfree : frees T cs) (hC : C.length ≤ 65536) (hTl : T.length = C.length + 1) (hsp : Sp.length + (spotss (a + 4 + d) cs).length ≤ 100000) (h1 : -9223372036854775808 ≤ lo) (h2 : hi ≤ 9223372036854775807) (sm : Same h0 h (VwS bt ut us))
    (ts : Ai.T Value) (t0 : look ts 0 = .pointer (some ⟨bt, 0, none⟩)) (t1 : look ts 1 = I a) (t2 : look ts 2 = I lo) (t3 : look ts 3 = I hi) (t9 : look ts 9 = .pointer (some ⟨bm, 0, none⟩)) (t10 : look ts 10 = I d) :
    cwf P 128 none rest136_5 ts h (fnQ h0 [.tmp 8] fun v h' => v = .bool true ∧ (∃ us', Vw h' bt bm ut us' um C z c o r (markss T cs) (Sp ++ spotss (a + 4 + d) cs) (bs || busys cs) ∧ ∀ y, us' = some y → us = some y ∨ h0.next ≤ y) ∧ Same h0 h' (VwS bt ut us)) := by
  obtain ⟨_, hkeys⟩ := ords_keys hord
  have nx := sm.next
  have hkl : ∀ i (h : i < ks.length), -9223372036854775808 ≤ (if i = 0 then lo else (ks[i - 1]?).getD 0) ∧ (if i = 0 then lo else (ks[i - 1]?).getD 0) < ks[i] ∧ ks[i] ≤ hi := by
    intro i
    induction i with
    | zero => intro h; have := hkeys 0 h; simp at this ⊢; omega
    | succ i ih =>
      intro h
      have h3 := hkeys (i + 1) h
      have h4 := ih (by omega)
      simp only [Nat.add_sub_cancel, List.getElem?_eq_getElem (show i < ks.length by omega), Option.getD_some] at h3 ⊢
      rw [if_neg (by omega)] at h3 ⊢
      omega
  simp only [rest136_5, cwf_seq, cwf_ops, cwf_block, cwf_loop, andThen_normal, owf_nil, o_p, bo_eq, optQ_some, pop, popQ, ev, putA, look_put, ite_true, ite_false, Nat.reduceEqDiff, t2, t10]
  refine cw_loop (fun k ts h' => ∃ i : Nat, k = d - i ∧ 1 ≤ i ∧ i ≤ d ∧ look ts 0 = .pointer (some ⟨bt, 0, none⟩) ∧ look ts 1 = I a ∧ look ts 2 = I lo ∧ look ts 3 = I hi ∧ look ts 9 = .pointer (some ⟨bm, 0, none⟩) ∧ look ts 12 = I d ∧ look ts 13 = I (if i = 1 then lo else (ks[i - 2]?).getD 0) ∧ look ts 14 = I i ∧ Same h h' (fun _ => False)) ?_ (n := d - 1) ⟨1, rfl, Nat.le_refl _, by omega, by simp only [look_put, ite_false, Nat.reduceEqDiff, t0], by simp only [look_put, ite_false, Nat.reduceEqDiff, t1], by simp only [look_put, ite_false, Nat.reduceEqDiff, t2], by simp only [look_put, ite_false, Nat.reduceEqDiff, t3], by simp only [look_put, ite_false, Nat.reduceEqDiff, t9], by simp only [look_put, ite_true, ite_false, Nat.reduceEqDiff], by simp only [look_put, Nat.reduceSub, ite_true, ite_false, Nat.reduceEqDiff], by simp only [look_put, Int.cast_ofNat_Int, ite_true, ite_false, Nat.reduceEqDiff] <;> rfl, Same.refl _ _⟩
  rintro k ts h' ⟨i, rfl, i1, i2, t0, t1, t2, t3, t9, t12, t13, t14, s1⟩
  have w' := w.same s1
  refine cwf_cw ?_
  by_cases hi' : i < d
  · have ci : ((i : Int) < d) = True := by simp [hi']
    have wi : wrapF .i64 ((i : Int) + 1) = ((i + 1 : Nat) : Int) := by rw [wrapI] <;> omega
    obtain ⟨_, h3, F1, rfl, s3⟩ := keyat_spec hT V h' a i (by omega) (by omega)
    have w3 := w'.same s3
    obtain ⟨_, h3, F2, rfl, rfl⟩ := at_spec hT V w3.mem (a + 4 + i) (by omega)
    have hk := hks (i - 1) (by omega)
    rw [show a + 5 + (i - 1) = a + 4 + i by omega] at hk
    rw [hk] at F2
    have hb := hkl (i - 1) (by omega)
    have e13 : (if i = 1 then lo else (ks[i - 2]?).getD 0) = (if i - 1 = 0 then lo else (ks[i - 1 - 1]?).getD 0) := by
      by_cases q : i = 1
      · rw [if_pos q, if_pos (by omega)]
      · rw [if_neg q, if_neg (by omega), show i - 2 = i - 1 - 1 by omega]
    rw [e13] at t13
    have c1 : (ks[i - 1]'(by omega) ≤ (if i - 1 = 0 then lo else (ks[i - 1 - 1]?).getD 0)) = False := by simp; omega
    have c2 : (ks[i - 1]'(by omega) > hi) = False := by simp; omega
    simp only [cwf_seq, cwf_ops, c_true, cwf_skip, cwf_block, andThen_normal, owf_nil, o_p, owf_call, bo_eq, optQ_some, pop, popQ, ev, evs, putA, look_put, isB_true, abinF_eq, abin, decide_true, cond_true, ite_true, ite_false, Nat.reduceEqDiff, t1, t9, t12, t14, ci]
    refine ⟨_, _, F1, ?_⟩
    simp only [owf_call, behind_eq, ev, evs, putA, look_put, ite_true, ite_false, Nat.reduceEqDiff]
    refine ⟨_, _, F2, ?_⟩
    simp only [cwf_seq, cwf_ops, c_false, cwf_skip, andThen_normal, blockQ_normal, roundQ_normal, owf_nil, o_p, o_on, behind_eq, bo_eq, optQ_some, pop, popQ, ev, putA, look_put, isB_false, abinF_eq, abin, decide_true, decide_false, cond_true, cond_false, ite_true, ite_false, Bool.not_false, Nat.reduceEqDiff, true_and, t0, t1, t2, t3, t9, t12, t13, t14, c1, c2, wi]
    refine ⟨d - (i + 1), by omega, i + 1, rfl, by omega, by omega, ?_, rfl, s1.trans s3 (fun _ _ x => x)⟩
    rw [if_neg (by omega), show i + 1 - 2 = i - 1 by omega, List.getElem?_eq_getElem (show i - 1 < ks.length by omega)]
    rfl
  · have hid : i = d := by omega
    have ci : ((i : Int) < d) = False := by simp; omega
    simp only [cwf_seq, cwf_ops, c_false, cwf_block, cwf_exit, cwf_loop, andThen_normal, andThen_exit, blockQ_exit, roundQ_exit, owf_nil, o_p, bo_eq, optQ_some, pop, popQ, ev, putA, look_put, isB_false, abinF_eq, abin, decide_true, decide_false, cond_true, ite_true, ite_false, Bool.not_false, Nat.reduceEqDiff, t12, t14, ci]
    refine cw_loop (fun k ts h4 => ∃ (i : Nat) (us' : Option Nat), k = d - i ∧ i ≤ d ∧ look ts 0 = .pointer (some ⟨bt, 0, none⟩) ∧ look ts 1 = I a ∧ look ts 2 = I lo ∧ look ts 3 = I hi ∧ look ts 9 = .pointer (some ⟨bm, 0, none⟩) ∧ look ts 12 = I d ∧ look ts 94 = I d ∧ look ts 95 = I i ∧ Vw h4 bt bm ut us' um C z c o r (markss T (cs.take i)) (Sp ++ spotss (a + 4 + d) (cs.take i)) (bs || busys (cs.take i)) ∧ (∀ y, us' = some y → us = some y ∨ h0.next ≤ y) ∧ Same h0 h4 (VwS bt ut us)) ?_ (n := d) ⟨0, us, rfl, Nat.zero_le _, by simp only [look_put, ite_false, Nat.reduceEqDiff, t0], by simp only [look_put, ite_false, Nat.reduceEqDiff, t1], by simp only [look_put, ite_false, Nat.reduceEqDiff, t2], by simp only [look_put, ite_false, Nat.reduceEqDiff, t3], by simp only [look_put, ite_false, Nat.reduceEqDiff, t9], by simp only [look_put, ite_false, Nat.reduceEqDiff, t12], by simp only [look_put, ite_true, ite_false, Nat.reduceEqDiff], by simp only [look_put, Int.cast_ofNat_Int, ite_true, ite_false, Nat.reduceEqDiff] <;> rfl, by simpa [markss, spotss, busys] using w', fun y hy => .inl hy, sm.trans s1 (fun _ _ x => x.elim)⟩
    rintro k ts h4 ⟨j, us', rfl, j2, t0, t1, t2, t3, t9, t12, t94, t95, w4, n4, s4⟩
    refine cwf_cw ?_
    by_cases hj : j < d
    · have cj : ((j : Int) < d) = True := by simp [hj]
      have wj : wrapF .i64 ((j : Int) + 1) = ((j + 1 : Nat) : Int) := by rw [wrapI] <;> omega
      have wd : wrapF .i64 ((d : Int) - 1) = ((d - 1 : Nat) : Int) := by rw [wrapI] <;> omega
      have hjc : j < cs.length := by omega
      have hspl : (spotss (a + 4 + d) (cs.take (j + 1))).length ≤ (spotss (a + 4 + d) cs).length := spots_take cs _ _ (by omega)
      have hspa : spotss (a + 4 + d) (cs.take (j + 1)) = spotss (a + 4 + d) (cs.take j) ++ ((((a + 4 + d + j : Nat) : Int), cs[j].word) :: cs[j].spots) := by
        rw [take_one cs hjc, spotss_app]
        simp only [List.length_take, Nat.min_eq_left (Nat.le_of_lt hjc), spotss, List.append_nil]
      have hma : markss T (cs.take (j + 1)) = cs[j].marks (markss T (cs.take j)) := by
        rw [take_one cs hjc, markss_app]; rfl
      have hba : (bs || busys (cs.take (j + 1))) = ((bs || busys (cs.take j)) || cs[j].busy) := by
        rw [take_one cs hjc, busys_app]; simp [busys, Bool.or_assoc]
      have hordj := ords_at hord j hjc
      have hfj := frees_at hfree hjc
      have hTj : (markss T (cs.take j)).length = C.length + 1 := by
        have : ∀ (cs : List Tr) (T : List Bool), (markss T cs).length = T.length := by
          intro cs
          induction cs with
          | nil => intro T; rfl
          | cons t cs ih => intro T; show (markss (t.marks T) cs).length = _; rw [ih, markss_len]
        rw [this]; exact hTl
      have cell : at0 C (a + 4 + d + j) = cs[j].word := by
        have := hcs j hjc
        rwa [← hd] at this
      generalize hfr : (if j = 0 then lo else (ks[j - 1]?).getD 0) = fr at hordj
      generalize hto : (if j < ks.length then (ks[j]?).getD 0 - 1 else hi) = to at hordj
      have hfr1 : -9223372036854775808 ≤ fr := by
        rw [← hfr]
        by_cases q : j = 0
        · rw [if_pos q]; exact h1
        · rw [if_neg q]
          have := hkl (j - 1) (by omega)
          rw [List.getElem?_eq_getElem (show j - 1 < ks.length by omega)]
          simp only [Option.getD_some]; omega
      have hto1 : to ≤ 9223372036854775807 := by
        rw [← hto]
        by_cases q : j < ks.length
        · rw [if_pos q]
          have := hkl j q
          rw [List.getElem?_eq_getElem q]
          simp only [Option.getD_some]; omega
        · rw [if_neg q]; exact h2
      have slot : ∀ h5, Same h4 h5 (fun _ => False) → ∃ v h6, Fact P 118 [I a, I d, I j] h5 (I ((a + 4 + d + j : Nat) : Int)) v ∧ Fact P 111 [.pointer (some ⟨bt, 0, none⟩), I ((a + 4 + d + j : Nat) : Int), I fr, I to] v (.bool true) h6 ∧ (∃ us', Vw h6 bt bm ut us' um C z c o r (markss T (cs.take (j + 1))) (Sp ++ spotss (a + 4 + d) (cs.take (j + 1))) (bs || busys (cs.take (j + 1))) ∧ ∀ y, us' = some y → us = some y ∨ h0.next ≤ y) ∧ Same h0 h6 (VwS bt ut us) := by
        intro h5 s5
        obtain ⟨_, k5, F1, rfl, s6⟩ := childat_spec hT V h5 a d j (by omega) (by omega) (by omega)
        have w5 := (w4.same s5).same s6
        obtain ⟨_, h6, F2, rfl, ⟨us6, w6, n6⟩, s7⟩ := slot_spec hT V H V3 (ih cs[j] (List.getElem_mem _)) w5 (oks_mem hoks j hjc) hordj hfj hC hTj (s := a + 4 + d + j) (by omega) cell (by
          rw [hspa] at hspl
          simp only [List.length_append, List.length_cons] at hspl ⊢
          omega) hfr1 hto1
        have x4 := s4.next
        have x5 := s5.next
        have x6 := s6.next
        refine ⟨k5, h6, F1, F2, ⟨us6, ?_, fun y hy => ?_⟩, ((s4.trans s5 (fun _ _ x => x.elim)).trans s6 (fun _ _ x => x.elim)).trans s7 (fun q hq e => ?_)⟩
        · rw [hspa, hma, hba, ← List.append_assoc]; exact w6
        · rcases n6 y hy with e | e
          · exact n4 y e
          · exact .inr (by omega)
        · rcases e with e | e | e
          · exact .inl e
          · exact .inr (.inl e)
          · rcases n4 q e with e2 | e2
            · exact .inr (.inr e2)
            · omega
      have key : ∀ (m : Nat) (h5 : Heap), 1 ≤ m → m ≤ ks.length → Same h4 h5 (fun _ => False) → ∃ h6, Fact P 130 [I a, I m] h5 (I ((a + 4 + m : Nat) : Int)) h6 ∧ Fact P 58 [.pointer (some ⟨bm, 0, none⟩), I ((a + 4 + m : Nat) : Int)] h6 (I ((ks[m - 1]?).getD 0)) h6 ∧ Same h4 h6 (fun _ => False) := by
        intro m h5 m1 m2 s5
        obtain ⟨_, h6, F1, rfl, s6⟩ := keyat_spec hT V h5 a m (by omega) (by omega)
        obtain ⟨_, h6, F2, rfl, rfl⟩ := at_spec hT V ((w4.same s5).same s6).mem (a + 4 + m) (by omega)
        have hk := hks (m - 1) (by omega)
        rw [show a + 5 + (m - 1) = a + 4 + m by omega] at hk
        rw [hk] at F2
        refine ⟨h6, F1, ?_, s5.trans s6 (fun _ _ x => x)⟩
        rw [List.getElem?_eq_getElem (show m - 1 < ks.length by omega)]; exact F2
      rcases Nat.eq_zero_or_pos j with j0 | jp
      · subst j0
        have c0 : ((0 : Int) > 0) = False := by simp
        have cl : ((0 : Int) < ((d - 1 : Nat) : Int)) = True := by simp; omega
        have cj : ((0 : Int) < (d : Int)) = True := by simp; omega
        have w01 : wrapF .i64 1 = 1 := by decide
        obtain ⟨h6, K1, K2, sk⟩ := key 1 h4 (Nat.le_refl _) (by omega) (Same.refl _ _)
        obtain ⟨k5, h7, F1, F2, ⟨us7, w7, n7⟩, s7⟩ := slot h6 sk
        have e1 : (ks[1 - 1]?).getD 0 - 1 = to := by
          rw [← hto, if_pos (by omega)]
        have hb := hkl 0 (by omega)
        have wk : wrapF .i64 ((ks[1 - 1]?).getD 0 - 1) = to := by
          rw [e1, wrapI]
          · rw [← e1, show 1 - 1 = 0 by rfl, List.getElem?_eq_getElem (show 0 < ks.length by omega)]
            simp only [Option.getD_some] at hb ⊢
            simp at hb; omega
          · omega
        have efr : lo = fr := by rw [← hfr, if_pos rfl]
        rw [← efr] at F2
        simp only [cwf_seq, cwf_ops, c_true, c_false, cwf_skip, cwf_block, andThen_normal, owf_nil, o_p, owf_call, bo_eq, optQ_some, pop, popQ, ev, evs, putA, look_put, isB_true, isB_false, abinF_eq, abin, Int.reduceAdd, Int.cast_ofNat_Int, decide_true, decide_false, cond_true, ite_true, ite_false, Bool.not_false, Nat.reduceEqDiff, t1, t2, t3, t9, t12, t94, t95, cj, c0, wd, cl, w01]
        refine ⟨_, _, K1, ?_⟩
        simp only [owf_call, behind_eq, ev, evs, putA, look_put, ite_true, ite_false, Nat.reduceEqDiff]
        refine ⟨_, _, K2, ?_⟩
        simp only [cwf_seq, cwf_ops, andThen_normal, owf_nil, o_p, owf_call, behind_eq, bo_eq, optQ_some, pop, popQ, ev, evs, putA, look_put, abinF_eq, abin, Nat.reduceSub, decide_true, cond_true, ite_true, ite_false, Nat.reduceEqDiff, t0, t1, t12, wk]
        refine ⟨_, _, F1, ?_⟩
        simp only [o_p, owf_call, behind_eq, bo_eq, optQ_some, pop, popQ, ev, evs, putA, look_put, Nat.add_zero, ite_true, ite_false, Nat.reduceEqDiff]
        refine ⟨_, _, F2, ?_⟩
        simp only [cwf_ops, c_false, cwf_skip, andThen_normal, blockQ_normal, roundQ_normal, owf_nil, o_p, behind_eq, bo_eq, optQ_some, pop, popQ, ev, putA, look_put, isB_false, abinF_eq, abin, Int.reduceAdd, Int.cast_ofNat_Int, decide_true, cond_true, ite_true, ite_false, Bool.not_true, Bool.not_false, Nat.reduceEqDiff, true_and, t0, t1, t2, t3, t9, t12, t94, t95, w01]
        exact ⟨d - 1, by omega, 1, us7, rfl, by omega, rfl, w7, n7, s7⟩
      · have c0 : ((j : Int) > 0) = True := by simp; omega
        obtain ⟨h6, K1, K2, sk⟩ := key j h4 jp (by omega) (Same.refl _ _)
        have efr : (ks[j - 1]?).getD 0 = fr := by rw [← hfr, if_neg (by omega)]
        rw [efr] at K2
        by_cases jl : j < ks.length
        · have cl : ((j : Int) < ((d - 1 : Nat) : Int)) = True := by simp; omega
          obtain ⟨h8, L1, L2, sl⟩ := key (j + 1) h6 (by omega) (by omega) sk
          obtain ⟨k5, h7, F1, F2, ⟨us7, w7, n7⟩, s7⟩ := slot h8 sl
          have hb := hkl j jl
          have e1 : (ks[j + 1 - 1]?).getD 0 - 1 = to := by
            rw [← hto, if_pos jl, show j + 1 - 1 = j by omega]
          have wk : wrapF .i64 ((ks[j + 1 - 1]?).getD 0 - 1) = to := by
            rw [e1, wrapI]
            · rw [← e1, show j + 1 - 1 = j by omega, List.getElem?_eq_getElem jl]
              simp only [Option.getD_some]
              omega
            · omega
          simp only [cwf_seq, cwf_ops, c_true, cwf_skip, cwf_block, andThen_normal, owf_nil, o_p, owf_call, bo_eq, optQ_some, pop, popQ, ev, evs, putA, look_put, isB_true, abinF_eq, abin, decide_true, cond_true, ite_true, ite_false, Nat.reduceEqDiff, t1, t2, t3, t9, t94, t95, cj, c0]
          refine ⟨_, _, K1, ?_⟩
          simp only [owf_call, behind_eq, ev, evs, putA, look_put, ite_true, ite_false, Nat.reduceEqDiff]
          refine ⟨_, _, K2, ?_⟩
          simp only [cwf_seq, cwf_ops, c_true, andThen_normal, owf_nil, o_p, owf_call, behind_eq, bo_eq, optQ_some, pop, popQ, ev, evs, putA, look_put, isB_true, abinF_eq, abin, decide_true, cond_true, ite_true, ite_false, Nat.reduceEqDiff, t1, t9, t12, wd, cl, wj]
          refine ⟨_, _, L1, ?_⟩
          simp only [owf_call, behind_eq, ev, evs, putA, look_put, ite_true, ite_false, Nat.reduceEqDiff]
          refine ⟨_, _, L2, ?_⟩
          simp only [cwf_seq, cwf_ops, andThen_normal, owf_nil, o_p, owf_call, behind_eq, bo_eq, optQ_some, pop, popQ, ev, evs, putA, look_put, abinF_eq, abin, decide_true, cond_true, ite_true, ite_false, Nat.reduceEqDiff, t0, t1, t12, wk]
          refine ⟨_, _, F1, ?_⟩
          simp only [o_p, owf_call, behind_eq, bo_eq, optQ_some, pop, popQ, ev, evs, putA, look_put, ite_true, ite_false, Nat.reduceEqDiff]
          refine ⟨_, _, F2, ?_⟩
          simp only [cwf_ops, c_false, cwf_skip, andThen_normal, blockQ_normal, roundQ_normal, owf_nil, o_p, behind_eq, bo_eq, optQ_some, pop, popQ, ev, putA, look_put, isB_false, abinF_eq, abin, decide_true, cond_true, ite_true, ite_false, Bool.not_true, Bool.not_false, Nat.reduceEqDiff, true_and, t0, t1, t2, t3, t9, t12, t94, t95, wj]
          exact ⟨d - (j + 1), by omega, j + 1, us7, rfl, by omega, rfl, w7, n7, s7⟩
        · have cl : ((j : Int) < ((d - 1 : Nat) : Int)) = False := by simp; omega
          obtain ⟨k5, h7, F1, F2, ⟨us7, w7, n7⟩, s7⟩ := slot h6 sk
          have eto : hi = to := by rw [← hto, if_neg jl]
          rw [← eto] at F2
          simp only [cwf_seq, cwf_ops, c_true, cwf_skip, cwf_block, andThen_normal, owf_nil, o_p, owf_call, bo_eq, optQ_some, pop, popQ, ev, evs, putA, look_put, isB_true, abinF_eq, abin, decide_true, cond_true, ite_true, ite_false, Nat.reduceEqDiff, t1, t2, t3, t9, t94, t95, cj, c0]
          refine ⟨_, _, K1, ?_⟩
          simp only [owf_call, behind_eq, ev, evs, putA, look_put, ite_true, ite_false, Nat.reduceEqDiff]
          refine ⟨_, _, K2, ?_⟩
          simp only [cwf_seq, cwf_ops, c_false, cwf_skip, andThen_normal, owf_nil, o_p, owf_call, behind_eq, bo_eq, optQ_some, pop, popQ, ev, evs, putA, look_put, isB_false, abinF_eq, abin, decide_true, decide_false, cond_true, ite_true, ite_false, Bool.not_false, Nat.reduceEqDiff, t0, t1, t12, wd, cl]
          refine ⟨_, _, F1, ?_⟩
          simp only [o_p, owf_call, behind_eq, bo_eq, optQ_some, pop, popQ, ev, evs, putA, look_put, ite_true, ite_false, Nat.reduceEqDiff]
          refine ⟨_, _, F2, ?_⟩
          simp only [cwf_ops, c_false, cwf_skip, andThen_normal, blockQ_normal, roundQ_normal, owf_nil, o_p, behind_eq, bo_eq, optQ_some, pop, popQ, ev, putA, look_put, isB_false, abinF_eq, abin, decide_true, cond_true, ite_true, ite_false, Bool.not_true, Bool.not_false, Nat.reduceEqDiff, true_and, t0, t1, t2, t3, t9, t12, t94, t95, wj]
          exact ⟨d - (j + 1), by omega, j + 1, us7, rfl, by omega, rfl, w7, n7, s7⟩
    · have hjd : j = d := by omega
      have cj : ((j : Int) < d) = False := by simp; omega
      simp only [cwf_seq, cwf_ops, cwf_ret, c_false, cwf_exit, andThen_normal, andThen_exit, blockQ_exit, roundQ_exit, fnQ_ret, owf_nil, o_p, bo_eq, optQ_some, pop, popQ, ev, putA, look_put, isB_false, abinF_eq, abin, resAll, resA, mkRes1, decide_true, decide_false, cond_true, ite_true, ite_false, Bool.not_false, Nat.reduceEqDiff, Option.some.injEq, exists_eq_left', true_and, t94, t95, cj]
      rw [tail_marks h0 h4 s4.marks]
      rw [hjd, hd, List.take_length, ← hd] at w4
      exact ⟨⟨us', w4, n4⟩, s4⟩
end
end
end Go.Proofs.Ytedldiimhbebdaa.Ai
