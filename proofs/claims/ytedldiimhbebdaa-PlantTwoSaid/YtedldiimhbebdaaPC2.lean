/- What lay comes to. -/
import Derived.Test.YtedldiimhbebdaaPB
namespace Go.Proofs.Ytedldiimhbebdaa.Ai
open Go.Proofs.Ytedldiimhbebdaa
noncomputable section
open Go.RowKit

def flat : List Pr → List Value
  | [] => []
  | p :: l => I p.1 :: I p.2 :: flat l

theorem flat_len : ∀ l : List Pr, (flat l).length = l.length * 2
  | [] => rfl
  | p :: l => by simp [flat, flat_len l]; omega

theorem flat_key : ∀ (l : List Pr) (i : Nat) (hi : i < l.length), (flat l)[i * 2]? = some (I l[i].1)
  | p :: l, 0, _ => rfl
  | p :: l, i + 1, hi => by
    have := flat_key l i (by simpa using hi)
    rw [show (i + 1) * 2 = i * 2 + 1 + 1 by omega, flat, List.getElem?_cons_succ, List.getElem?_cons_succ, this]
    rfl

theorem flat_val : ∀ (l : List Pr) (i : Nat) (hi : i < l.length), (flat l)[i * 2 + 1]? = some (I l[i].2)
  | p :: l, 0, _ => rfl
  | p :: l, i + 1, hi => by
    have := flat_val l i (by simpa using hi)
    rw [show (i + 1) * 2 + 1 = i * 2 + 1 + 1 + 1 by omega, flat, List.getElem?_cons_succ, List.getElem?_cons_succ, this]
    rfl

theorem flat_drop : ∀ (l : List Pr) (i : Nat), flat (l.drop i) = (flat l).drop (i * 2)
  | l, 0 => by simp
  | [], i + 1 => by simp [flat]
  | p :: l, i + 1 => by
    rw [List.drop_succ_cons, flat_drop l i, show (i + 1) * 2 = i * 2 + 1 + 1 by omega, flat, List.drop_succ_cons, List.drop_succ_cons]

theorem flat_take : ∀ (l : List Pr) (i : Nat), flat (l.take i) = (flat l).take (i * 2)
  | l, 0 => by simp [flat]
  | [], i + 1 => by simp [flat]
  | p :: l, i + 1 => by
    rw [List.take_succ_cons, flat, flat_take l i, show (i + 1) * 2 = i * 2 + 1 + 1 by omega, flat, List.take_succ_cons, List.take_succ_cons]

/-- the numbers of the ideal shape, as the functions tell them -/
structure Num (P : Program) : Prop where
  deg : ∀ n : Nat, n ≤ 120 → ∀ h, Fact P 71 [I n] h (I (degN n)) h
  frm : ∀ n i : Nat, 2 ≤ n → n ≤ 120 → i < degN n → ∀ h, Fact P 94 [I n, I i] h (I (fromN n i)) h
  siz : ∀ n i : Nat, 2 ≤ n → n ≤ 120 → i < degN n → ∀ h, Fact P 95 [I n, I i] h (I (sizeN n i)) h
  cel : ∀ n : Nat, n ≤ 120 → ∀ h, Fact P 39 [I n] h (I (cellsN n)) h

theorem kids_mono (lay : List Pr → Nat → Int × List Int) (l : List Pr) (u : Nat) {i j : Nat} (h : i ≤ j) : (kidsF lay l u i).2.length ≤ (kidsF lay l u j).2.length := by
  induction h with
  | refl => exact Nat.le_refl _
  | step _ ih => refine Nat.le_trans ih ?_; simp [kidsF]

section
variable {P : Program} {tab : Nat → Option AFunc} (hT : TabOk P tab) (H : Has tab) (Nu : Num P)
include hT H

theorem lay_nil {h : Heap} {b : Nat} {u : Option Nat} {C : List Int} {z c o r : Int} (m : MemAt h b u C z c o r) {base : Option Addr} {cap : Nat} (hn : (C.length : Int) + 1 ≤ z) (hz : z ≤ 65536) (hc : 0 ≤ c ∧ c < 1000000000) :
    FSpec P 63 [.pointer (some ⟨b, 0, none⟩), .slice base 0 cap] h fun v h' => v = I (((C.length : Int) + 1) * 8 + 1) ∧ (∃ u', MemAt h' b u' (C ++ [0]) z (c + 1) o r ∧ (∀ x, u' = some x → u = some x ∨ h.next ≤ x)) ∧ Same h h' (fun j => j = b ∨ u = some j) := by
  refine fspec_cwf hT H.f63 rfl ?_
  simp only [af63, cwf_seq, cwf_ops, c_true, cwf_block, andThen_normal, owf_nil, o_p, owf_call, bo_eq, optQ_some, pop, popQ, ev, evs, putA, putArgs, look_put, isB_true, abinF_eq, abin, Int.cast_ofNat_Int, decide_true, cond_true, cond_false, ite_true, ite_false, Nat.reduceEqDiff, Nat.zero_add, beq_self_eq_true]
  obtain ⟨v, h1, F, rfl, hr, hs⟩ := empty_spec hT H h
  refine ⟨_, _, F, ?_⟩
  simp only [owf_call, behind_eq, ev, evs, putA, look_put, ite_true, ite_false, Nat.reduceEqDiff]
  obtain ⟨v2, h2, F2, rfl, hm, hs2⟩ := made_spec hT H (k := 1) (ws := [0]) (m.same hs (fun x => x) (fun _ _ x => x)) hr (fun e => absurd e.symm (Nat.ne_of_lt m.lt)) (by simp) hn hz hc (by omega) (by omega)
  refine ⟨_, _, F2, ?_⟩
  simp only [cwf_ret, andThen_normal, andThen_ret, blockQ_ret, fnQ_ret, owf_nil, o_p, behind_eq, bo_eq, optQ_some, pop, popQ, ev, putA, look_put, resAll, resA, mkRes1, ite_true, ite_false, Nat.reduceEqDiff, Option.some.injEq, exists_eq_left', true_and]
  have s3 : Same h h2 (fun j => j = b ∨ u = some j) := (hs.mono (T := fun j => j = b ∨ u = some j) (fun _ x => x.elim)).trans hs2 (fun _ _ x => x)
  rw [tail_marks h h2 s3.marks]
  obtain ⟨u', hm1, hm2⟩ := hm
  exact ⟨⟨u', hm1, fun y hy => (hm2 y hy).imp_right (fun e => Nat.le_trans hs.next e)⟩, s3⟩

theorem lay_one {h : Heap} {b : Nat} {u : Option Nat} {C : List Int} {z c o r : Int} (m : MemAt h b u C z c o r) {x p cap : Nat} {q : Pr} (hl : RdAt h x p 2 1 cap (flat [q])) (hn : (C.length : Int) + 2 ≤ z) (hz : z ≤ 65536) (hc : 0 ≤ c ∧ c < 1000000000) :
    FSpec P 63 [.pointer (some ⟨b, 0, none⟩), .slice (some ⟨x, p, none⟩) 1 cap] h fun v h' => v = I (((C.length : Int) + 1) * 8 + 2) ∧ (∃ u', MemAt h' b u' (C ++ [q.1, q.2]) z (c + 1) o r ∧ (∀ x, u' = some x → u = some x ∨ h.next ≤ x)) ∧ Same h h' (fun j => j = b ∨ u = some j) := by
  refine fspec_cwf hT H.f63 rfl ?_
  obtain ⟨v, h1, F, rfl, hr, hs⟩ := leaf_spec hT H h q.1 q.2
  obtain ⟨v2, h2, F2, rfl, hm, hs2⟩ := made_spec hT H (k := 2) (ws := [q.1, q.2]) (m.same hs (fun x => x) (fun _ _ x => x)) hr (fun e => absurd e.symm (Nat.ne_of_lt m.lt)) (by simp) hn hz hc (by omega) (by omega)
  have c0 : ((1 : Int) == 0) = false := rfl
  have c1 : ((1 : Int) == 1) = true := rfl
  have r0 : h.rd x p = some (I q.1) := hl.rd (i := 0) (by omega)
  have r1 : h.rd x (p + 1) = some (I q.2) := hl.rd (i := 1) (by omega)
  simp only [af63, cwf_seq, cwf_ops, c_true, c_false, cwf_block, cwf_draw, andThen_normal, owf_nil, o_p, bo_eq, bd_eq, optQ_some, d_p, d_r, pop, popQ, rop_load1, ldV_ptr, ev, putA, putArgs, look_put, isB_true, isB_false, abinF_eq, abin, Int.reduceLT, Int.reduceLE, Int.reduceToNat, Nat.zero_mul, Nat.add_zero, Int.cast_ofNat_Int, inB_eq, decide_true, cond_true, cond_false, ite_true, ite_false, Bool.and_true, Bool.not_false, Nat.reduceEqDiff, Nat.zero_add, c0, c1]
  refine ⟨cfOf 96 _ h _ h1 (cfOf 97 _ h1 _ h2 cf00), cfOf_ok F (cfOf_ok F2 cf00_ok), ?_⟩
  have g1 := @cfOf_eq 96 [I q.1, I q.2] h (.slice (some ⟨h.next, 0, none⟩) 2 2) h1 (cfOf 97 [.pointer (some ⟨b, 0, none⟩), I 2, .slice (some ⟨h.next, 0, none⟩) 2 2] h1 (I (((C.length : Int) + 1) * 8 + 2)) h2 cf00)
  have g2 : cfOf 96 [I q.1, I q.2] h (.slice (some ⟨h.next, 0, none⟩) 2 2) h1 (cfOf 97 [.pointer (some ⟨b, 0, none⟩), I 2, .slice (some ⟨h.next, 0, none⟩) 2 2] h1 (I (((C.length : Int) + 1) * 8 + 2)) h2 cf00) (.fn 97) [.pointer (some ⟨b, 0, none⟩), I 2, .slice (some ⟨h.next, 0, none⟩) 2 2] h1 = some (I (((C.length : Int) + 1) * 8 + 2), h2) := by rw [cfOf_ne (by decide)]; exact cfOf_eq
  simp only [cwf_ret, andThen_normal, andThen_ret, blockQ_ret, fnQ_ret, bd_eq, bd2_eq, optQ_some, opt2_some, dwf_nil, d_p, d_r, d_call, pop, popQ, rop_load1, ldV_ptr, ev, evs, putA, look_put, resAll, resA, mkRes1, List.length_cons, List.length_nil, Int.reduceLT, Int.reduceLE, Int.reduceToNat, Nat.zero_mul, Nat.add_zero, Int.cast_ofNat_Int, inB_eq, decide_true, cond_true, ite_true, ite_false, Bool.and_true, Nat.reduceEqDiff, Nat.reduceAdd, Nat.zero_add, Option.some.injEq, exists_eq_left', true_and, r0, r1, g1, g2]
  have s3 : Same h h2 (fun j => j = b ∨ u = some j) := (hs.mono (T := fun j => j = b ∨ u = some j) (fun _ x => x.elim)).trans hs2 (fun _ _ x => x)
  rw [tail_marks h h2 s3.marks]
  obtain ⟨u', hm1, hm2⟩ := hm
  exact ⟨⟨u', hm1, fun y hy => (hm2 y hy).imp_right (fun e => Nat.le_trans hs.next e)⟩, s3⟩

include Nu

/-- what is kept from child to child -/
structure LayI (h : Heap) (b x p cap : Nat) (u : Option Nat) (C : List Int) (z c o r : Int) (f : Nat) (l : List Pr) (i : Nat) (ts : T Value) (h' : Heap) : Prop where
  t0 : look ts 0 = .pointer (some ⟨b, 0, none⟩)
  t1 : look ts 1 = .slice (some ⟨x, p, none⟩) l.length cap
  t5 : look ts 5 = I l.length
  t32 : look ts 32 = I (degN l.length)
  t33 : look ts 33 = I i
  le : i ≤ degN l.length
  ex : ∃ uk uc u' c', look ts 6 = ownSl uk (i - 1) ∧ look ts 7 = ownSl uc i ∧ OwnAt h' uk 1 (i - 1) ((keysF l i).map I) ∧ OwnAt h' uc 1 i ((kidsF (layF f) l C.length i).1.map I) ∧
    MemAt h' b u' (C ++ (kidsF (layF f) l C.length i).2) z c' o r ∧ c ≤ c' ∧ c' ≤ c + (kidsF (layF f) l C.length i).2.length ∧ (∀ y, u' = some y → u = some y ∨ h.next ≤ y) ∧ (∀ y, uk = some y → h.next ≤ y ∧ u' ≠ some y) ∧ (∀ y, uc = some y → h.next ≤ y ∧ u' ≠ some y ∧ uk ≠ some y)
  same : Same h h' (fun j => j = b ∨ u = some j)

theorem lay_spec : ∀ (f : Nat) (l : List Pr) (h : Heap) (b x p cap : Nat) (u : Option Nat) (C : List Int) (z c o r : Int), l.length < f → l.length ≤ 120 → 1 ≤ l.length → MemAt h b u C z c o r → RdAt h x p 2 l.length cap (flat l) → x ≠ b → u ≠ some x → (C.length : Int) + cellsN l.length ≤ z → z ≤ 65536 → 0 ≤ c → c + cellsN l.length < 1000000000 →
    FSpec P 63 [.pointer (some ⟨b, 0, none⟩), .slice (some ⟨x, p, none⟩) l.length cap] h fun v h' => v = I (layF f l C.length).1 ∧ (∃ u' c', MemAt h' b u' (C ++ (layF f l C.length).2) z c' o r ∧ c ≤ c' ∧ c' ≤ c + cellsN l.length ∧ (∀ y, u' = some y → u = some y ∨ h.next ≤ y)) ∧ Same h h' (fun j => j = b ∨ u = some j) := by
  intro f
  induction f with
  | zero => intro l h b x p cap u C z c o r hf; omega
  | succ f ih =>
    intro l h b x p cap u C z c o r hf hl h1 m hr hxb hxu hroom hz hc0 hc1
    by_cases h2 : 2 ≤ l.length
    · have pn := partN h2 hl
      rw [layF_two h2]
      refine fspec_cwf hT H.f63 rfl ?_
      have c0 : ((l.length : Int) == 0) = false := by rw [beq_eq_false_iff_ne]; omega
      have c1 : ((l.length : Int) == 1) = false := by rw [beq_eq_false_iff_ne]; omega
      simp only [af63, cwf_seq, cwf_ops, c_false, cwf_skip, cwf_block, andThen_normal, blockQ_normal, owf_nil, o_p, owf_call, bo_eq, optQ_some, pop, popQ, ev, evs, putA, putArgs, look_put, isB_false, abinF_eq, abin, decide_true, cond_true, cond_false, ite_true, ite_false, Bool.not_false, Nat.reduceEqDiff, Nat.zero_add, c0, c1]
      refine ⟨_, _, Nu.deg l.length hl h, ?_⟩
      simp only [cwf_block, cwf_loop, andThen_normal, owf_nil, o_p, behind_eq, bo_eq, optQ_some, pop, popQ, ev, putA]
      refine cw_loop (fun k ts h' => ∃ i, k = degN l.length - i ∧ LayI h b x p cap u C z c o r f l i ts h') ?_ (n := degN l.length) ⟨0, rfl, ?_⟩
      · rintro k ts h' ⟨i, rfl, L⟩
        obtain ⟨uk, uc, u', c', t6, t7, ok, oc, mm, b1, b2, hu', gk, gc⟩ := L.ex
        have hb1 : b < h.next := m.lt
        have hlen := layF_len (f + 1) l C.length hf hl
        rw [layF_two h2] at hlen
        simp only [List.length_append, List.length_cons, List.length_nil, keysF_len, kidsF_one] at hlen
        by_cases hi : i < degN l.length
        · have hnext := pn.next i hi
          have hone := pn.one i hi
          have hless := pn.less i hi
          have htop := pn.top i hi
          have d11 := pn.deg11
          have hpl := partL_len h2 hl hi
          have ci : ((i : Int) < degN l.length) = True := by simp [hi]
          have wfs : wrapF .i64 ((fromN l.length i : Int) + sizeN l.length i) = ((fromN l.length i + sizeN l.length i : Nat) : Int) := by rw [wrapI] <;> omega
          have wi : wrapF .i64 ((i : Int) + 1) = ((i + 1 : Nat) : Int) := by rw [wrapI] <;> omega
          have hcap := hr.cap
          have hmono : (kidsF (layF f) l C.length i).2.length + cellsN (partL l i).length ≤ (kidsF (layF f) l C.length (degN l.length)).2.length := by
            have e : (kidsF (layF f) l C.length (i + 1)).2.length = (kidsF (layF f) l C.length i).2.length + cellsN (partL l i).length := by
              simp only [kidsF, List.length_append]
              rw [layF_len f (partL l i) _ (by omega) (by omega)]
            rw [← e]
            exact kids_mono _ _ _ (by omega)
          have hCi : (C ++ (kidsF (layF f) l C.length i).2).length = C.length + (kidsF (layF f) l C.length i).2.length := by simp
          have hCz : ((C ++ (kidsF (layF f) l C.length i).2).length : Int) = (C.length : Int) + (kidsF (layF f) l C.length i).2.length := by rw [hCi]; simp
          have hxu' : u' ≠ some x := fun e => by
            rcases hu' x e with e2 | e2
            · exact hxu e2
            · have := hr.lt; omega
          refine cwf_cw ?_
          simp only [cwf_seq, cwf_ops, c_true, cwf_skip, cwf_block, andThen_normal, owf_nil, o_p, owf_call, bo_eq, optQ_some, pop, popQ, ev, evs, putA, look_put, isB_true, abinF_eq, abin, decide_true, cond_true, ite_true, ite_false, Nat.reduceEqDiff, L.t33, L.t32, ci, L.t5]
          refine ⟨_, _, Nu.frm l.length i h2 hl hi _, ?_⟩
          have hrk := hr.same L.same (fun hs => hs.elim hxb hxu)
          have l5 := L.t5
          rcases Nat.eq_zero_or_pos i with i0 | ip
          · have k2e : ∃ k2, k2 = h' := ⟨_, rfl⟩
            obtain ⟨k2, k2e⟩ := k2e
            have uk2e : ∃ uk2, uk2 = uk := ⟨_, rfl⟩
            obtain ⟨uk2, uk2e⟩ := uk2e
            have i0 : ((i : Int) > 0) = False := by simp; omega
            have s12 : Same h' k2 (fun j => uk = some j) := k2e ▸ Same.refl _ _
            have s2 : Same h k2 (fun j => j = b ∨ u = some j) := k2e ▸ L.same
            have mk2 : MemAt k2 b u' (C ++ (kidsF (layF f) l C.length i).2) z c' o r := k2e ▸ mm
            have oc2 : OwnAt k2 uc 1 i ((kidsF (layF f) l C.length i).1.map I) := k2e ▸ oc
            have hsub' := (hr.same s2 (fun hs => hs.elim hxb hxu)).sub (lo := fromN l.length i) (hi := fromN l.length i + sizeN l.length i) (by omega) htop
            have hsub : RdAt k2 x (p + fromN l.length i * 2) 2 (partL l i).length (cap - fromN l.length i) (flat (partL l i)) := by
              rw [partL, flat_take, flat_drop]
              have e : fromN l.length i + sizeN l.length i - fromN l.length i = sizeN l.length i := by omega
              rw [e] at hsub'
              have e2 := hpl
              rw [partL] at e2
              rw [e2]; exact hsub'
            have sl2 := (hr.same s2 (fun hs => hs.elim hxb hxu)).cut (lo := fromN l.length i) (hi := fromN l.length i + sizeN l.length i) (by omega) htop (by omega)
            have e : fromN l.length i + sizeN l.length i - fromN l.length i = sizeN l.length i := by omega
            rw [e] at sl2
            have gk2 : ∀ y, uk2 = some y → h.next ≤ y ∧ u' ≠ some y := fun y hy => gk y (uk2e ▸ hy)
            have gck : ∀ y, uc = some y → ¬ uk2 = some y := fun y hy e => (gc y hy).2.2 (uk2e ▸ e)
            have ok2 : OwnAt k2 uk2 1 (i + 1 - 1) ((keysF l (i + 1)).map I) := by
              have e1 : keysF l (i + 1) = keysF l i := by
                have : i = 0 := by omega
                subst this; rfl
              have e2 : i + 1 - 1 = i - 1 := by omega
              rw [e1, e2, k2e, uk2e]; exact ok
            have t6 : look ts 6 = ownSl uk2 (i + 1 - 1) := by
              have e2 : i + 1 - 1 = i - 1 := by omega
              rw [e2, uk2e]; exact t6
            rw [← k2e]
            obtain ⟨v3, h3, F3, rfl, ⟨u3, c3, m3, b31, b32, n3⟩, s3⟩ := ih (partL l i) k2 b x (p + fromN l.length i * 2) (cap - fromN l.length i) u' _ z c' o r (by omega) (by omega) (by omega) mk2 hsub hxb hxu' (by omega) hz (by omega) (by omega)
            have sk3 : Same h h3 (fun j => j = b ∨ u = some j) := s2.trans s3 (fun j hj hs => hs.elim .inl (fun e => by
              rcases hu' j e with e2 | e2
              · exact .inr e2
              · omega))
            have hcell : RdAt (h3.new ⟨[I (layF f (partL l i) (C ++ (kidsF (layF f) l C.length i).2).length).1], 1, 1, true, false⟩) h3.next 0 1 1 1 [I (layF f (partL l i) (C ++ (kidsF (layF f) l C.length i).2).length).1] := RdAt.fresh h3 [I (layF f (partL l i) (C ++ (kidsF (layF f) l C.length i).2).length).1] 1 1 true false rfl
            have s4 : Same h3 (h3.new ⟨[I (layF f (partL l i) (C ++ (kidsF (layF f) l C.length i).2).length).1], 1, 1, true, false⟩) (fun _ => False) := Same.new
            have oc3 : OwnAt h3 uc 1 i ((kidsF (layF f) l C.length i).1.map I) := oc2.same s3 (fun y hy hs => hs.elim (fun e => by have := (gc y hy).1; omega) (fun e => (gc y hy).2.1 e))
            obtain ⟨uc', k5, ha5, oc5, s5, n5⟩ := app_own (bytes := 8) (oc3.same s4 (fun _ _ x => x)) hcell.src rfl rfl (Nat.le_refl _) (by omega) (by omega)
            have t5 : Same h3 k5 (fun j => uc = some j) := (s4.mono (T := fun j => uc = some j) (fun _ x => x.elim)).trans s5 (fun _ _ x => x)
            have sk5 : Same h k5 (fun j => j = b ∨ u = some j) := sk3.trans t5 (fun j hj e => by have := (gc j e).1; omega)
            have hpl' := hpl
            simp only [cwf_seq, cwf_ops, c_false, cwf_skip, andThen_normal, owf_nil, o_p, owf_call, behind_eq, bo_eq, optQ_some, pop, popQ, ev, evs, putA, look_put, isB_false, abinF_eq, abin, decide_true, decide_false, cond_true, ite_true, ite_false, Bool.not_false, Nat.reduceEqDiff, L.t0, L.t1, L.t5, t7, i0]
            refine ⟨_, _, Nu.siz l.length i h2 hl hi _, ?_⟩
            simp only [o_p, o_r, owf_call, behind_eq, bo_eq, optQ_some, pop, popQ, rop_slice, ev, evO, evs, putA, look_put, abinF_eq, abin, decide_true, cond_true, ite_true, ite_false, Nat.reduceEqDiff, wfs, sl2]
            rw [← hpl]
            refine ⟨_, _, F3, ?_⟩
            simp only [cwf_ops, andThen_normal, blockQ_normal, roundQ_normal, owf_nil, o_p, o_e, behind_eq, bo_eq, optQ_some, opt2_some, pop, popQ, ev, putA, look_put, abinF_eq, abin, eop_app, eop_buildS, bldS_some, evP_nil, evP_cons, fillA_nil, fillA_one, List.length_cons, List.length_nil, List.set_cons_zero, Nat.lt_add_one, Nat.mul_one, scalar_int, decide_true, cond_true, ite_true, ite_false, Nat.reduceEqDiff, Nat.zero_add, L.t33, ha5, wi]
            have un3 : ∀ y, u3 = some y → y < h3.next := fun y hy => (m3.use y hy).2.2.1
            have un : ∀ y, u' = some y → y < h'.next := fun y hy => (mm.use y hy).2.2.1
            have cn : ∀ y, uc = some y → y < h'.next := fun y hy => (oc.use y hy).2.1
            have kn : ∀ y, uk2 = some y → y < k2.next := fun y hy => (ok2.use y hy).2.1
            have nx1 := s12.next
            have nx3 := s3.next
            have nx4 := s4.next
            have nx5 := s5.next
            have nx0 := L.same.next
            have nn : (h3.new ⟨[I (layF f (partL l i) (C ++ (kidsF (layF f) l C.length i).2).length).1], 1, 1, true, false⟩).next = h3.next + 1 := rfl
            refine ⟨degN l.length - (i + 1), by omega, i + 1, rfl, ⟨by simp only [look_put, ite_false, Nat.reduceEqDiff, L.t0], by simp only [look_put, ite_false, Nat.reduceEqDiff, L.t1], by simp only [look_put, ite_false, Nat.reduceEqDiff, L.t5], by simp only [look_put, ite_false, Nat.reduceEqDiff, L.t32], by simp only [look_put, ite_true, ite_false, Nat.reduceEqDiff], by omega, ⟨uk2, uc', u3, c3, ?_, by simp only [look_put, ite_true, ite_false, Nat.reduceEqDiff], ?_, ?_, ?_, by omega, ?_, ?_, ?_, ?_⟩, sk5⟩⟩
            · simp only [look_put, ite_false, Nat.reduceEqDiff, t6] <;> rfl
            · refine (ok2.same s3 (fun y hy hs => hs.elim (fun e => ?_) (fun e => (gk2 y hy).2 e))).same t5 (fun y hy e => ?_)
              · have := (gk2 y hy).1; omega
              · exact (gck y e).elim hy
            · have e : (kidsF (layF f) l C.length (i + 1)).1.map I = (kidsF (layF f) l C.length i).1.map I ++ [I (layF f (partL l i) (C ++ (kidsF (layF f) l C.length i).2).length).1] := by
                simp only [kidsF, List.map_append, List.map_cons, List.map_nil, hCi]
              rw [e]; exact oc5
            · have e : C ++ (kidsF (layF f) l C.length (i + 1)).2 = C ++ (kidsF (layF f) l C.length i).2 ++ (layF f (partL l i) (C ++ (kidsF (layF f) l C.length i).2).length).2 := by
                simp only [kidsF, hCi, List.append_assoc]
              rw [e]
              exact m3.same t5 (fun e => by have := (gc b e).1; omega) (fun y hy e => by
                have h1 := gc y e
                rcases n3 y hy with e2 | e2
                · exact h1.2.1 e2
                · have := cn y e; omega)
            · simp only [kidsF, List.length_append]
              have e := layF_len f (partL l i) (C.length + (kidsF (layF f) l C.length i).2.length) (by omega) (by omega)
              rw [e]; omega
            · intro y hy
              rcases n3 y hy with e2 | e2
              · exact hu' y e2
              · exact .inr (by omega)
            · intro y hy
              refine ⟨(gk2 y hy).1, fun e => ?_⟩
              rcases n3 y e with e2 | e2
              · exact (gk2 y hy).2 e2
              · have := kn y hy; omega
            · intro y hy
              rcases n5 y hy with e | e
              · refine ⟨(gc y e).1, fun e1 => ?_, fun e1 => (gck y e).elim e1⟩
                rcases n3 y e1 with e2 | e2
                · exact (gc y e).2.1 e2
                · have := cn y e; omega
              · refine ⟨by omega, fun e1 => ?_, fun e1 => ?_⟩
                · have := un3 y e1; omega
                · have := kn y e1; omega
          · have i0 : ((i : Int) > 0) = True := by simp; omega
            have hfl : fromN l.length i < l.length := by omega
            have cg : ((fromN l.length i : Int) < (l.length : Int)) = True := by simp; omega
            have rk : h'.rd x (p + fromN l.length i * 2) = some (I l[fromN l.length i].1) := by
              rw [hrk.rd (by omega)]; exact flat_key l _ hfl
            have hkc : RdAt (h'.new ⟨[I l[fromN l.length i].1], 1, 1, true, false⟩) h'.next 0 1 1 1 [I l[fromN l.length i].1] := RdAt.fresh h' [I l[fromN l.length i].1] 1 1 true false rfl
            have s1 : Same h' (h'.new ⟨[I l[fromN l.length i].1], 1, 1, true, false⟩) (fun _ => False) := Same.new
            obtain ⟨uk2, k2, ha1, ok2', sa, na⟩ := app_own (bytes := 8) (ok.same s1 (fun _ _ x => x)) hkc.src rfl rfl (Nat.le_refl _) (by omega) (by omega)
            have s12 : Same h' k2 (fun j => uk = some j) := (s1.mono (T := fun j => uk = some j) (fun _ x => x.elim)).trans sa (fun _ _ x => x)
            have s2 : Same h k2 (fun j => j = b ∨ u = some j) := L.same.trans s12 (fun j hj e => by have := (gk j e).1; omega)
            have mk2 := mm.same s12 (fun e => by have := (gk b e).1; omega) (fun y hy e => (gk y e).2 hy)
            have oc2 := oc.same s12 (fun y hy e => (gc y hy).2.2 e)
            have hsub' := (hr.same s2 (fun hs => hs.elim hxb hxu)).sub (lo := fromN l.length i) (hi := fromN l.length i + sizeN l.length i) (by omega) htop
            have hsub : RdAt k2 x (p + fromN l.length i * 2) 2 (partL l i).length (cap - fromN l.length i) (flat (partL l i)) := by
              rw [partL, flat_take, flat_drop]
              have e : fromN l.length i + sizeN l.length i - fromN l.length i = sizeN l.length i := by omega
              rw [e] at hsub'
              have e2 := hpl
              rw [partL] at e2
              rw [e2]; exact hsub'
            have sl2 := (hr.same s2 (fun hs => hs.elim hxb hxu)).cut (lo := fromN l.length i) (hi := fromN l.length i + sizeN l.length i) (by omega) htop (by omega)
            have e : fromN l.length i + sizeN l.length i - fromN l.length i = sizeN l.length i := by omega
            rw [e] at sl2
            have gk2 : ∀ y, uk2 = some y → h.next ≤ y ∧ u' ≠ some y := fun y hy => by
              rcases na y hy with e | e
              · exact gk y e
              · have hq := L.same.next
                refine ⟨by rw [e, new_next]; omega, fun e2 => ?_⟩
                have := (mm.use y e2).2.2.1
                rw [e, new_next] at this; omega
            have gck : ∀ y, uc = some y → ¬ uk2 = some y := fun y hy e => by
              rcases na y e with e2 | e2
              · exact (gc y hy).2.2 e2
              · have := (oc.use y hy).2.1
                rw [e2, new_next] at this; omega
            have eki : (keysF l (i + 1)).map I = (keysF l i).map I ++ [I l[fromN l.length i].1] := by
              rw [keysF, if_neg (by omega)]
              simp [List.getElem?_eq_getElem hfl]
            have ei : i - 1 + 1 = i + 1 - 1 := by omega
            have ok2 : OwnAt k2 uk2 1 (i + 1 - 1) ((keysF l (i + 1)).map I) := by rw [eki, ← ei]; exact ok2'
            rw [ei] at ha1
            obtain ⟨v3, h3, F3, rfl, ⟨u3, c3, m3, b31, b32, n3⟩, s3⟩ := ih (partL l i) k2 b x (p + fromN l.length i * 2) (cap - fromN l.length i) u' _ z c' o r (by omega) (by omega) (by omega) mk2 hsub hxb hxu' (by omega) hz (by omega) (by omega)
            have sk3 : Same h h3 (fun j => j = b ∨ u = some j) := s2.trans s3 (fun j hj hs => hs.elim .inl (fun e => by
              rcases hu' j e with e2 | e2
              · exact .inr e2
              · omega))
            have hcell : RdAt (h3.new ⟨[I (layF f (partL l i) (C ++ (kidsF (layF f) l C.length i).2).length).1], 1, 1, true, false⟩) h3.next 0 1 1 1 [I (layF f (partL l i) (C ++ (kidsF (layF f) l C.length i).2).length).1] := RdAt.fresh h3 [I (layF f (partL l i) (C ++ (kidsF (layF f) l C.length i).2).length).1] 1 1 true false rfl
            have s4 : Same h3 (h3.new ⟨[I (layF f (partL l i) (C ++ (kidsF (layF f) l C.length i).2).length).1], 1, 1, true, false⟩) (fun _ => False) := Same.new
            have oc3 : OwnAt h3 uc 1 i ((kidsF (layF f) l C.length i).1.map I) := oc2.same s3 (fun y hy hs => hs.elim (fun e => by have := (gc y hy).1; omega) (fun e => (gc y hy).2.1 e))
            obtain ⟨uc', k5, ha5, oc5, s5, n5⟩ := app_own (bytes := 8) (oc3.same s4 (fun _ _ x => x)) hcell.src rfl rfl (Nat.le_refl _) (by omega) (by omega)
            have t5 : Same h3 k5 (fun j => uc = some j) := (s4.mono (T := fun j => uc = some j) (fun _ x => x.elim)).trans s5 (fun _ _ x => x)
            have sk5 : Same h k5 (fun j => j = b ∨ u = some j) := sk3.trans t5 (fun j hj e => by have := (gc j e).1; omega)
            have hpl' := hpl
            simp only [cwf_seq, cwf_ops, c_true, andThen_normal, owf_nil, o_p, o_r, o_e, owf_call, behind_eq, bo_eq, optQ_some, opt2_some, pop, popQ, rop_load1, ldV_ptr, ev, evs, putA, look_put, isB_true, abinF_eq, abin, eop_app, eop_buildS, bldS_some, evP_nil, evP_cons, fillA_nil, fillA_one, List.length_cons, List.length_nil, List.set_cons_zero, Nat.lt_add_one, Int.toNat_natCast, Int.natCast_nonneg, Nat.mul_one, Nat.add_zero, scalar_int, inB_eq, decide_true, cond_true, ite_true, ite_false, Bool.and_true, Nat.reduceEqDiff, Nat.zero_add, L.t0, L.t1, L.t5, t6, t7, i0, cg, rk, ha1]
            refine ⟨_, _, Nu.siz l.length i h2 hl hi _, ?_⟩
            simp only [o_p, o_r, owf_call, behind_eq, bo_eq, optQ_some, pop, popQ, rop_slice, ev, evO, evs, putA, look_put, abinF_eq, abin, decide_true, cond_true, ite_true, ite_false, Nat.reduceEqDiff, wfs, sl2]
            rw [← hpl]
            refine ⟨_, _, F3, ?_⟩
            simp only [cwf_ops, andThen_normal, blockQ_normal, roundQ_normal, owf_nil, o_p, o_e, behind_eq, bo_eq, optQ_some, opt2_some, pop, popQ, ev, putA, look_put, abinF_eq, abin, eop_app, eop_buildS, bldS_some, evP_nil, evP_cons, fillA_nil, fillA_one, List.length_cons, List.length_nil, List.set_cons_zero, Nat.lt_add_one, Nat.mul_one, scalar_int, decide_true, cond_true, ite_true, ite_false, Nat.reduceEqDiff, Nat.zero_add, L.t33, ha5, wi]
            have un3 : ∀ y, u3 = some y → y < h3.next := fun y hy => (m3.use y hy).2.2.1
            have un : ∀ y, u' = some y → y < h'.next := fun y hy => (mm.use y hy).2.2.1
            have cn : ∀ y, uc = some y → y < h'.next := fun y hy => (oc.use y hy).2.1
            have kn : ∀ y, uk2 = some y → y < k2.next := fun y hy => (ok2.use y hy).2.1
            have nx1 := s12.next
            have nx3 := s3.next
            have nx4 := s4.next
            have nx5 := s5.next
            have nx0 := L.same.next
            have nn : (h3.new ⟨[I (layF f (partL l i) (C ++ (kidsF (layF f) l C.length i).2).length).1], 1, 1, true, false⟩).next = h3.next + 1 := rfl
            refine ⟨degN l.length - (i + 1), by omega, i + 1, rfl, ⟨by simp only [look_put, ite_false, Nat.reduceEqDiff, L.t0], by simp only [look_put, ite_false, Nat.reduceEqDiff, L.t1], by simp only [look_put, ite_false, Nat.reduceEqDiff, L.t5], by simp only [look_put, ite_false, Nat.reduceEqDiff, L.t32], by simp only [look_put, ite_true, ite_false, Nat.reduceEqDiff], by omega, ⟨uk2, uc', u3, c3, ?_, by simp only [look_put, ite_true, ite_false, Nat.reduceEqDiff], ?_, ?_, ?_, by omega, ?_, ?_, ?_, ?_⟩, sk5⟩⟩
            · simp only [look_put, ite_true, ite_false, Nat.reduceEqDiff, t6] <;> rfl
            · refine (ok2.same s3 (fun y hy hs => hs.elim (fun e => ?_) (fun e => (gk2 y hy).2 e))).same t5 (fun y hy e => ?_)
              · have := (gk2 y hy).1; omega
              · exact (gck y e).elim hy
            · have e : (kidsF (layF f) l C.length (i + 1)).1.map I = (kidsF (layF f) l C.length i).1.map I ++ [I (layF f (partL l i) (C ++ (kidsF (layF f) l C.length i).2).length).1] := by
                simp only [kidsF, List.map_append, List.map_cons, List.map_nil, hCi]
              rw [e]; exact oc5
            · have e : C ++ (kidsF (layF f) l C.length (i + 1)).2 = C ++ (kidsF (layF f) l C.length i).2 ++ (layF f (partL l i) (C ++ (kidsF (layF f) l C.length i).2).length).2 := by
                simp only [kidsF, hCi, List.append_assoc]
              rw [e]
              exact m3.same t5 (fun e => by have := (gc b e).1; omega) (fun y hy e => by
                have h1 := gc y e
                rcases n3 y hy with e2 | e2
                · exact h1.2.1 e2
                · have := cn y e; omega)
            · simp only [kidsF, List.length_append]
              have e := layF_len f (partL l i) (C.length + (kidsF (layF f) l C.length i).2.length) (by omega) (by omega)
              rw [e]; omega
            · intro y hy
              rcases n3 y hy with e2 | e2
              · exact hu' y e2
              · exact .inr (by omega)
            · intro y hy
              refine ⟨(gk2 y hy).1, fun e => ?_⟩
              rcases n3 y e with e2 | e2
              · exact (gk2 y hy).2 e2
              · have := kn y hy; omega
            · intro y hy
              rcases n5 y hy with e | e
              · refine ⟨(gc y e).1, fun e1 => ?_, fun e1 => (gck y e).elim e1⟩
                rcases n3 y e1 with e2 | e2
                · exact (gc y e).2.1 e2
                · have := cn y e; omega
              · refine ⟨by omega, fun e1 => ?_, fun e1 => ?_⟩
                · have := un3 y e1; omega
                · have := kn y e1; omega
        · have hi : i = degN l.length := by have := L.le; omega
          subst hi
          have ci : ((degN l.length : Int) < degN l.length) = False := by simp
          have eK : (keysF l (degN l.length)).length = degN l.length - 1 := keysF_len l _
          have eW : (kidsF (layF f) l C.length (degN l.length)).1.length = degN l.length := kidsF_one _ _ _ _
          have d2 := pn.deg2
          have d11 := pn.deg11
          refine cwf_cw ?_
          simp only [cwf_seq, cwf_ops, c_false, cwf_exit, andThen_normal, andThen_exit, blockQ_exit, roundQ_exit, owf_nil, o_p, owf_call, bo_eq, optQ_some, pop, popQ, ev, evs, putA, look_put, isB_false, abinF_eq, abin, decide_true, decide_false, cond_true, ite_true, ite_false, Bool.not_false, Nat.reduceEqDiff, L.t33, L.t32, ci, L.t0, L.t5, t6, t7]
          obtain ⟨y, rfl⟩ : ∃ y, uk = some y := by
            cases hk : uk with
            | none => have := ok.non hk; omega
            | some y => exact ⟨y, rfl⟩
          obtain ⟨w, rfl⟩ : ∃ y, uc = some y := by
            cases hk : uc with
            | none => have := oc.non hk; omega
            | some y => exact ⟨y, rfl⟩
          obtain ⟨v1, k1, F1, x1, hx1, rfl, r1, s1⟩ := inner_spec hT H (h := h') (uk := y) (uc := w) (n := (l.length : Int)) (K := keysF l (degN l.length)) (W := (kidsF (layF f) l C.length (degN l.length)).1) (by rw [eK]; exact ok) (by rw [eW]; exact oc) (fun e => by rw [e] at eK; simp at eK; omega) (by omega) (by omega)
          rw [eK, eW] at F1
          refine ⟨_, _, F1, ?_⟩
          simp only [owf_call, behind_eq, ev, evs, putA, look_put, ite_true, ite_false, Nat.reduceEqDiff]
          have mm1 := mm.same s1 (fun x => x) (fun _ _ x => x)
          have hws : ([((kidsF (layF f) l C.length (degN l.length)).1.length : Int), (l.length : Int), 0, 0, 0] ++ keysF l (degN l.length) ++ (kidsF (layF f) l C.length (degN l.length)).1).length = 5 + (degN l.length - 1) + degN l.length := by simp only [List.length_append, List.length_cons, List.length_nil, keysF_len, kidsF_one]
          have hCl : (C ++ (kidsF (layF f) l C.length (degN l.length)).2).length = C.length + (kidsF (layF f) l C.length (degN l.length)).2.length := by simp
          have hlt := L.same.next
          obtain ⟨v2, k2, F2, rfl, ⟨u2, m2, n2⟩, s2⟩ := made_spec hT H (k := 3) mm1 r1 (fun e => by omega) (by simp) (by rw [hws, hCl]; omega) hz ⟨by omega, by omega⟩ (by omega) (by omega)
          refine ⟨_, _, F2, ?_⟩
          simp only [cwf_ret, andThen_normal, fnQ_ret, owf_nil, o_p, behind_eq, bo_eq, optQ_some, pop, popQ, ev, putA, look_put, resAll, resA, mkRes1, ite_true, ite_false, Nat.reduceEqDiff, Option.some.injEq, exists_eq_left']
          have s3 : Same h k2 (fun j => j = b ∨ u = some j) := (L.same.trans s1 (fun _ _ x => x.elim)).trans s2 (fun j hj hs => hs.elim .inl (fun e => by
            rcases hu' j e with e2 | e2
            · exact .inr e2
            · omega))
          rw [tail_marks h k2 s3.marks]
          refine ⟨by rw [hCl], ⟨u2, c' + 1, ?_, by omega, by omega, fun y hy => ?_⟩, s3⟩
          · rw [List.append_assoc] at m2
            rw [eW] at m2
            exact m2
          · rcases n2 y hy with e | e
            · exact hu' y e
            · exact .inr (Nat.le_trans L.same.next (Nat.le_trans s1.next e))
      · refine ⟨by simp only [look_put, ite_true, ite_false, Nat.reduceEqDiff], by simp only [look_put, ite_true, ite_false, Nat.reduceEqDiff], by simp only [look_put, ite_true, ite_false, Nat.reduceEqDiff], by simp only [look_put, ite_true, ite_false, Nat.reduceEqDiff], by simp only [look_put, Int.cast_ofNat_Int, ite_true, ite_false, Nat.reduceEqDiff] <;> rfl, Nat.zero_le _, ⟨none, none, u, c, by simp only [look_put, Nat.reduceSub, ite_true, ite_false, Nat.reduceEqDiff] <;> rfl, by simp only [look_put, ite_true, ite_false, Nat.reduceEqDiff] <;> rfl, OwnAt.nil _ _, OwnAt.nil _ _, by simpa [kidsF] using m, Int.le_refl _, by simp [kidsF], fun y hy => .inl hy, by simp, by simp⟩, Same.refl _ _⟩
    · match l, h1, h2 with
      | [q], _, _ =>
        obtain ⟨v, h', F, rfl, ⟨u', g1, g2⟩, g3⟩ := lay_one hT H m hr (by simpa [cellsN, cellsF] using hroom) hz ⟨hc0, by omega⟩
        exact ⟨_, _, F, rfl, ⟨u', c + 1, g1, by omega, by simp [cellsN, cellsF], g2⟩, g3⟩
      | _ :: _ :: _, _, h2 => simp at h2
end
end
end Go.Proofs.Ytedldiimhbebdaa.Ai
