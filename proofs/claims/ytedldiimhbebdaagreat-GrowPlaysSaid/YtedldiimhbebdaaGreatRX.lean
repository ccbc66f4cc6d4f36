/- Texts put together: R0, RA, RB, RC, RD, RE, RF, RG. -/
import Derived.Test.YtedldiimhbebdaaGreatGX
import Derived.Test.YtedldiimhbebdaaGreatTabOk
import Derived.Test.YtedldiimhbebdaaGreatQX
import Derived.Test.YtedldiimhbebdaaGreatTh2
/- The document's procedure that makes a tree, gone through from its beginning with what its accesses told: in plain lists and numbers. -/
namespace Go.Proofs.YtedldiimhbebdaaGreat.Ai
open Go.Proofs.YtedldiimhbebdaaGreat
noncomputable section

/-- the words that are nobody's children yet, behind a record that was made there -/
def wstep (W : List Int) (l : List Pr) (a : Int) : List Int := W.take (W.length - kidsOf l) ++ [a * 8 + kindOf l]

/-- where it is: all records made (the words; what was told and not used), ahead of one, or one was refused -/
inductive RG where
  | made (W : List Int) (rest : List Int)
  | ahead (ws : List Int)
  | no

def rgo (W : List Int) (O : List (List Pr)) (D : List Int) : RG := match O with
  | [] => .made W D
  | l :: O => match D with
    | [] => .ahead (recOf l (W.drop (W.length - kidsOf l)))
    | a :: D => if 0 < a then rgo (wstep W l a) O D else .no
termination_by structural O

def RG.andThen (x : RG) (f : List Int → List Int → RG) : RG := match x with
  | .made W D => f W D
  | x => x

theorem rgo_app : ∀ (W : List Int) (A B : List (List Pr)) (D : List Int), rgo W (A ++ B) D = (rgo W A D).andThen (fun W' D' => rgo W' B D')
  | W, [], B, D => rfl
  | W, l :: A, B, [] => rfl
  | W, l :: A, B, a :: D => by
    show (if 0 < a then rgo (wstep W l a) (A ++ B) D else .no) = (if 0 < a then rgo (wstep W l a) A D else .no).andThen _
    by_cases h : 0 < a
    · rw [if_pos h, if_pos h]; exact rgo_app _ A B D
    · rw [if_neg h, if_neg h]; rfl

theorem rgo_step (W : List Int) (l : List Pr) (O : List (List Pr)) (a : Int) (D : List Int) (h : 0 < a) : rgo W (l :: O) (a :: D) = rgo (wstep W l a) O D := if_pos h

theorem gstep_w (C W : List Int) (l : List Pr) : (gstep (C, W) l).2 = wstep W l ((C.length : Int) + 1) := rfl

/-- what is left of what was told is its end -/
theorem rgo_rest : ∀ (O : List (List Pr)) (W D W' D' : List Int), rgo W O D = .made W' D' → D = D.take O.length ++ D' ∧ D'.length + O.length = D.length ∧ ∀ a ∈ D.take O.length, 0 < a
  | [], W, D, W', D', h => by cases h; simp
  | l :: O, W, [], W', D', h => by cases h
  | l :: O, W, a :: D, W', D', h => by
    by_cases ha : 0 < a
    · rw [rgo_step _ _ _ _ _ ha] at h
      obtain ⟨h1, h2, h3⟩ := rgo_rest O _ _ _ _ h
      refine ⟨?_, by simp only [List.length_cons]; omega, ?_⟩
      · show a :: D = (a :: D).take (O.length + 1) ++ D'
        rw [List.take_succ_cons, List.cons_append, ← h1]
      · intro x hx
        have hx : x ∈ (a :: D).take (O.length + 1) := hx
        rw [List.take_succ_cons, List.mem_cons] at hx
        rcases hx with rfl | hx
        · exact ha
        · exact h3 x hx
    · have : rgo W (l :: O) (a :: D) = .no := if_neg ha
      rw [this] at h; cases h

/-- a tree's records leave one word more -/
theorem rgo_ord : ∀ (f : Nat) (l : List Pr), l.length < f → l.length ≤ 120 → ∀ (W D W' D' : List Int), rgo W (ordF f l) D = .made W' D' → ∃ a, W' = W ++ [a * 8 + kindOf l] ∧ D[(ordF f l).length - 1]? = some a
  | 0, l, hf, _ => by omega
  | f + 1, l, hf, hl => by
    intro W D W' D' h
    rw [ordF, rgo_app] at h
    have fin : ∀ (U E : List Int), U.length = W.length + kidsOf l → U.take W.length = W → E = D.drop (ordK (ordF f) l (kidsOf l)).length → rgo U [l] E = .made W' D' → ∃ a, W' = W ++ [a * 8 + kindOf l] ∧ D[(ordK (ordF f) l (kidsOf l) ++ [l]).length - 1]? = some a := by
      intro U E hU hW hE h
      cases E with
      | nil => cases h
      | cons a E =>
        by_cases ha : 0 < a
        · rw [rgo_step _ _ _ _ _ ha] at h
          cases h
          refine ⟨a, ?_, ?_⟩
          · unfold wstep
            rw [hU, Nat.add_sub_cancel, hW]
          · rw [List.length_append, List.length_singleton, Nat.add_sub_cancel]
            have := List.getElem?_drop (xs := D) (i := (ordK (ordF f) l (kidsOf l)).length) (j := 0)
            rw [← hE] at this
            simpa using this.symm
        · have : rgo U [l] (a :: E) = .no := if_neg ha
          rw [this] at h; cases h
    by_cases h2 : 2 ≤ l.length
    · have key : ∀ i, i ≤ degN l.length → ∀ U E, rgo W (ordK (ordF f) l i) D = .made U E → U.length = W.length + i ∧ U.take W.length = W ∧ E = D.drop (ordK (ordF f) l i).length := by
        intro i
        induction i with
        | zero => intro _ U E h; cases h; simp [ordK]
        | succ i ih =>
          intro hi U E h
          have pn := partN h2 hl
          have hp := partL_len h2 hl (i := i) (by omega)
          have hless := pn.less i (by omega)
          rw [ordK, rgo_app] at h
          cases hx : rgo W (ordK (ordF f) l i) D with
          | made U0 E0 =>
            rw [hx] at h
            obtain ⟨a1, a2, a3⟩ := ih (by omega) _ _ hx
            have h : rgo U0 (ordF f (partL l i)) E0 = .made U E := h
            obtain ⟨a, rfl, _⟩ := rgo_ord f (partL l i) (by omega) (by omega) _ _ _ _ h
            obtain ⟨b1, b2, _⟩ := rgo_rest _ _ _ _ _ h
            refine ⟨by simp; omega, ?_, ?_⟩
            · rw [List.take_append_of_le_length (by omega)]; exact a2
            · rw [ordK, List.length_append, ← List.drop_drop, ← a3]
              exact (List.append_cancel_left ((List.take_append_drop _ E0).trans b1)).symm
          | ahead ws => rw [hx] at h; cases h
          | no => rw [hx] at h; cases h
      cases hx : rgo W (ordK (ordF f) l (kidsOf l)) D with
      | made U0 E0 =>
        rw [hx] at h
        rw [kidsOf_two h2] at hx
        obtain ⟨a1, a2, a3⟩ := key _ (Nat.le_refl _) _ _ hx
        exact fin U0 E0 (by rw [kidsOf_two h2]; exact a1) a2 (by rw [kidsOf_two h2]; exact a3) h
      | ahead ws => rw [hx] at h; cases h
      | no => rw [hx] at h; cases h
    · have hk : kidsOf l = 0 := if_pos (by omega)
      have e : ordF (f + 1) l = ordK (ordF f) l 0 ++ [l] := by rw [ordF, hk]
      rw [hk] at h fin
      rw [e]
      exact fin W D (by simp) (List.take_length) (by simp [ordK]) h

end
end Go.Proofs.YtedldiimhbebdaaGreat.Ai
/- What an access of the document's procedures comes to: told, or stood ahead of. -/
namespace Go.Proofs.YtedldiimhbebdaaGreat.Ai
open Go.Proofs.YtedldiimhbebdaaGreat
noncomputable section
open Go.RowKit
structure HasF (tab : Nat → Option AFunc) : Prop where
  m76 : tab 76 = some af76
  m100 : tab 100 = some af100

theorem hasF : HasF tabT.get := ⟨by kernel_rfl, by kernel_rfl⟩

def stNV (h : Heap) (n : Nat) (p v : Value) : Option (Value × Heap) := match p with
  | .pointer (some ⟨b, o, none⟩) => (let vs := v.cells.toList
      bif Nat.beq vs.length n && Nat.ble 1 n then (match h.wrs b o vs with
        | some h' => some (undef, h')
        | none => none) else none)
  | _ => none
theorem eop_storeN {ts : T Value} {h : Heap} {n : Nat} {a x : Opd} : eop ts h (.store n a x) = stNV h n (ev ts a) (ev ts x) := (rfl)
theorem eop_store5 {ts : T Value} {h : Heap} {a x : Opd} : eop ts h (.store 5 a x) = stNV h 5 (ev ts a) (ev ts x) := (rfl)
theorem eop_store13 {ts : T Value} {h : Heap} {a x : Opd} : eop ts h (.store 13 a x) = stNV h 13 (ev ts a) (ev ts x) := (rfl)
theorem eop_store21 {ts : T Value} {h : Heap} {a x : Opd} : eop ts h (.store 21 a x) = stNV h 21 (ev ts a) (ev ts x) := (rfl)
theorem wrsN_of {h : Heap} {b o : Nat} {k : Blk} {vs : List Value} (hb : h.blks.get b = some k) (ho : k.own = true) (hl : o + vs.length ≤ k.cells.length) (hs : vs.all scalar = true) : h.wrs b o vs = some (h.setB b { k with cells := spl vs k.cells o }) := by
  unfold Heap.wrs; rw [hb]
  simp only [ho, leLen_le hl, hs, Bool.and_true, cond_true]
  rfl
theorem stNV_of {h h' : Heap} {b o n : Nat} {l : List Value} (hw : h.wrs b o l = some h') (hl : l.length = n) (h1 : 1 ≤ n) : stNV h n (.pointer (some ⟨b, o, none⟩)) (.agg l.toArray) = some (undef, h') := by
  have e : (Value.agg l.toArray).cells.toList = l := by simp [Value.cells]
  unfold stNV
  simp only [e, hl, nat_beq, nat_ble h1, hw, Bool.and_true, cond_true]

def runBlk (tv : Value) (k : Int) (off : Bool) (kd : Int) (wv : Value) : Blk := ⟨[tv, I k, .bool off, I kd, I 0, I 0, I 0, wv, I 0, I 0], 10, 10, true, false⟩
def asked (wv : Value) : Value := .agg #[I 5, I 0, I 0, I 0, wv]

/-- how far a procedure was gone through -/
structure RunAt (h : Heap) (b : Nat) (tv : Value) (k : Int) (off : Bool) (kd : Int) (wv : Value) : Prop where
  blk : h.blks.get b = some (runBlk tv k off kd wv)
  lt : b < h.next

theorem RunAt.same {h h' : Heap} {b : Nat} {tv wv : Value} {k kd : Int} {off : Bool} {S : Nat → Prop} (r : RunAt h b tv k off kd wv) (m : Same h h' S) (hb : ¬ S b) : RunAt h' b tv k off kd wv :=
  ⟨by rw [m.get b r.lt hb]; exact r.blk, Nat.lt_of_lt_of_le r.lt m.next⟩

section
variable {P : Program} {tab : Nat → Option AFunc} (hT : TabOk P tab) (HF : HasF tab)
include hT HF

theorem ask_told {h : Heap} {b : Nat} {ut : Option Nat} {T : List Int} {k : Nat} (r : RunAt h b (ownSl ut T.length) k false 0 (.slice none 0 0)) (o : OwnAt h ut 1 T.length (T.map I)) (hb : ut ≠ some b) (hk : k < T.length) (hT1 : T.length < 1000000) {base : Option Addr} {n cap : Nat} :
    FSpec P 100 [.pointer (some ⟨b, 0, none⟩), asked (.slice base n cap)] h fun v h' => v = I T[k] ∧ RunAt h' b (ownSl ut T.length) (k + 1 : Nat) false 0 (.slice none 0 0) ∧ Same h h' (· = b) := by
  refine fspec_cwf hT HF.m100 rfl ?_
  obtain ⟨y, rfl⟩ : ∃ y, ut = some y := by
    cases ut with
    | none => have := o.non rfl; omega
    | some y => exact ⟨y, rfl⟩
  have rl := r.lt
  have bx : boxV h 5 (.agg #[I 5, I 0, I 0, I 0, .slice base n cap]) = some (.pointer (some ⟨h.next, 0, none⟩), h.new ⟨[I 5, I 0, I 0, I 0, .slice base n cap], 5, 5, true, false⟩) := boxV5 _ _ _ _ _ _
  have s1 : Same h (h.new ⟨[I 5, I 0, I 0, I 0, .slice base n cap], 5, 5, true, false⟩) (fun _ => False) := Same.new
  generalize hh1 : h.new ⟨[I 5, I 0, I 0, I 0, .slice base n cap], 5, 5, true, false⟩ = h1 at bx s1
  have r1 := r.same s1 (fun x => x)
  have o1 := o.same s1 (fun _ _ x => x)
  have q0 : h1.rd b 0 = some (ownSl (some y) T.length) := rd_of r1.blk
  have q1 : h1.rd b 1 = some (I k) := rd_of r1.blk
  have q2 : h1.rd b 2 = some (.bool false) := rd_of r1.blk
  have ck : ((k : Int) < T.length) = True := by simp [hk]
  have wk : wrapF .i64 ((k : Int) + 1) = ((k + 1 : Nat) : Int) := by rw [wrapI] <;> omega
  have w2 : h1.wrs b 1 [I (k + 1 : Nat)] = some (h1.setB b (runBlk (ownSl (some y) T.length) (k + 1 : Nat) false 0 (.slice none 0 0))) := wrs1_of r1.blk rfl (by simp [runBlk]) rfl
  have s2 : Same h1 (h1.setB b (runBlk (ownSl (some y) T.length) (k + 1 : Nat) false 0 (.slice none 0 0))) (· = b) := Same.setB rfl
  have b2 : (h1.setB b (runBlk (ownSl (some y) T.length) (k + 1 : Nat) false 0 (.slice none 0 0))).blks.get b = some (runBlk (ownSl (some y) T.length) (k + 1 : Nat) false 0 (.slice none 0 0)) := by rw [setB_get, if_pos rfl]
  generalize hh2 : h1.setB b (runBlk (ownSl (some y) T.length) (k + 1 : Nat) false 0 (.slice none 0 0)) = h2 at w2 s2 b2
  have q20 : h2.rd b 0 = some (ownSl (some y) T.length) := rd_of b2
  have q21 : h2.rd b 1 = some (I (k + 1 : Nat)) := rd_of b2
  have wm : wrapF .i64 (((k + 1 : Nat) : Int) - 1) = (k : Int) := by rw [wrapI] <;> omega
  have o2 := o1.same s2 (fun x hx e => hb (by rw [hx, e]))
  have rt : h2.rd y k = some (I T[k]) := by
    have := o2.rd.rd (i := k) (by omega)
    rw [Nat.zero_add] at this
    rw [this]; simp [hk]
  have sF : Same h h2 (· = b) := (s1.mono (fun _ x => x.elim)).trans s2 (fun _ _ x => x)
  simp only [asked, af100, cwf_seq, cwf_ops, c_false, cwf_skip, cwf_draw, andThen_normal, owf_nil, o_p, o_r, o_e, behind_eq, bo_eq, bd_eq, optQ_some, opt2_some, d_p, d_r, pop, popQ, rop_load1, ldV_ptr, ev, putA, putArgs, look_put, isB_false, eop_box, ite_true, ite_false, Bool.not_false, Nat.reduceEqDiff, Nat.zero_add, bx, q2]
  refine ⟨cf00, cf00_ok, ?_⟩
  simp only [cwf_seq, cwf_ops, c_true, andThen_normal, o_p, o_r, o_e, bo_eq, bd_eq, optQ_some, dwf_nil, d_p, d_r, pop, popQ, rop_load1, ldV_ptr, ev, putA, look_put, isB_true, abinF_eq, abin, eop_store1, st1, Nat.add_zero, scalar_int, decide_true, cond_true, cond_false, ite_true, ite_false, Nat.reduceEqDiff, Nat.zero_add, q0, q1, ownSl, ck, wk]
  simp only [ownSl] at w2 q20
  simp only [w2]
  simp only [cwf_seq, cwf_draw, andThen_normal, owf_nil, behind_eq, bd_eq, optQ_some, opt2_some, d_p, d_r, pop, popQ, rop_load1, ldV_ptr, ev, putA, look_put, Nat.add_zero, ite_true, ite_false, Nat.reduceEqDiff]
  refine ⟨cf00, cf00_ok, ?_⟩
  simp only [cwf_ret, andThen_normal, andThen_ret, fnQ_ret, bd_eq, optQ_some, dwf_nil, d_p, d_r, pop, popQ, rop_load1, ldV_ptr, ev, putA, look_put, abinF_eq, abin, resAll, resA, mkRes1, Int.toNat_natCast, Int.natCast_nonneg, Nat.mul_one, inB_eq, decide_true, cond_true, ite_true, ite_false, Bool.and_true, Nat.reduceEqDiff, Nat.zero_add, Option.some.injEq, exists_eq_left', true_and, q20, q21, wm, Option.map_some, ck, rt]
  rw [tail_marks h h2 sF.marks]
  exact ⟨⟨b2, Nat.lt_of_lt_of_le rl sF.next⟩, sF⟩

theorem ask_ahead {h : Heap} {b : Nat} {ut : Option Nat} {T : List Int} (r : RunAt h b (ownSl ut T.length) T.length false 0 (.slice none 0 0)) {base : Option Addr} {n cap : Nat} :
    FSpec P 100 [.pointer (some ⟨b, 0, none⟩), asked (.slice base n cap)] h fun v h' => v = I 0 ∧ RunAt h' b (ownSl ut T.length) T.length true 5 (.slice base n cap) ∧ Same h h' (· = b) := by
  refine fspec_cwf hT HF.m100 rfl ?_
  have rl := r.lt
  have bx : boxV h 5 (.agg #[I 5, I 0, I 0, I 0, .slice base n cap]) = some (.pointer (some ⟨h.next, 0, none⟩), h.new ⟨[I 5, I 0, I 0, I 0, .slice base n cap], 5, 5, true, false⟩) := boxV5 _ _ _ _ _ _
  have s1 : Same h (h.new ⟨[I 5, I 0, I 0, I 0, .slice base n cap], 5, 5, true, false⟩) (fun _ => False) := Same.new
  have x1 : (h.new ⟨[I 5, I 0, I 0, I 0, .slice base n cap], 5, 5, true, false⟩).blks.get h.next = some ⟨[I 5, I 0, I 0, I 0, .slice base n cap], 5, 5, true, false⟩ := by rw [new_get]; exact if_pos rfl
  generalize hh1 : h.new ⟨[I 5, I 0, I 0, I 0, .slice base n cap], 5, 5, true, false⟩ = h1 at bx s1 x1
  have r1 := r.same s1 (fun x => x)
  have q0 : h1.rd b 0 = some (ownSl ut T.length) := rd_of r1.blk
  have q1 : h1.rd b 1 = some (I T.length) := rd_of r1.blk
  have q2 : h1.rd b 2 = some (.bool false) := rd_of r1.blk
  have ck : ((T.length : Int) < T.length) = False := by simp
  have w2 : h1.wrs b 2 [.bool true] = some (h1.setB b (runBlk (ownSl ut T.length) T.length true 0 (.slice none 0 0))) := wrs1_of r1.blk rfl (by simp [runBlk]) rfl
  have s2 : Same h1 (h1.setB b (runBlk (ownSl ut T.length) T.length true 0 (.slice none 0 0))) (· = b) := Same.setB rfl
  have b2 : (h1.setB b (runBlk (ownSl ut T.length) T.length true 0 (.slice none 0 0))).blks.get b = some (runBlk (ownSl ut T.length) T.length true 0 (.slice none 0 0)) := by rw [setB_get, if_pos rfl]
  generalize hh2 : h1.setB b (runBlk (ownSl ut T.length) T.length true 0 (.slice none 0 0)) = h2 at w2 s2 b2
  have x2 : h2.blks.get h.next = some ⟨[I 5, I 0, I 0, I 0, .slice base n cap], 5, 5, true, false⟩ := by
    rw [s2.get h.next (by rw [← hh1]; exact Nat.lt_succ_self _) (by omega)]; exact x1
  have l2 : ldN h2 5 (.pointer (some ⟨h.next, 0, none⟩)) = some (.agg #[I 5, I 0, I 0, I 0, .slice base n cap]) := ldN_of (l := [I 5, I 0, I 0, I 0, .slice base n cap]) (by rw [rds_of x2 (by simp)]; rfl)
  have w3 : h2.wrs b 3 [I 5, I 0, I 0, I 0, .slice base n cap] = some (h2.setB b (runBlk (ownSl ut T.length) T.length true 5 (.slice base n cap))) := wrsN_of b2 rfl (by simp [runBlk]) (by simp [scalar])
  have s3 : Same h2 (h2.setB b (runBlk (ownSl ut T.length) T.length true 5 (.slice base n cap))) (· = b) := Same.setB rfl
  have b3 : (h2.setB b (runBlk (ownSl ut T.length) T.length true 5 (.slice base n cap))).blks.get b = some (runBlk (ownSl ut T.length) T.length true 5 (.slice base n cap)) := by rw [setB_get, if_pos rfl]
  generalize hh3 : h2.setB b (runBlk (ownSl ut T.length) T.length true 5 (.slice base n cap)) = h3 at w3 s3 b3
  have e3 : stNV h2 5 (.pointer (some ⟨b, 3, none⟩)) (.agg #[I 5, I 0, I 0, I 0, .slice base n cap]) = some (undef, h3) := stNV_of w3 rfl (by omega)
  have sF : Same h h3 (· = b) := ((s1.mono (fun _ x => x.elim)).trans s2 (fun _ _ x => x)).trans s3 (fun _ _ x => x)
  simp only [asked, af100, cwf_seq, cwf_ops, c_false, cwf_skip, cwf_draw, andThen_normal, owf_nil, o_p, o_r, o_e, behind_eq, bo_eq, bd_eq, optQ_some, opt2_some, d_p, d_r, pop, popQ, rop_load1, ldV_ptr, ev, putA, putArgs, look_put, isB_false, eop_box, ite_true, ite_false, Bool.not_false, Nat.reduceEqDiff, Nat.zero_add, bx, q2]
  refine ⟨cf00, cf00_ok, ?_⟩
  simp only [ownSl] at q0 w2 w3 l2
  simp only [cwf_seq, cwf_ops, cwf_ret, c_false, cwf_skip, andThen_normal, fnQ_ret, owf_nil, o_p, o_r, o_e, behind_eq, bo_eq, bd_eq, optQ_some, opt2_some, dwf_nil, d_p, d_r, pop, popQ, rop_load1, ldV_ptr, ev, putA, look_put, isB_false, abinF_eq, abin, resAll, resA, mkRes1, eop_store1, st1, Nat.add_zero, scalar_bool, decide_true, decide_false, cond_true, cond_false, ite_true, ite_false, Bool.not_false, Nat.reduceEqDiff, Nat.zero_add, Option.some.injEq, exists_eq_left', true_and, q0, q1, ck, w2, rop_loadN, l2, eop_store5, e3]
  rw [tail_marks h h3 sF.marks]
  exact ⟨⟨b3, Nat.lt_of_lt_of_le rl sF.next⟩, sF⟩

theorem fmake_told {h : Heap} {b : Nat} {ut : Option Nat} {T : List Int} {k : Nat} (r : RunAt h b (ownSl ut T.length) k false 0 (.slice none 0 0)) (o : OwnAt h ut 1 T.length (T.map I)) (hb : ut ≠ some b) (hk : k < T.length) (hT1 : T.length < 1000000) {base : Option Addr} {n cap : Nat} :
    FSpec P 76 [.pointer (some ⟨b, 0, none⟩), .slice base n cap] h fun v h' => v = .tuple #[I T[k], .bool (decide (T[k] > 0))] ∧ RunAt h' b (ownSl ut T.length) (k + 1 : Nat) false 0 (.slice none 0 0) ∧ Same h h' (· = b) := by
  refine fspec_cwf hT HF.m76 rfl ?_
  obtain ⟨v1, h1, F1, rfl, r1, s1⟩ := ask_told hT HF r o hb hk hT1 (base := base) (n := n) (cap := cap)
  have F1' : Fact P 100 [.pointer (some ⟨b, 0, none⟩), .agg #[I 5, I 0, I 0, I 0, .slice base n cap]] h (I T[k]) h1 := F1
  simp only [af76, cwf_seq, cwf_ops, andThen_normal, owf_nil, o_p, owf_call, bo_eq, optQ_some, pop, popQ, ev, evs, putA, putArgs, look_put, evP_nil, evP_cons, fillA_nil, fillA_one, List.length_cons, List.length_nil, List.set_cons_zero, List.set_cons_succ, Nat.reduceLT, Nat.lt_add_one, scalar_slice, scalar_int, ite_true, ite_false, Nat.reduceEqDiff, Nat.reduceAdd, Nat.zero_add]
  refine ⟨_, _, F1', ?_⟩
  simp only [cwf_seq, cwf_ops, cwf_ret, andThen_normal, fnQ_ret, owf_nil, o_p, behind_eq, bo_eq, optQ_some, pop, popQ, ev, putA, look_put, abinF_eq, abin, resAll, resA, mkRes2, decide_true, cond_true, ite_true, ite_false, Nat.reduceEqDiff, Option.some.injEq, exists_eq_left', true_and]
  rw [tail_marks h h1 s1.marks]
  exact ⟨r1, s1⟩

theorem fmake_ahead {h : Heap} {b : Nat} {ut : Option Nat} {T : List Int} (r : RunAt h b (ownSl ut T.length) T.length false 0 (.slice none 0 0)) {base : Option Addr} {n cap : Nat} :
    FSpec P 76 [.pointer (some ⟨b, 0, none⟩), .slice base n cap] h fun v h' => v = .tuple #[I 0, .bool false] ∧ RunAt h' b (ownSl ut T.length) T.length true 5 (.slice base n cap) ∧ Same h h' (· = b) := by
  refine fspec_cwf hT HF.m76 rfl ?_
  obtain ⟨v1, h1, F1, rfl, r1, s1⟩ := ask_ahead hT HF r (base := base) (n := n) (cap := cap)
  have F1' : Fact P 100 [.pointer (some ⟨b, 0, none⟩), .agg #[I 5, I 0, I 0, I 0, .slice base n cap]] h (I 0) h1 := F1
  have c0 : ((0 : Int) > 0) = False := by simp
  simp only [af76, cwf_seq, cwf_ops, andThen_normal, owf_nil, o_p, owf_call, bo_eq, optQ_some, pop, popQ, ev, evs, putA, putArgs, look_put, evP_nil, evP_cons, fillA_nil, fillA_one, List.length_cons, List.length_nil, List.set_cons_zero, List.set_cons_succ, Nat.reduceLT, Nat.lt_add_one, scalar_slice, scalar_int, ite_true, ite_false, Nat.reduceEqDiff, Nat.reduceAdd, Nat.zero_add]
  refine ⟨_, _, F1', ?_⟩
  simp only [cwf_seq, cwf_ops, cwf_ret, andThen_normal, fnQ_ret, owf_nil, o_p, behind_eq, bo_eq, optQ_some, pop, popQ, ev, putA, look_put, abinF_eq, abin, resAll, resA, mkRes2, decide_true, decide_false, cond_true, ite_true, ite_false, Nat.reduceEqDiff, Option.some.injEq, exists_eq_left', true_and, c0]
  rw [tail_marks h h1 s1.marks]
  exact ⟨r1, s1⟩
end
end
end Go.Proofs.YtedldiimhbebdaaGreat.Ai
/- What the document's procedure that makes a tree comes to, gone through with what its accesses told. -/
namespace Go.Proofs.YtedldiimhbebdaaGreat.Ai
open Go.Proofs.YtedldiimhbebdaaGreat
noncomputable section
set_option linter.unusedVariables false
open Go.RowKit
structure HasF2 (tab : Nat → Option AFunc) : Prop extends HasF tab where
  m62 : tab 62 = some af62

/-- the numbers of the ideal shape, as the document's functions tell them -/
structure NumF (P : Program) : Prop where
  deg : ∀ n : Nat, n ≤ 120 → ∀ h, Fact P 87 [I n] h (I (degN n)) h
  frm : ∀ n i : Nat, 2 ≤ n → n ≤ 120 → i < degN n → ∀ h, Fact P 88 [I n, I i] h (I (fromN n i)) h
  siz : ∀ n i : Nat, 2 ≤ n → n ≤ 120 → i < degN n → ∀ h, Fact P 89 [I n, I i] h (I (sizeN n i)) h

theorem rgo_stop {W : List Int} {A B : List (List Pr)} {D : List Int} {x : RG} (h : rgo W A D = x) (hx : ∀ W' D', x ≠ .made W' D') : rgo W (A ++ B) D = x := by
  rw [rgo_app, h]
  cases x with
  | made W' D' => exact (hx W' D' rfl).elim
  | ahead ws => rfl
  | no => rfl

theorem ordK_pre (o : List Pr → List (List Pr)) (l : List Pr) (i : Nat) : ∀ j, i ≤ j → ∃ B, ordK o l j = ordK o l i ++ B
  | 0, h => by
    have : i = 0 := by omega
    subst this; exact ⟨[], by simp⟩
  | j + 1, h => by
    by_cases c : i = j + 1
    · subst c; exact ⟨[], by simp⟩
    · obtain ⟨B, hB⟩ := ordK_pre o l i j (by omega)
      exact ⟨B ++ o (partL l j), by rw [ordK, hB, List.append_assoc]⟩

/-- what gone through comes to -/
def GrowQ (S0 : List Int) (x : RG) (T : List Int) (tv : Value) (b : Nat) (h : Heap) (r : Value) (h' : Heap) : Prop := match x with
  | .made W D => ∃ (w : Int) (kk : Nat), kk ≤ T.length ∧ D = T.drop kk ∧ W = S0 ++ [w] ∧ r = .tuple #[I w, .bool true] ∧ RunAt h' b tv kk false 0 (.slice none 0 0)
  | .ahead ws => ∃ (w k : Int) (x cap : Nat), r = .tuple #[I w, .bool false] ∧ RunAt h' b tv k true 5 (.slice (some ⟨x, 0, none⟩) ws.length cap) ∧ RdAt h' x 0 1 ws.length cap (ws.map I) ∧ h.next ≤ x
  | .no => ∃ (w k : Int), r = .tuple #[I w, .bool false] ∧ RunAt h' b tv k false 0 (.slice none 0 0)

/-- a record that is to be made: told, or not yet -/
def MakeQ (T : List Int) (k : Nat) (tv : Value) (b : Nat) (sl : Value) (v : Value) (h' : Heap) : Prop := ∃ (a : Int) (ok : Bool), v = .tuple #[I a, .bool ok] ∧ 0 ≤ a ∧ a ≤ 65536 ∧ match T.drop k with
  | [] => ok = false ∧ RunAt h' b tv k true 5 sl
  | t :: _ => a = t ∧ ok = decide (t > 0) ∧ RunAt h' b tv (k + 1 : Nat) false 0 (.slice none 0 0)

theorem makeQ_end {S0 W ch T : List Int} {k : Nat} {tv : Value} {b x cap : Nat} {l : List Pr} {h h' : Heap} {a w : Int} {ok : Bool} (hW : W.take (W.length - kidsOf l) = S0) (hD : W.drop (W.length - kidsOf l) = ch) (hk : k ≤ T.length) (hx : h.next ≤ x)
    (hr : RdAt h' x 0 1 (recOf l ch).length cap ((recOf l ch).map I))
    (hm : match T.drop k with
      | [] => ok = false ∧ RunAt h' b tv k true 5 (.slice (some ⟨x, 0, none⟩) (recOf l ch).length cap)
      | t :: _ => a = t ∧ ok = decide (t > 0) ∧ RunAt h' b tv (k + 1 : Nat) false 0 (.slice none 0 0))
    (hw : a > 0 → w = a * 8 + kindOf l) : GrowQ S0 (rgo W [l] (T.drop k)) T tv b h (.tuple #[I w, .bool ok]) h' := by
  cases hd : T.drop k with
  | nil =>
    rw [hd] at hm
    obtain ⟨rfl, hr2⟩ := hm
    show GrowQ S0 (.ahead (recOf l (W.drop (W.length - kidsOf l)))) T tv b h _ h'
    rw [hD]
    exact ⟨w, k, x, cap, rfl, hr2, hr, hx⟩
  | cons t D =>
    rw [hd] at hm
    obtain ⟨rfl, rfl, hr2⟩ := hm
    by_cases ht : 0 < a
    · rw [rgo_step _ _ _ _ _ ht]
      have hkl : k < T.length := by
        rcases Nat.lt_or_ge k T.length with h | h
        · exact h
        · rw [List.drop_of_length_le h] at hd; cases hd
      refine ⟨w, k + 1, by omega, ?_, ?_, ?_, hr2⟩
      · have := congrArg List.tail hd
        simpa using this.symm
      · unfold wstep
        rw [hW, hw ht]
      · rw [show decide (a > 0) = true from by simpa using ht]
    · have : rgo W [l] (a :: D) = .no := if_neg ht
      rw [this]
      exact ⟨w, ((k + 1 : Nat) : Int), by rw [show decide (a > 0) = false from by simpa using ht], hr2⟩

section
variable {P : Program} {tab : Nat → Option AFunc} (hT : TabOk P tab) (H : HasR tab)
include hT H

theorem rofA_spec (k a : Int) (h : Heap) (c1 : k ≥ 1) (c2 : k ≤ 5) (c3 : 0 ≤ a) (c4 : a ≤ 65536) : FSpec P 75 [I k, I a] h fun v h' => (∃ w, v = I w ∧ (a > 0 → w = a * 8 + k)) ∧ h' = h := by
  by_cases ha : a > 0
  · obtain ⟨v, h', F, e1, e2⟩ := rof_spec hT H k a h c1 c2 (by omega) c4
    exact ⟨v, h', F, ⟨_, e1, fun _ => rfl⟩, e2⟩
  · refine fspec_cwf hT H.r101 rfl ?_
    have d1 : (k < 1) = False := by simp; omega
    have d2 : (k > 5) = False := by simp; omega
    have d3 : (a < 1) = True := by simp; omega
    simp only [af75, cwf_seq, cwf_ops, cwf_ret, c_true, andThen_normal, andThen_ret, fnQ_ret, owf_nil, o_p, o_on, o_off, bo_eq, optQ_some, pop, popQ, ev, putA, putArgs, look_put, isB_true, isB_false, abinF_eq, abin, resAll, resA, mkRes1, decide_true, decide_false, cond_true, cond_false, ite_true, ite_false, Bool.not_true, Bool.not_false, Nat.reduceEqDiff, Nat.zero_add, Option.some.injEq, exists_eq_left', and_true, d1, d2, d3]
    exact ⟨0, rfl, fun h => absurd h ha⟩

variable (HF : HasF tab)
include HF
omit H

theorem fmake {h : Heap} {b : Nat} {ut : Option Nat} {T : List Int} {k : Nat} (r : RunAt h b (ownSl ut T.length) k false 0 (.slice none 0 0)) (o : OwnAt h ut 1 T.length (T.map I)) (hb : ut ≠ some b) (hk : k ≤ T.length) (hT1 : T.length < 1000000) (hTb : ∀ t ∈ T, 0 ≤ t ∧ t ≤ 65536) {base : Option Addr} {n cap : Nat} :
    FSpec P 76 [.pointer (some ⟨b, 0, none⟩), .slice base n cap] h fun v h' => MakeQ T k (ownSl ut T.length) b (.slice base n cap) v h' ∧ Same h h' (· = b) := by
  rcases Nat.lt_or_ge k T.length with hl | hl
  · obtain ⟨v, h', F, rfl, r', s⟩ := fmake_told hT HF r o hb hl hT1 (base := base) (n := n) (cap := cap)
    refine ⟨_, h', F, ⟨T[k], _, rfl, (hTb _ (List.getElem_mem hl)).1, (hTb _ (List.getElem_mem hl)).2, ?_⟩, s⟩
    rw [List.drop_eq_getElem_cons hl]
    exact ⟨rfl, rfl, r'⟩
  · have : k = T.length := by omega
    subst this
    obtain ⟨v, h', F, rfl, r', s⟩ := fmake_ahead hT HF r (base := base) (n := n) (cap := cap)
    refine ⟨_, h', F, ⟨0, false, rfl, by omega, by omega, ?_⟩, s⟩
    rw [List.drop_length]
    exact ⟨rfl, r'⟩
end

/-- what is kept from child to child -/
structure GrI (h : Heap) (b : Nat) (tv : Value) (T S0 : List Int) (k : Nat) (f : Nat) (l : List Pr) (i : Nat) (uk uc : Option Nat) (cs : List Int) (kk : Nat) (h' : Heap) : Prop where
  ok : OwnAt h' uk 1 (i - 1) ((keysF l i).map I)
  oc : OwnAt h' uc 1 i (cs.map I)
  cl : cs.length = i
  run : RunAt h' b tv kk false 0 (.slice none 0 0)
  kl : kk ≤ T.length
  go : rgo S0 (ordK (ordF f) l i) (T.drop k) = .made (S0 ++ cs) (T.drop kk)
  gk : ∀ y, uk = some y → h.next ≤ y
  gc : ∀ y, uc = some y → h.next ≤ y ∧ uk ≠ some y
  same : Same h h' (· = b)

/-- the keys with one more, or as they were -/
theorem GrI.keys {h : Heap} {b : Nat} {tv : Value} {T S0 : List Int} {k : Nat} {f : Nat} {l : List Pr} {i : Nat} {uk uc : Option Nat} {cs : List Int} {kk : Nat} {h' : Heap} (g : GrI h b tv T S0 k f l i uk uc cs kk h') (hb : b < h.next) (i1 : 1 ≤ i) (hi : i < 1000) (hfl : fromN l.length i < l.length) :
    ∃ uk2 k2, appV (h'.new ⟨[I l[fromN l.length i].1], 1, 1, true, false⟩) 1 8 (ownSl uk (i - 1)) (.slice (some ⟨h'.next, 0, none⟩) 1 1) = some (ownSl uk2 (i + 1 - 1), k2) ∧ OwnAt k2 uk2 1 (i + 1 - 1) ((keysF l (i + 1)).map I) ∧ OwnAt k2 uc 1 i (cs.map I) ∧ RunAt k2 b tv kk false 0 (.slice none 0 0) ∧ (∀ y, uk2 = some y → h.next ≤ y) ∧ (∀ y, uc = some y → uk2 ≠ some y) ∧ Same h k2 (· = b) ∧ h'.next ≤ k2.next := by
  have hkc : RdAt (h'.new ⟨[I l[fromN l.length i].1], 1, 1, true, false⟩) h'.next 0 1 1 1 [I l[fromN l.length i].1] := RdAt.fresh h' [I l[fromN l.length i].1] 1 1 true false rfl
  have s1 : Same h' (h'.new ⟨[I l[fromN l.length i].1], 1, 1, true, false⟩) (fun _ => False) := Same.new
  obtain ⟨uk2, k2, ha1, ok2', sa, na⟩ := app_own (bytes := 8) (g.ok.same s1 (fun _ _ x => x)) hkc.src rfl rfl (Nat.le_refl _) (by omega) (by omega)
  have s12 : Same h' k2 (fun j => uk = some j) := (s1.mono (T := fun j => uk = some j) (fun _ x => x.elim)).trans sa (fun _ _ x => x)
  have s2 : Same h k2 (· = b) := g.same.trans s12 (fun j hj e => by have := g.gk j e; omega)
  have ei : i - 1 + 1 = i + 1 - 1 := by omega
  have eki : (keysF l (i + 1)).map I = (keysF l i).map I ++ [I l[fromN l.length i].1] := by
    rw [keysF, if_neg (by omega)]
    simp [List.getElem?_eq_getElem hfl]
  have nx := g.same.next
  refine ⟨uk2, k2, by rw [← ei]; exact ha1, by rw [eki, ← ei]; exact ok2', g.oc.same s12 (fun y hy e => (g.gc y hy).2 e), g.run.same s12 (fun e => by have := g.gk b e; omega), fun y hy => ?_, fun y hy e => ?_, s2, s12.next⟩
  · rcases na y hy with e | e
    · exact g.gk y e
    · rw [e, new_next]; omega
  · rcases na y e with e2 | e2
    · exact (g.gc y hy).2 e2
    · have := (g.oc.use y hy).2.1
      rw [e2, new_next] at this; omega

/-- a child more -/
theorem GrI.next {h : Heap} {b : Nat} {tv : Value} {T S0 : List Int} {k : Nat} {f : Nat} {l : List Pr} {i : Nat} {uk uc : Option Nat} {cs : List Int} {kk k3 : Nat} {h' k2 h3 : Heap} {w : Int} {uk2 : Option Nat} (g : GrI h b tv T S0 k f l i uk uc cs kk h') (hb : b < h.next) (hi : i < 1000)
    (ok2 : OwnAt k2 uk2 1 (i + 1 - 1) ((keysF l (i + 1)).map I)) (oc2 : OwnAt k2 uc 1 i (cs.map I)) (gk2 : ∀ y, uk2 = some y → h.next ≤ y) (gc2 : ∀ y, uc = some y → uk2 ≠ some y) (s2 : Same h k2 (· = b))
    (s3 : Same k2 h3 (· = b)) (r3 : RunAt h3 b tv k3 false 0 (.slice none 0 0)) (kl3 : k3 ≤ T.length) (go3 : rgo (S0 ++ cs) (ordF f (partL l i)) (T.drop kk) = .made (S0 ++ cs ++ [w]) (T.drop k3)) :
    ∃ uc' k5, appV (h3.new ⟨[I w], 1, 1, true, false⟩) 1 8 (ownSl uc i) (.slice (some ⟨h3.next, 0, none⟩) 1 1) = some (ownSl uc' (i + 1), k5) ∧ GrI h b tv T S0 k f l (i + 1) uk2 uc' (cs ++ [w]) k3 k5 := by
  have hcell : RdAt (h3.new ⟨[I w], 1, 1, true, false⟩) h3.next 0 1 1 1 [I w] := RdAt.fresh h3 [I w] 1 1 true false rfl
  have s4 : Same h3 (h3.new ⟨[I w], 1, 1, true, false⟩) (fun _ => False) := Same.new
  have oc3 : OwnAt h3 uc 1 i (cs.map I) := oc2.same s3 (fun y hy e => by have := (g.gc y hy).1; omega)
  obtain ⟨uc', k5, ha5, oc5, s5, n5⟩ := app_own (bytes := 8) (oc3.same s4 (fun _ _ x => x)) hcell.src rfl rfl (Nat.le_refl _) (by omega) (by omega)
  have t5 : Same h3 k5 (fun j => uc = some j) := (s4.mono (T := fun j => uc = some j) (fun _ x => x.elim)).trans s5 (fun _ _ x => x)
  have sk3 : Same h h3 (· = b) := s2.trans s3 (fun _ _ x => x)
  have sk5 : Same h k5 (· = b) := sk3.trans t5 (fun j hj e => by have := (g.gc j e).1; omega)
  have kn : ∀ y, uk2 = some y → y < k2.next := fun y hy => (ok2.use y hy).2.1
  have nx3 := s3.next
  have nx0 := s2.next
  refine ⟨uc', k5, ha5, ⟨?_, by rw [List.map_append]; exact oc5, by rw [List.length_append, g.cl]; rfl, r3.same t5 (fun e => by have := (g.gc b e).1; omega), kl3, ?_, gk2, fun y hy => ?_, sk5⟩⟩
  · refine (ok2.same s3 (fun y hy e => by have := gk2 y hy; omega)).same t5 (fun y hy e => (gc2 y e) hy)
  · rw [ordK, rgo_app, g.go]
    show rgo (S0 ++ cs) (ordF f (partL l i)) (T.drop kk) = _
    rw [go3, List.append_assoc]
  · rcases n5 y hy with e | e
    · exact ⟨(g.gc y e).1, fun e1 => gc2 y e e1⟩
    · rw [e, new_next]
      exact ⟨by omega, fun e1 => by have := kn _ e1; omega⟩

section
variable {P : Program} {tab : Nat → Option AFunc} (hT : TabOk P tab) (H : HasR tab) (HF : HasF2 tab) (NR : NumF P)
include hT H HF NR

set_option maxHeartbeats 1000000 in
theorem rgrow_spec : ∀ (f : Nat) (l : List Pr) (h : Heap) (v : Value) (u ut : Option Nat) (b : Nat) (T S0 : List Int) (k : Nat), l.length < f → l.length ≤ 120 → RowAt h v 2 l.length (flat l) u → u ≠ some b → RunAt h b (ownSl ut T.length) k false 0 (.slice none 0 0) → OwnAt h ut 1 T.length (T.map I) → ut ≠ some b → k ≤ T.length → T.length < 1000000 → (∀ t ∈ T, 0 ≤ t ∧ t ≤ 65536) →
    FSpec P 62 [.pointer (some ⟨b, 0, none⟩), v] h fun r h' => GrowQ S0 (rgo S0 (ordF f l) (T.drop k)) T (ownSl ut T.length) b h r h' ∧ Same h h' (· = b) := by
  intro f
  induction f with
  | zero => intro l h v u ut b T S0 k hf; omega
  | succ f ih =>
    intro l h v u ut b T S0 k hf hl hr hub r o hutb hk hT1 hTb
    have hbl := r.lt
    have hutl : ∀ y, ut = some y → y < h.next := fun y hy => (o.use y hy).2.1
    by_cases h2 : 2 ≤ l.length
    · have pn := partN h2 hl
      have d2 := pn.deg2
      have d11 := pn.deg11
      rcases hr with ⟨e, _⟩ | ⟨x, p, cap, hux, rfl, rl⟩
      · omega
      have hxb : x ≠ b := fun e => hub (by rw [hux, e])
      have hcap := rl.cap
      refine fspec_cwf hT HF.m62 rfl ?_
      have c0 : ((l.length : Int) == 0) = false := by rw [beq_eq_false_iff_ne]; omega
      have c1 : ((l.length : Int) == 1) = false := by rw [beq_eq_false_iff_ne]; omega
      simp only [af62, cwf_seq, cwf_ops, c_false, cwf_skip, cwf_block, cwf_loop, andThen_normal, owf_nil, o_p, bo_eq, optQ_some, pop, popQ, ev, putA, putArgs, look_put, isB_false, abinF_eq, abin, decide_true, cond_true, cond_false, ite_true, ite_false, Bool.not_false, Nat.reduceEqDiff, Nat.zero_add, c0, c1]
      refine cw_loop (fun kr ts h' => ∃ (i : Nat) (uk uc : Option Nat) (cs : List Int) (kk : Nat), kr = degN l.length - i ∧ i ≤ degN l.length ∧ look ts 0 = .pointer (some ⟨b, 0, none⟩) ∧ look ts 1 = .slice (some ⟨x, p, none⟩) l.length cap ∧ look ts 6 = I l.length ∧ look ts 11 = ownSl uk (i - 1) ∧ look ts 12 = ownSl uc i ∧ look ts 13 = I i ∧ GrI h b (ownSl ut T.length) T S0 k f l i uk uc cs kk h') ?_ (n := degN l.length) ⟨0, none, none, [], k, rfl, Nat.zero_le _, by simp only [look_put, ite_true, ite_false, Nat.reduceEqDiff], by simp only [look_put, ite_true, ite_false, Nat.reduceEqDiff], by simp only [look_put, ite_true, ite_false, Nat.reduceEqDiff], by simp only [look_put, Nat.reduceSub, ite_true, ite_false, Nat.reduceEqDiff] <;> rfl, by simp only [look_put, ite_true, ite_false, Nat.reduceEqDiff] <;> rfl, by simp only [look_put, Int.cast_ofNat_Int, ite_true, ite_false, Nat.reduceEqDiff] <;> rfl, ?_⟩
      · rintro kr ts h' ⟨i, uk, uc, cs, kk, rfl, il, t0, t1, t6, t11, t12, t13, g⟩
        have wi : wrapF .i64 ((i : Int) + 1) = ((i + 1 : Nat) : Int) := by rw [wrapI] <;> omega
        refine cwf_cw ?_
        by_cases hi : i < degN l.length
        · have ci : ((i : Int) < degN l.length) = True := by simp [hi]
          have hone := pn.one i hi
          have hless := pn.less i hi
          have htop := pn.top i hi
          have hfl : fromN l.length i < l.length := by omega
          have hpl := partL_len h2 hl hi
          have wfs : wrapF .i64 ((fromN l.length i : Int) + sizeN l.length i) = ((fromN l.length i + sizeN l.length i : Nat) : Int) := by rw [wrapI] <;> omega
          have cg : ((fromN l.length i : Int) < (l.length : Int)) = True := by simp; omega
          obtain ⟨B, hB⟩ := ordK_pre (ordF f) l (i + 1) (degN l.length) (by omega)
          have hord : ordF (f + 1) l = ordK (ordF f) l i ++ (ordF f (partL l i) ++ (B ++ [l])) := by
            rw [ordF, kidsOf_two h2, hB, ordK]; simp only [List.append_assoc]
          -- the child, gone through
          have child : ∀ (k2 : Heap), Same h k2 (· = b) → RunAt k2 b (ownSl ut T.length) kk false 0 (.slice none 0 0) → ∃ v3 h3, Fact P 62 [.pointer (some ⟨b, 0, none⟩), .slice (some ⟨x, p + fromN l.length i * 2, none⟩) (sizeN l.length i) (cap - fromN l.length i)] k2 v3 h3 ∧ Same k2 h3 (· = b) ∧ ((∃ w k3, k3 ≤ T.length ∧ v3 = .tuple #[I w, .bool true] ∧ RunAt h3 b (ownSl ut T.length) k3 false 0 (.slice none 0 0) ∧ rgo (S0 ++ cs) (ordF f (partL l i)) (T.drop kk) = .made (S0 ++ cs ++ [w]) (T.drop k3)) ∨ (∃ w, v3 = .tuple #[I w, .bool false] ∧ GrowQ S0 (rgo S0 (ordF (f + 1) l) (T.drop k)) T (ownSl ut T.length) b h (.tuple #[I 0, .bool false]) h3)) := by
            intro k2 s2 r2
            have hsub := (rl.same s2 (fun e => hxb e)).sub (lo := fromN l.length i) (hi := fromN l.length i + sizeN l.length i) (by omega) htop
            have e1 : fromN l.length i + sizeN l.length i - fromN l.length i = sizeN l.length i := by omega
            rw [e1] at hsub
            have hrow : RowAt k2 (.slice (some ⟨x, p + fromN l.length i * 2, none⟩) (sizeN l.length i) (cap - fromN l.length i)) 2 (partL l i).length (flat (partL l i)) u := by
              refine .inr ⟨x, _, _, hux, by rw [hpl], ?_⟩
              rw [partL, flat_take, flat_drop]
              rw [partL] at hpl
              rw [hpl]; exact hsub
            obtain ⟨v3, h3, F3, q3, s3⟩ := ih (partL l i) k2 _ u ut b T (S0 ++ cs) kk (by omega) (by omega) hrow hub r2 (o.same s2 (fun y hy e => hutb (by rw [hy, e]))) hutb g.kl hT1 hTb
            refine ⟨v3, h3, F3, s3, ?_⟩
            have nx := s2.next
            cases hx : rgo (S0 ++ cs) (ordF f (partL l i)) (T.drop kk) with
            | made W D =>
              rw [hx] at q3
              obtain ⟨w, k3, kl3, rfl, rfl, rfl, r3⟩ := q3
              exact .inl ⟨w, k3, kl3, rfl, r3, rfl⟩
            | ahead ws =>
              rw [hx] at q3
              obtain ⟨w, k3, x3, cap3, rfl, r3, rd3, l3⟩ := q3
              refine .inr ⟨w, rfl, ?_⟩
              have : rgo S0 (ordF (f + 1) l) (T.drop k) = .ahead ws := by
                rw [hord, rgo_app, g.go]
                exact rgo_stop hx (fun _ _ e => by cases e)
              rw [this]
              exact ⟨0, k3, x3, cap3, rfl, r3, rd3, by omega⟩
            | no =>
              rw [hx] at q3
              obtain ⟨w, k3, rfl, r3⟩ := q3
              refine .inr ⟨w, rfl, ?_⟩
              have : rgo S0 (ordF (f + 1) l) (T.drop k) = .no := by
                rw [hord, rgo_app, g.go]
                exact rgo_stop hx (fun _ _ e => by cases e)
              rw [this]
              exact ⟨0, k3, rfl, r3⟩
          have slc : ∀ k2, Same h k2 (· = b) → slV k2 2 (.slice (some ⟨x, p, none⟩) l.length cap) (some (I (fromN l.length i))) (some (I (fromN l.length i + sizeN l.length i : Nat))) = some (.slice (some ⟨x, p + fromN l.length i * 2, none⟩) (sizeN l.length i) (cap - fromN l.length i)) := by
            intro k2 s2
            have sl2 := (rl.same s2 (fun e => hxb e)).cut (lo := fromN l.length i) (hi := fromN l.length i + sizeN l.length i) (by omega) htop (by omega)
            have e : fromN l.length i + sizeN l.length i - fromN l.length i = sizeN l.length i := by omega
            rw [e] at sl2
            exact sl2
          rcases Nat.eq_zero_or_pos i with i0 | ip
          · have i0' : ((i : Int) > 0) = False := by simp; omega
            have ok2 : OwnAt h' uk 1 (i + 1 - 1) ((keysF l (i + 1)).map I) := by
              have := g.ok
              subst i0
              exact this
            have t11' : look ts 11 = ownSl uk (i + 1 - 1) := by
              rw [t11, i0]
            have sl2 := slc h' g.same
            obtain ⟨v3, h3, F3, s3, hres⟩ := child h' g.same g.run
            rcases hres with ⟨w, k3, kl3, rfl, r3, go3⟩ | ⟨w, rfl, hq⟩
            · obtain ⟨uc', k5, ha5, g5⟩ := g.next hbl (by omega) ok2 g.oc g.gk (fun y hy => (g.gc y hy).2) g.same s3 r3 kl3 go3
              simp only [cwf_seq, cwf_ops, o_p, owf_call, bo_eq, optQ_some, pop, popQ, ev, evs, putA, look_put, ite_true, ite_false, Nat.reduceEqDiff, t6, t13]
              refine ⟨_, _, NR.deg l.length hl _, ?_⟩
              simp only [cwf_seq, cwf_ops, c_true, cwf_skip, cwf_block, andThen_normal, owf_nil, o_p, owf_call, behind_eq, bo_eq, optQ_some, pop, popQ, ev, evs, putA, look_put, isB_true, abinF_eq, abin, decide_true, cond_true, ite_true, ite_false, Nat.reduceEqDiff, t6, t13, ci]
              refine ⟨_, _, NR.frm l.length i h2 hl hi _, ?_⟩
              simp only [cwf_seq, cwf_ops, c_false, cwf_skip, andThen_normal, owf_nil, o_p, owf_call, behind_eq, bo_eq, optQ_some, pop, popQ, ev, evs, putA, look_put, isB_false, abinF_eq, abin, decide_true, decide_false, cond_true, ite_true, ite_false, Bool.not_false, Nat.reduceEqDiff, t0, t1, t6, t13, i0']
              refine ⟨_, _, NR.siz l.length i h2 hl hi _, ?_⟩
              simp only [o_p, o_r, owf_call, behind_eq, bo_eq, optQ_some, pop, popQ, rop_slice, ev, evO, evs, putA, look_put, abinF_eq, abin, decide_true, cond_true, ite_true, ite_false, Nat.reduceEqDiff, wfs, sl2]
              refine ⟨_, _, F3, ?_⟩
              simp only [cwf_seq, cwf_ops, c_false, cwf_skip, andThen_normal, blockQ_normal, roundQ_normal, owf_nil, o_p, o_e, behind_eq, bo_eq, optQ_some, opt2_some, pop, popQ, ev, putA, look_put, isB_false, abinF_eq, abin, eop_app, eop_buildS, bldS_some, evP_nil, evP_cons, fillA_nil, fillA_one, List.length_cons, List.length_nil, List.set_cons_zero, Nat.lt_add_one, Nat.mul_one, scalar_int, decide_true, cond_true, ite_true, ite_false, Bool.not_true, Bool.not_false, Nat.reduceEqDiff, Nat.zero_add, true_and, List.getElem?_cons_zero, List.getElem?_cons_succ, t0, t1, t6, t12, t13, ha5, wi]
              refine ⟨degN l.length - (i + 1), by omega, i + 1, uk, uc', cs ++ [w], k3, rfl, by omega, by rw [t11'], rfl, rfl, g5⟩
            · have sF : Same h h3 (· = b) := g.same.trans s3 (fun _ _ x => x)
              simp only [cwf_seq, cwf_ops, o_p, owf_call, bo_eq, optQ_some, pop, popQ, ev, evs, putA, look_put, ite_true, ite_false, Nat.reduceEqDiff, t6, t13]
              refine ⟨_, _, NR.deg l.length hl _, ?_⟩
              simp only [cwf_seq, cwf_ops, c_true, cwf_skip, cwf_block, andThen_normal, owf_nil, o_p, owf_call, behind_eq, bo_eq, optQ_some, pop, popQ, ev, evs, putA, look_put, isB_true, abinF_eq, abin, decide_true, cond_true, ite_true, ite_false, Nat.reduceEqDiff, t6, t13, ci]
              refine ⟨_, _, NR.frm l.length i h2 hl hi _, ?_⟩
              simp only [cwf_seq, cwf_ops, c_false, cwf_skip, andThen_normal, owf_nil, o_p, owf_call, behind_eq, bo_eq, optQ_some, pop, popQ, ev, evs, putA, look_put, isB_false, abinF_eq, abin, decide_true, decide_false, cond_true, ite_true, ite_false, Bool.not_false, Nat.reduceEqDiff, t0, t1, t6, t13, i0']
              refine ⟨_, _, NR.siz l.length i h2 hl hi _, ?_⟩
              simp only [o_p, o_r, owf_call, behind_eq, bo_eq, optQ_some, pop, popQ, rop_slice, ev, evO, evs, putA, look_put, abinF_eq, abin, decide_true, cond_true, ite_true, ite_false, Nat.reduceEqDiff, wfs, sl2]
              refine ⟨_, _, F3, ?_⟩
              simp only [cwf_seq, cwf_ops, cwf_ret, c_true, andThen_normal, andThen_ret, blockQ_ret, roundQ_ret, fnQ_ret, owf_nil, o_p, behind_eq, bo_eq, optQ_some, pop, popQ, ev, putA, look_put, isB_true, resAll, resA, mkRes2, ite_true, ite_false, Bool.not_false, Nat.reduceEqDiff, Option.some.injEq, exists_eq_left', List.getElem?_cons_zero, List.getElem?_cons_succ]
              rw [tail_marks h h3 sF.marks]
              exact ⟨hq, sF⟩
          · have i0' : ((i : Int) > 0) = True := by simp; omega
            obtain ⟨uk2, k2, ha1, ok2, oc2, r2, gk2, gc2, s2, nk2⟩ := g.keys hbl ip (by omega) hfl
            have rk : h'.rd x (p + fromN l.length i * 2) = some (I l[fromN l.length i].1) := by
              rw [(rl.same g.same (fun e => hxb e)).rd (by omega)]; exact flat_key l _ hfl
            have sl2 := slc k2 s2
            obtain ⟨v3, h3, F3, s3, hres⟩ := child k2 s2 r2
            rcases hres with ⟨w, k3, kl3, rfl, r3, go3⟩ | ⟨w, rfl, hq⟩
            · obtain ⟨uc', k5, ha5, g5⟩ := g.next hbl (by omega) ok2 oc2 gk2 gc2 s2 s3 r3 kl3 go3
              simp only [cwf_seq, cwf_ops, o_p, owf_call, bo_eq, optQ_some, pop, popQ, ev, evs, putA, look_put, ite_true, ite_false, Nat.reduceEqDiff, t6, t13]
              refine ⟨_, _, NR.deg l.length hl _, ?_⟩
              simp only [cwf_seq, cwf_ops, c_true, cwf_skip, cwf_block, andThen_normal, owf_nil, o_p, owf_call, behind_eq, bo_eq, optQ_some, pop, popQ, ev, evs, putA, look_put, isB_true, abinF_eq, abin, decide_true, cond_true, ite_true, ite_false, Nat.reduceEqDiff, t6, t13, ci]
              refine ⟨_, _, NR.frm l.length i h2 hl hi _, ?_⟩
              simp only [cwf_seq, cwf_ops, c_true, andThen_normal, owf_nil, o_p, o_r, o_e, owf_call, behind_eq, bo_eq, optQ_some, opt2_some, pop, popQ, rop_load1, ldV_ptr, ev, evs, putA, look_put, isB_true, abinF_eq, abin, eop_app, eop_buildS, bldS_some, evP_nil, evP_cons, fillA_nil, fillA_one, List.length_cons, List.length_nil, List.set_cons_zero, Nat.lt_add_one, Int.toNat_natCast, Int.natCast_nonneg, Nat.mul_one, Nat.add_zero, scalar_int, inB_eq, decide_true, cond_true, ite_true, ite_false, Bool.and_true, Nat.reduceEqDiff, Nat.zero_add, t0, t1, t6, t13, i0', t11, cg, rk, ha1]
              refine ⟨_, _, NR.siz l.length i h2 hl hi _, ?_⟩
              simp only [o_p, o_r, owf_call, behind_eq, bo_eq, optQ_some, pop, popQ, rop_slice, ev, evO, evs, putA, look_put, abinF_eq, abin, decide_true, cond_true, ite_true, ite_false, Nat.reduceEqDiff, wfs, sl2]
              refine ⟨_, _, F3, ?_⟩
              simp only [cwf_seq, cwf_ops, c_false, cwf_skip, andThen_normal, blockQ_normal, roundQ_normal, owf_nil, o_p, o_e, behind_eq, bo_eq, optQ_some, opt2_some, pop, popQ, ev, putA, look_put, isB_false, abinF_eq, abin, eop_app, eop_buildS, bldS_some, evP_nil, evP_cons, fillA_nil, fillA_one, List.length_cons, List.length_nil, List.set_cons_zero, Nat.lt_add_one, Nat.mul_one, scalar_int, decide_true, cond_true, ite_true, ite_false, Bool.not_true, Bool.not_false, Nat.reduceEqDiff, Nat.zero_add, true_and, List.getElem?_cons_zero, List.getElem?_cons_succ, t0, t1, t6, t12, t13, ha5, wi]
              refine ⟨degN l.length - (i + 1), by omega, i + 1, uk2, uc', cs ++ [w], k3, rfl, by omega, rfl, rfl, rfl, g5⟩
            · have sF : Same h h3 (· = b) := s2.trans s3 (fun _ _ x => x)
              simp only [cwf_seq, cwf_ops, o_p, owf_call, bo_eq, optQ_some, pop, popQ, ev, evs, putA, look_put, ite_true, ite_false, Nat.reduceEqDiff, t6, t13]
              refine ⟨_, _, NR.deg l.length hl _, ?_⟩
              simp only [cwf_seq, cwf_ops, c_true, cwf_skip, cwf_block, andThen_normal, owf_nil, o_p, owf_call, behind_eq, bo_eq, optQ_some, pop, popQ, ev, evs, putA, look_put, isB_true, abinF_eq, abin, decide_true, cond_true, ite_true, ite_false, Nat.reduceEqDiff, t6, t13, ci]
              refine ⟨_, _, NR.frm l.length i h2 hl hi _, ?_⟩
              simp only [cwf_seq, cwf_ops, c_true, andThen_normal, owf_nil, o_p, o_r, o_e, owf_call, behind_eq, bo_eq, optQ_some, opt2_some, pop, popQ, rop_load1, ldV_ptr, ev, evs, putA, look_put, isB_true, abinF_eq, abin, eop_app, eop_buildS, bldS_some, evP_nil, evP_cons, fillA_nil, fillA_one, List.length_cons, List.length_nil, List.set_cons_zero, Nat.lt_add_one, Int.toNat_natCast, Int.natCast_nonneg, Nat.mul_one, Nat.add_zero, scalar_int, inB_eq, decide_true, cond_true, ite_true, ite_false, Bool.and_true, Nat.reduceEqDiff, Nat.zero_add, t0, t1, t6, t13, i0', t11, cg, rk, ha1]
              refine ⟨_, _, NR.siz l.length i h2 hl hi _, ?_⟩
              simp only [o_p, o_r, owf_call, behind_eq, bo_eq, optQ_some, pop, popQ, rop_slice, ev, evO, evs, putA, look_put, abinF_eq, abin, decide_true, cond_true, ite_true, ite_false, Nat.reduceEqDiff, wfs, sl2]
              refine ⟨_, _, F3, ?_⟩
              simp only [cwf_seq, cwf_ops, cwf_ret, c_true, andThen_normal, andThen_ret, blockQ_ret, roundQ_ret, fnQ_ret, owf_nil, o_p, behind_eq, bo_eq, optQ_some, pop, popQ, ev, putA, look_put, isB_true, resAll, resA, mkRes2, ite_true, ite_false, Bool.not_false, Nat.reduceEqDiff, Option.some.injEq, exists_eq_left', List.getElem?_cons_zero, List.getElem?_cons_succ]
              rw [tail_marks h h3 sF.marks]
              exact ⟨hq, sF⟩
        · have hid : i = degN l.length := by omega
          have ci : ((i : Int) < degN l.length) = False := by simp; omega
          have g2 := g
          rw [hid] at g2
          have eK : (keysF l (degN l.length)).length = degN l.length - 1 := keysF_len l _
          have eW : cs.length = degN l.length := g2.cl
          obtain ⟨yk, rfl⟩ : ∃ y, uk = some y := by
            cases hu : uk with
            | none => have := g2.ok.non hu; omega
            | some y => exact ⟨y, rfl⟩
          obtain ⟨yc, rfl⟩ : ∃ y, uc = some y := by
            cases hu : uc with
            | none => have := g2.oc.non hu; omega
            | some y => exact ⟨y, rfl⟩
          have ok6 := g2.ok
          have oc6 := g2.oc
          rw [← eK] at ok6
          rw [← eW] at oc6
          obtain ⟨v6, h6, F6, x6, hx6, rfl, r6, s6⟩ := rinner_spec hT H (n := l.length) ok6 oc6 (by intro e; rw [e] at eK; simp at eK; omega) (by omega) (by omega)
          rw [eW] at r6 F6
          have erec : recOf l cs = [(degN l.length : Int), (l.length : Int), 0, 0, 0] ++ keysF l (degN l.length) ++ cs := recOf_two h2 cs
          rw [← erec] at r6 F6
          rw [eK] at F6
          have sm6 : Same h h6 (· = b) := g.same.trans s6 (fun _ _ x => x.elim)
          obtain ⟨v7, h7, F7, ⟨a, okk, rfl, a0, a1, hm⟩, s7⟩ := fmake hT HF.toHasF (g.run.same s6 (fun x => x)) (o.same sm6 (fun y hy e => hutb (by rw [hy, e]))) hutb g.kl hT1 hTb (base := some ⟨x6, 0, none⟩) (n := (recOf l cs).length) (cap := (recOf l cs).length)
          obtain ⟨v8, h8, F8, ⟨w, rfl, hw⟩, rfl⟩ := rofA_spec hT H 3 a h7 (by omega) (by omega) a0 a1
          have sF : Same h h8 (· = b) := sm6.trans s7 (fun _ _ x => x)
          have t11' : look ts 11 = ownSl (some yk) (degN l.length - 1) := by rw [t11, hid]
          have t12' : look ts 12 = ownSl (some yc) (degN l.length) := by rw [t12, hid]
          simp only [cwf_seq, cwf_ops, o_p, owf_call, bo_eq, optQ_some, pop, popQ, ev, evs, putA, look_put, ite_true, ite_false, Nat.reduceEqDiff, t6, t13]
          refine ⟨_, _, NR.deg l.length hl _, ?_⟩
          simp only [cwf_seq, cwf_ops, c_false, cwf_exit, andThen_normal, andThen_exit, blockQ_exit, roundQ_exit, owf_nil, o_p, owf_call, behind_eq, bo_eq, optQ_some, pop, popQ, ev, evs, putA, look_put, isB_false, abinF_eq, abin, decide_true, decide_false, cond_true, ite_true, ite_false, Bool.not_false, Nat.reduceEqDiff, t0, t6, t11', t12', ci]
          refine ⟨_, _, F6, ?_⟩
          simp only [owf_call, behind_eq, ev, evs, putA, look_put, ite_true, ite_false, Nat.reduceEqDiff]
          refine ⟨_, _, F7, ?_⟩
          simp only [cwf_seq, cwf_ops, andThen_normal, owf_nil, o_p, owf_call, behind_eq, bo_eq, optQ_some, pop, popQ, ev, evs, putA, look_put, ite_true, ite_false, Nat.reduceEqDiff, List.getElem?_cons_zero, List.getElem?_cons_succ]
          refine ⟨_, _, F8, ?_⟩
          simp only [cwf_ret, andThen_normal, fnQ_ret, owf_nil, o_p, behind_eq, bo_eq, optQ_some, pop, popQ, ev, putA, look_put, resAll, resA, mkRes2, ite_true, ite_false, Nat.reduceEqDiff, Option.some.injEq, exists_eq_left']
          rw [tail_marks h h8 sF.marks]
          refine ⟨?_, sF⟩
          have hlast : rgo S0 (ordF (f + 1) l) (T.drop k) = rgo (S0 ++ cs) [l] (T.drop kk) := by
            rw [ordF, kidsOf_two h2, rgo_app, g2.go]; rfl
          rw [hlast]
          have nx := g.same.next
          exact makeQ_end (ch := cs) (by rw [kidsOf_two h2, List.length_append, eW, Nat.add_sub_cancel]; exact List.take_left) (by rw [kidsOf_two h2, List.length_append, eW, Nat.add_sub_cancel]; exact List.drop_left) g.kl (by omega) (r6.same s7 (fun e => by omega)) hm (fun h => by rw [hw h, kindOf_two h2])
      · exact ⟨OwnAt.nil _ _, OwnAt.nil _ _, rfl, r, hk, by rw [List.append_nil]; rfl, fun y hy => (by cases hy), fun y hy => (by cases hy), Same.refl _ _⟩
    · have hk0 : kidsOf l = 0 := if_pos (by omega)
      have hord : ordF (f + 1) l = [l] := by rw [ordF, hk0]; rfl
      rw [hord]
      obtain ⟨base, cap, hv⟩ := hr.len
      subst hv
      match l, h2, hk0, hr with
      | [], _, hk0, _ =>
        obtain ⟨v1, h1, F1, rfl, r1, s1⟩ := rempty_spec hT H h
        have x1 := s1.next
        obtain ⟨v7, h7, F7, ⟨a, okk, rfl, a0, a1, hm⟩, s7⟩ := fmake hT HF.toHasF (r.same s1 (fun x => x)) (o.same s1 (fun _ _ x => x)) hutb hk hT1 hTb (base := some ⟨h.next, 0, none⟩) (n := 1) (cap := 1)
        obtain ⟨v8, h8, F8, ⟨w, rfl, hw⟩, rfl⟩ := rofA_spec hT H 1 a h7 (by omega) (by omega) a0 a1
        have c0 : (((0 : Nat) : Int) == 0) = true := rfl
        refine fspec_cwf hT HF.m62 rfl ?_
        simp only [af62, cwf_seq, cwf_ops, c_true, andThen_normal, owf_nil, o_p, owf_call, bo_eq, optQ_some, pop, popQ, ev, evs, putA, putArgs, look_put, isB_true, abinF_eq, abin, List.length_nil, Int.cast_ofNat_Int, decide_true, cond_true, cond_false, ite_true, ite_false, Nat.reduceEqDiff, Nat.zero_add, beq_self_eq_true]
        refine ⟨_, _, F1, ?_⟩
        simp only [owf_call, behind_eq, ev, evs, putA, look_put, ite_true, ite_false, Nat.reduceEqDiff]
        refine ⟨_, _, F7, ?_⟩
        simp only [cwf_seq, cwf_ops, andThen_normal, owf_nil, o_p, owf_call, behind_eq, bo_eq, optQ_some, pop, popQ, ev, evs, putA, look_put, ite_true, ite_false, Nat.reduceEqDiff, List.getElem?_cons_zero, List.getElem?_cons_succ]
        refine ⟨_, _, F8, ?_⟩
        simp only [cwf_ret, andThen_normal, andThen_ret, fnQ_ret, owf_nil, o_p, behind_eq, bo_eq, optQ_some, pop, popQ, ev, putA, look_put, resAll, resA, mkRes2, ite_true, ite_false, Nat.reduceEqDiff, Option.some.injEq, exists_eq_left']
        have sF : Same h h8 (· = b) := (s1.mono (fun _ x => x.elim)).trans s7 (fun _ _ x => x)
        rw [tail_marks h h8 sF.marks]
        refine ⟨?_, sF⟩
        exact makeQ_end (ch := []) (by simp [hk0]) (by simp [hk0]) hk (Nat.le_refl _) (r1.same s7 (fun e => by omega)) hm hw
      | [q], _, hk0, hr =>
        rcases hr with ⟨e, _⟩ | ⟨x, p, cap, hux, e, rl⟩
        · simp at e
        cases e
        obtain ⟨v1, h1, F1, rfl, r1, s1⟩ := rleaf_spec hT H h q.1 q.2
        have x1 := s1.next
        obtain ⟨v7, h7, F7, ⟨a, okk, rfl, a0, a1, hm⟩, s7⟩ := fmake hT HF.toHasF (r.same s1 (fun x => x)) (o.same s1 (fun _ _ x => x)) hutb hk hT1 hTb (base := some ⟨h.next, 0, none⟩) (n := 2) (cap := 2)
        obtain ⟨v8, h8, F8, ⟨w, rfl, hw⟩, rfl⟩ := rofA_spec hT H 2 a h7 (by omega) (by omega) a0 a1
        have c0 : ((1 : Int) == 0) = false := rfl
        have q0 : h.rd x p = some (I q.1) := rl.rd (i := 0) (by simp)
        have q1 : h.rd x (p + 1) = some (I q.2) := rl.rd (i := 1) (by simp)
        refine fspec_cwf hT HF.m62 rfl ?_
        simp only [af62, cwf_seq, cwf_ops, c_true, c_false, cwf_skip, cwf_draw, andThen_normal, owf_nil, o_p, bo_eq, bd_eq, optQ_some, d_p, d_r, pop, popQ, rop_load1, ldV_ptr, ev, putA, putArgs, look_put, isB_true, isB_false, abinF_eq, abin, List.length_cons, List.length_nil, Int.reduceLT, Int.reduceLE, Int.reduceToNat, Nat.zero_mul, Nat.add_zero, Int.cast_ofNat_Int, inB_eq, decide_true, cond_true, cond_false, ite_true, ite_false, Bool.and_true, Bool.not_false, Nat.reduceEqDiff, Nat.zero_add, c0, beq_self_eq_true]
        obtain ⟨CF, hcf, g1, g2⟩ : ∃ CF : CallF, CfOk P CF ∧ CF (.fn 86) [I q.1, I q.2] h = some (.slice (some ⟨h.next, 0, none⟩) 2 2, h1) ∧ CF (.fn 76) [.pointer (some ⟨b, 0, none⟩), .slice (some ⟨h.next, 0, none⟩) 2 2] h1 = some (.tuple #[I a, .bool okk], h8) := ⟨cfOf 86 _ h _ h1 (cfOf 76 _ h1 _ h8 cf00), cfOf_ok F1 (cfOf_ok F7 cf00_ok), cfOf_eq, by rw [cfOf_ne (by decide)]; exact cfOf_eq⟩
        refine ⟨CF, hcf, ?_⟩
        simp only [cwf_seq, cwf_ops, andThen_normal, o_p, owf_call, bo_eq, bd_eq, bd2_eq, optQ_some, opt2_some, dwf_nil, d_p, d_r, d_call, pop, popQ, rop_load1, ldV_ptr, ev, evs, putA, look_put, Int.reduceLT, Int.reduceLE, Int.reduceToNat, Nat.zero_mul, Nat.add_zero, Int.cast_ofNat_Int, inB_eq, decide_true, cond_true, ite_true, ite_false, Bool.and_true, Nat.reduceEqDiff, List.getElem?_cons_zero, List.getElem?_cons_succ, q0, q1, g1, g2]
        refine ⟨_, _, F8, ?_⟩
        simp only [cwf_ret, andThen_normal, andThen_ret, fnQ_ret, owf_nil, o_p, behind_eq, bo_eq, optQ_some, pop, popQ, ev, putA, look_put, resAll, resA, mkRes2, ite_true, ite_false, Nat.reduceEqDiff, Option.some.injEq, exists_eq_left']
        have sF : Same h h8 (· = b) := (s1.mono (fun _ x => x.elim)).trans s7 (fun _ _ x => x)
        rw [tail_marks h h8 sF.marks]
        refine ⟨?_, sF⟩
        exact makeQ_end (ch := []) (by simp [hk0]) (by simp [hk0]) hk (Nat.le_refl _) (r1.same s7 (fun e => by omega)) hm hw
      | _ :: _ :: _, h2, _, _ => simp at h2
end
end
end Go.Proofs.YtedldiimhbebdaaGreat.Ai
/- What mid, play, settle, New, Do, Step of the document's frame come to, of a procedure that makes a tree. -/
namespace Go.Proofs.YtedldiimhbebdaaGreat.Ai
open Go.Proofs.YtedldiimhbebdaaGreat
noncomputable section
set_option linter.unusedVariables false
open Go.RowKit
structure HasF3 (tab : Nat → Option AFunc) : Prop extends HasF2 tab where
  m10 : tab 10 = some af10
  m15 : tab 15 = some af15
  m23 : tab 23 = some af23
  m26 : tab 26 = some af26
  m27 : tab 27 = some af27
  m41 : tab 41 = some af41

def nilS : Value := .slice none 0 0
def argsL (pv : Value) : List Value := [I 0, I 0, I 0, I 0, I 0, I 0, I 0, .bool false, I 0, .bool false, .slice none 0 0, .slice none 0 0, .slice none 0 0, pv, .slice none 0 0, I 0, I 0, I 0, I 0, I 0, I 0]
def outL (w : Int) (ok : Bool) : List Value := [I w, .bool ok, I 0, I 0, I 0, .slice none 0 0, .slice none 0 0, I 0, .bool false, I 0, I 0, I 0, .slice none 0 0]
def frL (pv tv : Value) (dn : Bool) (w : Int) (ok : Bool) : List Value := I 21 :: (argsL pv ++ (tv :: .bool dn :: (outL w ok ++ [I 0, I 0])))
def frBlk (pv tv : Value) (dn : Bool) (w : Int) (ok : Bool) : Blk := ⟨frL pv tv dn w ok, 39, 39, true, false⟩

/-- a procedure that makes a tree, in the document's words -/
structure DFr (h : Heap) (b : Nat) (pv : Value) (l : List Pr) (u ut : Option Nat) (T : List Int) (dn : Bool) (w : Int) (ok : Bool) : Prop where
  blk : h.blks.get b = some (frBlk pv (ownSl ut T.length) dn w ok)
  tape : OwnAt h ut 1 T.length (T.map I)
  row : RowAt h pv 2 l.length (flat l) u
  pr : PrAt h pv l u
  lt : b < h.next
  ub : u ≠ some b
  utb : ut ≠ some b
  uut : ∀ y, u = some y → ut ≠ some y
  ult : ∀ y, u = some y → y < h.next

theorem DFr.same {h h' : Heap} {b : Nat} {pv : Value} {l : List Pr} {u ut : Option Nat} {T : List Int} {dn ok : Bool} {w : Int} {S : Nat → Prop} (d : DFr h b pv l u ut T dn w ok) (m : Same h h' S) (hb : ¬ S b) (hu : ∀ y, u = some y → ¬ S y) (ht : ∀ y, ut = some y → ¬ S y) : DFr h' b pv l u ut T dn w ok :=
  ⟨by rw [m.get b d.lt hb]; exact d.blk, d.tape.same m ht, d.row.same m hu, d.pr.same m hu, Nat.lt_of_lt_of_le d.lt m.next, d.ub, d.utb, d.uut, fun y hy => Nat.lt_of_lt_of_le (d.ult y hy) m.next⟩

/-- what the procedure is at: the records of its tree, or none -/
noncomputable def goOf (l : List Pr) (T : List Int) : RG := open Classical in if Asc l then rgo [] (ordF (l.length + 1) l) T else .no

def PlayQ (x : RG) (T : List Int) (tv : Value) (rb : Nat) (h : Heap) (out : List Value) (h' : Heap) : Prop := match x with
  | .made W D => ∃ w k : Int, W = [w] ∧ out = outL w true ∧ RunAt h' rb tv k false 0 (.slice none 0 0)
  | .ahead ws => ∃ (k : Int) (x cap : Nat), out = outL 0 false ∧ RunAt h' rb tv k true 5 (.slice (some ⟨x, 0, none⟩) ws.length cap) ∧ RdAt h' x 0 1 ws.length cap (ws.map I) ∧ h.next ≤ x
  | .no => ∃ k : Int, out = outL 0 false ∧ RunAt h' rb tv k false 0 (.slice none 0 0)

theorem pop_buildN {ts : T Value} {z : List Value} : pop ts (.build z []) = some (.agg z.toArray) := (rfl)
theorem resA_tmp {ts : T Value} {h : Heap} {t : Nat} : resA ts h (.tmp t) = some (look ts t) := (rfl)
theorem resA_cellN {ts : T Value} {h : Heap} {t n : Nat} : resA ts h (.cellN t n) = ldN h n (look ts t) := (rfl)

theorem putN {h : Heap} {n m : Nat} {L L' : List Value} (hb : h.blks.get n = some ⟨L, m, m, true, false⟩) (hl : L.length = m) (hl' : L'.length = m) (h1 : 1 ≤ m) (hs : L'.all scalar = true) : ∃ h', stNV h m (.pointer (some ⟨n, 0, none⟩)) (.agg L'.toArray) = some (undef, h') ∧ h'.blks.get n = some ⟨L', m, m, true, false⟩ ∧ Same h h' (· = n) ∧ h'.next = h.next ∧ h'.rds n 0 m = some L' := by
  have hw : h.wrs n 0 L' = some (h.setB n ⟨spl L' L 0, m, m, true, false⟩) := wrsN_of hb rfl (by simp only [hl, hl']; omega) hs
  have e : spl L' L 0 = L' := by
    rw [spl_eq]; simp only [splice]
    rw [List.take_zero, List.nil_append, Nat.zero_add, List.drop_of_length_le (by omega), List.append_nil]
  rw [e] at hw
  have hg : (h.setB n ⟨L', m, m, true, false⟩).blks.get n = some ⟨L', m, m, true, false⟩ := by rw [setB_get, if_pos rfl]
  refine ⟨_, stNV_of hw hl' h1, hg, Same.setB rfl, rfl, ?_⟩
  rw [rds_of hg (by simp only [hl']; omega)]
  simp only [List.drop_zero]
  rw [List.take_of_length_le (by omega)]

theorem setN {h : Heap} {n m : Nat} {L : List Value} (hb : h.blks.get n = some ⟨L, m, m, true, false⟩) (i : Nat) (v : Value) (hi : i < L.length) (hv : scalar v = true) : ∃ h', h.wrs n i [v] = some h' ∧ h'.blks.get n = some ⟨L.set i v, m, m, true, false⟩ ∧ Same h h' (· = n) ∧ h'.next = h.next :=
  ⟨_, wrs1_of hb rfl hi hv, by rw [setB_get, if_pos rfl], Same.setB rfl, rfl⟩

section
variable {P : Program} {tab : Nat → Option AFunc} (hT : TabOk P tab) (H : HasR tab) (HF : HasF3 tab) (NR : NumF P)
include hT H HF NR

set_option maxHeartbeats 1000000 in
theorem mid_spec {h : Heap} {b rb : Nat} {pv : Value} {l : List Pr} {u ut : Option Nat} {T : List Int} {dn ok : Bool} {w : Int} (d : DFr h b pv l u ut T dn w ok) (r : RunAt h rb (ownSl ut T.length) (0 : Nat) false 0 (.slice none 0 0)) (hrb : rb ≠ b) (hur : u ≠ some rb) (hutr : ut ≠ some rb) (hl : l.length ≤ 120) (hT1 : T.length < 1000000) (hTb : ∀ t ∈ T, 0 ≤ t ∧ t ≤ 65536) :
    FSpec P 41 [.pointer (some ⟨b, 0, none⟩), .pointer (some ⟨rb, 0, none⟩)] h fun v h' => (∃ out, v = .agg (out : List Value).toArray ∧ PlayQ (goOf l T) T (ownSl ut T.length) rb h out h') ∧ Same h h' (· = rb) := by
  refine fspec_cwf hT HF.m41 rfl ?_
  have dl := d.lt
  have rl := r.lt
  let Z13 : List Value := outL 0 false
  have s1 : Same h (h.new ⟨Z13, 13, 13, true, false⟩) (fun _ => False) := Same.new
  have g1 : (h.new ⟨Z13, 13, 13, true, false⟩).blks.get h.next = some ⟨Z13, 13, 13, true, false⟩ := by rw [new_get]; exact if_pos rfl
  have n1 : (h.new ⟨Z13, 13, 13, true, false⟩).next = h.next + 1 := rfl
  generalize hh1 : h.new ⟨Z13, 13, 13, true, false⟩ = h1 at s1 g1 n1
  have d1 := d.same s1 (fun x => x) (fun _ _ x => x) (fun _ _ x => x)
  have x1 : ldN h1 21 (.pointer (some ⟨b, 1, none⟩)) = some (.agg (argsL pv).toArray) := ldN_of (l := argsL pv) (by rw [rds_of d1.blk (by simp [frBlk, frL, argsL, outL])]; rfl)
  let Z21 : List Value := argsL (.slice none 0 0)
  have s2 : Same h1 (h1.new ⟨Z21, 21, 21, true, false⟩) (fun _ => False) := Same.new
  have g2 : (h1.new ⟨Z21, 21, 21, true, false⟩).blks.get h1.next = some ⟨Z21, 21, 21, true, false⟩ := by rw [new_get]; exact if_pos rfl
  have n2 : (h1.new ⟨Z21, 21, 21, true, false⟩).next = h1.next + 1 := rfl
  generalize hh2 : h1.new ⟨Z21, 21, 21, true, false⟩ = h2 at s2 g2 n2
  obtain ⟨base, cap, hpv⟩ := d.row.len
  have psc : scalar pv = true := by rw [hpv]; exact scalar_slice _ _ _
  have w3 : h2.wrs h1.next 0 (argsL pv) = some (h2.setB h1.next ⟨argsL pv, 21, 21, true, false⟩) := wrsN_of g2 rfl (by simp [Z21, argsL]) (by simp [argsL, psc, scalar_int, scalar_slice, scalar_bool])
  have s3 : Same h2 (h2.setB h1.next ⟨argsL pv, 21, 21, true, false⟩) (· = h1.next) := Same.setB rfl
  have g3 : (h2.setB h1.next ⟨argsL pv, 21, 21, true, false⟩).blks.get h1.next = some ⟨argsL pv, 21, 21, true, false⟩ := by rw [setB_get, if_pos rfl]
  have n3 : (h2.setB h1.next ⟨argsL pv, 21, 21, true, false⟩).next = h2.next := rfl
  generalize hh3 : h2.setB h1.next ⟨argsL pv, 21, 21, true, false⟩ = h3 at w3 s3 g3 n3
  have e3 : stNV h2 21 (.pointer (some ⟨h1.next, 0, none⟩)) (.agg (argsL pv).toArray) = some (undef, h3) := stNV_of w3 rfl (by omega)
  have s4 : Same h3 (h3.new ⟨Z13, 13, 13, true, false⟩) (fun _ => False) := Same.new
  have g4 : (h3.new ⟨Z13, 13, 13, true, false⟩).blks.get h3.next = some ⟨Z13, 13, 13, true, false⟩ := by rw [new_get]; exact if_pos rfl
  have n4 : (h3.new ⟨Z13, 13, 13, true, false⟩).next = h3.next + 1 := rfl
  generalize hh4 : h3.new ⟨Z13, 13, 13, true, false⟩ = h4 at s4 g4 n4
  have w5 : h4.wrs h3.next 0 Z13 = some (h4.setB h3.next ⟨Z13, 13, 13, true, false⟩) := wrsN_of g4 rfl (by simp [Z13, outL]) (by simp [Z13, outL, scalar])
  have s5 : Same h4 (h4.setB h3.next ⟨Z13, 13, 13, true, false⟩) (· = h3.next) := Same.setB rfl
  have g5 : (h4.setB h3.next ⟨Z13, 13, 13, true, false⟩).blks.get h3.next = some ⟨Z13, 13, 13, true, false⟩ := by rw [setB_get, if_pos rfl]
  have n5 : (h4.setB h3.next ⟨Z13, 13, 13, true, false⟩).next = h4.next := rfl
  generalize hh5 : h4.setB h3.next ⟨Z13, 13, 13, true, false⟩ = h5 at w5 s5 g5 n5
  have e5 : stNV h4 13 (.pointer (some ⟨h3.next, 0, none⟩)) (.agg Z13.toArray) = some (undef, h5) := stNV_of w5 rfl (by omega)
  have sA : Same h h5 (fun _ => False) := (((s1.trans s2 (fun _ _ x => x)).trans s3 (fun j hj e => by omega)).trans s4 (fun _ _ x => x)).trans s5 (fun j hj e => by omega)
  have d5 := d.same sA (fun x => x) (fun _ _ x => x) (fun _ _ x => x)
  have r5 := r.same sA (fun x => x)
  have q0 : h5.rd b 0 = some (I 21) := rd_of d5.blk
  have g35 : h5.blks.get h1.next = some ⟨argsL pv, 21, 21, true, false⟩ := by rw [s5.get _ (by omega) (by omega), s4.get _ (by omega) (fun x => x)]; exact g3
  have q13 : h5.rd h1.next 13 = some pv := rd_of g35
  have k17 : ((21 : Int) == 17) = false := by decide
  have k18 : ((21 : Int) == 18) = false := by decide
  have k19 : ((21 : Int) == 19) = false := by decide
  have k20 : ((21 : Int) == 20) = false := by decide
  obtain ⟨v6, h6, F6, hv6, e6⟩ := rasc_spec hT H d5.pr (by omega)
  rw [e6] at F6
  clear e6
  have hh1' : h.new ⟨[.int .i64 0, .bool false, .int .i64 0, .int .i64 0, .int .i64 0, .slice none 0 0, .slice none 0 0, .int .i64 0, .bool false, .int .i64 0, .int .i64 0, .int .i64 0, .slice none 0 0], 13, 13, true, false⟩ = h1 := hh1
  have hh2' : h1.new ⟨[.int .i64 0, .int .i64 0, .int .i64 0, .int .i64 0, .int .i64 0, .int .i64 0, .int .i64 0, .bool false, .int .i64 0, .bool false, .slice none 0 0, .slice none 0 0, .slice none 0 0, .slice none 0 0, .slice none 0 0, .int .i64 0, .int .i64 0, .int .i64 0, .int .i64 0, .int .i64 0, .int .i64 0], 21, 21, true, false⟩ = h2 := hh2
  have hh4' : h3.new ⟨[.int .i64 0, .bool false, .int .i64 0, .int .i64 0, .int .i64 0, .slice none 0 0, .slice none 0 0, .int .i64 0, .bool false, .int .i64 0, .int .i64 0, .int .i64 0, .slice none 0 0], 13, 13, true, false⟩ = h4 := hh4
  have e5' : stNV h4 13 (.pointer (some ⟨h3.next, 0, none⟩)) (.agg (List.toArray [.int .i64 0, .bool false, .int .i64 0, .int .i64 0, .int .i64 0, .slice none 0 0, .slice none 0 0, .int .i64 0, .bool false, .int .i64 0, .int .i64 0, .int .i64 0, .slice none 0 0])) = some (undef, h5) := e5
  have x5n := sA.next
  have x35 : h5.next = h3.next + 1 := by omega
  -- a tree, or none
  have fin : ∀ (L : List Value) (k : Heap), k.blks.get h3.next = some ⟨L, 13, 13, true, false⟩ → L.length = 13 → L.all scalar = true → Same h k (· = rb) → k.blks.get h.next = some ⟨Z13, 13, 13, true, false⟩ → ∃ k', ldN k 13 (.pointer (some ⟨h3.next, 0, none⟩)) = some (.agg L.toArray) ∧ stNV k 13 (.pointer (some ⟨h.next, 0, none⟩)) (.agg L.toArray) = some (undef, k') ∧ Same k k' (· = h.next) ∧ Same h k' (· = rb) ∧ k'.rds h.next 0 13 = some L := by
    intro L k hk hl hs sk hz
    obtain ⟨k', e1, e2, e3, e4, e5⟩ := putN (L' := L) hz rfl hl (by omega) hs
    refine ⟨k', ldN_of (l := L) ?_, e1, e3, sk.trans e3 (fun j hj e => by omega), e5⟩
    rw [rds_of hk (by simp only [hl]; omega)]
    simp only [List.drop_zero]
    rw [List.take_of_length_le (by omega)]
  have g1' : h5.blks.get h.next = some ⟨Z13, 13, 13, true, false⟩ := by
    rw [s5.get _ (by omega) (by omega), s4.get _ (by omega) (fun x => x), s3.get _ (by omega) (by omega), s2.get _ (by omega) (fun x => x)]; exact g1
  rcases hv6 with ⟨rfl, hasc, _⟩ | ⟨rfl, hn⟩
  · have hgo : goOf l T = rgo [] (ordF (l.length + 1) l) (T.drop 0) := by
      rw [List.drop_zero]; unfold goOf; rw [if_pos hasc]
    obtain ⟨v7, h7, F7, q7, s7⟩ := rgrow_spec hT H HF.toHasF2 NR (l.length + 1) l h5 pv u ut rb T [] 0 (by omega) hl d5.row hur r5 d5.tape hutr (Nat.zero_le _) hT1 hTb
    have x7n := s7.next
    have sB : Same h h7 (· = rb) := (sA.mono (fun _ x => x.elim)).trans s7 (fun _ _ x => x)
    have g67 : h7.blks.get h3.next = some ⟨Z13, 13, 13, true, false⟩ := by rw [s7.get _ (by omega) (by omega)]; exact g5
    have g17 : h7.blks.get h.next = some ⟨Z13, 13, 13, true, false⟩ := by rw [s7.get _ (by omega) (by omega)]; exact g1'
    have key : (∃ w, v7 = .tuple #[I w, .bool true] ∧ ∀ k, Same h7 k (fun j => h.next ≤ j ∧ j ≤ h3.next) → PlayQ (goOf l T) T (ownSl ut T.length) rb h (outL w true) k) ∨ (∃ w, v7 = .tuple #[I w, .bool false] ∧ ∀ k, Same h7 k (fun j => h.next ≤ j ∧ j ≤ h3.next) → PlayQ (goOf l T) T (ownSl ut T.length) rb h (outL 0 false) k) := by
      rw [hgo]
      cases hx : rgo [] (ordF (l.length + 1) l) (T.drop 0) with
      | made W D =>
        rw [hx] at q7
        obtain ⟨w, kk, _, _, rfl, rfl, r7⟩ := q7
        exact .inl ⟨w, rfl, fun k sk => ⟨w, kk, rfl, rfl, r7.same sk (fun e => by omega)⟩⟩
      | ahead ws =>
        rw [hx] at q7
        obtain ⟨w, kk, x, cap, rfl, r7, rd7, l7⟩ := q7
        exact .inr ⟨w, rfl, fun k sk => ⟨kk, x, cap, rfl, r7.same sk (fun e => by omega), rd7.same sk (fun e => by omega), by omega⟩⟩
      | no =>
        rw [hx] at q7
        obtain ⟨w, kk, rfl, r7⟩ := q7
        exact .inr ⟨w, rfl, fun k sk => ⟨kk, rfl, r7.same sk (fun e => by omega)⟩⟩
    rcases key with ⟨w7, rfl, key⟩ | ⟨w7, rfl, key⟩
    · obtain ⟨h8, w8, g8, s8, n8⟩ := setN g67 0 (I w7) (by simp [Z13, outL]) (scalar_int _ _)
      obtain ⟨h9, w9, g9, s9, n9⟩ := setN g8 1 (.bool true) (by simp [Z13, outL]) (scalar_bool _)
      have eL : ((Z13.set 0 (I w7)).set 1 (.bool true)) = outL w7 true := rfl
      rw [eL] at g9
      have q91 : h9.rd h3.next 1 = some (.bool true) := rd_of g9
      have sC : Same h h9 (· = rb) := (sB.trans s8 (fun j hj e => by omega)).trans s9 (fun j hj e => by omega)
      obtain ⟨kf, f1, f2, sk, sF, f3⟩ := fin _ h9 g9 rfl (by simp [outL, scalar]) sC (by rw [s9.get _ (by omega) (by omega), s8.get _ (by omega) (by omega)]; exact g17)
      have hq := key kf (((s8.mono (fun j (e : j = h3.next) => by omega)).trans s9 (fun j hj (e : j = h3.next) => by omega)).trans sk (fun j hj (e : j = h.next) => by omega))
      simp only [af41, cwf_seq, cwf_ops, c_true, c_false, cwf_block, andThen_normal, owf_nil, o_p, o_r, o_e, owf_call, behind_eq, bo_eq, optQ_some, opt2_some, pop, popQ, rop_load1, ldV_ptr, ev, evs, putA, putArgs, look_put, isB_true, isB_false, abinF_eq, abin, evP_nil, fillA_nil, List.length_cons, List.length_nil, Nat.add_zero, decide_true, cond_true, ite_true, ite_false, Bool.not_false, Nat.reduceEqDiff, Nat.reduceAdd, Nat.zero_add, eop_alloc, rop_loadN, x1, hh1', hh2', hh4', eop_store21, eop_store13, e3, e5', q0, k17, k18, k19, k20, q13, beq_self_eq_true]
      refine ⟨_, _, F6, ?_⟩
      simp only [cwf_ops, c_true, andThen_normal, owf_nil, o_p, o_r, owf_call, behind_eq, bo_eq, optQ_some, pop, popQ, rop_load1, ldV_ptr, ev, evs, putA, look_put, isB_true, ite_true, ite_false, Nat.reduceEqDiff, Nat.zero_add, q13]
      refine ⟨_, _, F7, ?_⟩
      simp only [cwf_seq, cwf_ops, cwf_ret, c_false, cwf_skip, andThen_normal, blockQ_normal, fnQ_ret, owf_nil, o_p, o_r, o_e, behind_eq, bo_eq, optQ_some, opt2_some, pop, popQ, rop_load1, ldV_ptr, ev, putA, look_put, isB_false, resAll, resA, mkRes1, eop_store1, st1, Nat.add_zero, scalar_int, scalar_bool, ite_true, ite_false, Bool.not_true, Bool.not_false, Nat.reduceEqDiff, Nat.zero_add, Option.some.injEq, exists_eq_left', List.getElem?_cons_zero, List.getElem?_cons_succ, w8, w9, q91, rop_loadN, f1, eop_store13, f2, f3]
      rw [tail_marks h kf sF.marks]
      exact ⟨⟨_, rfl, hq⟩, sF⟩
    · obtain ⟨h8, w8, g8, s8, n8⟩ := setN g67 0 (I w7) (by simp [Z13, outL]) (scalar_int _ _)
      obtain ⟨h9, w9, g9, s9, n9⟩ := setN g8 1 (.bool false) (by simp [Z13, outL]) (scalar_bool _)
      have q91 : h9.rd h3.next 1 = some (.bool false) := rd_of g9
      obtain ⟨h10, w10, g10, s10, n10⟩ := setN g9 0 (I 0) (by simp [Z13, outL]) (scalar_int _ _)
      have eL : (((Z13.set 0 (I w7)).set 1 (.bool false)).set 0 (I 0)) = outL 0 false := rfl
      rw [eL] at g10
      have sC : Same h h10 (· = rb) := ((sB.trans s8 (fun j hj e => by omega)).trans s9 (fun j hj e => by omega)).trans s10 (fun j hj e => by omega)
      obtain ⟨kf, f1, f2, sk, sF, f3⟩ := fin _ h10 g10 rfl (by simp [outL, scalar]) sC (by rw [s10.get _ (by omega) (by omega), s9.get _ (by omega) (by omega), s8.get _ (by omega) (by omega)]; exact g17)
      have hq := key kf ((((s8.mono (fun j (e : j = h3.next) => by omega)).trans s9 (fun j hj (e : j = h3.next) => by omega)).trans s10 (fun j hj (e : j = h3.next) => by omega)).trans sk (fun j hj (e : j = h.next) => by omega))
      simp only [af41, cwf_seq, cwf_ops, c_true, c_false, cwf_block, andThen_normal, owf_nil, o_p, o_r, o_e, owf_call, behind_eq, bo_eq, optQ_some, opt2_some, pop, popQ, rop_load1, ldV_ptr, ev, evs, putA, putArgs, look_put, isB_true, isB_false, abinF_eq, abin, evP_nil, fillA_nil, List.length_cons, List.length_nil, Nat.add_zero, decide_true, cond_true, ite_true, ite_false, Bool.not_false, Nat.reduceEqDiff, Nat.reduceAdd, Nat.zero_add, eop_alloc, rop_loadN, x1, hh1', hh2', hh4', eop_store21, eop_store13, e3, e5', q0, k17, k18, k19, k20, q13, beq_self_eq_true]
      refine ⟨_, _, F6, ?_⟩
      simp only [cwf_ops, c_true, andThen_normal, owf_nil, o_p, o_r, owf_call, behind_eq, bo_eq, optQ_some, pop, popQ, rop_load1, ldV_ptr, ev, evs, putA, look_put, isB_true, ite_true, ite_false, Nat.reduceEqDiff, Nat.zero_add, q13]
      refine ⟨_, _, F7, ?_⟩
      simp only [cwf_seq, cwf_ops, cwf_ret, c_true, andThen_normal, blockQ_normal, fnQ_ret, owf_nil, o_p, o_r, o_e, behind_eq, bo_eq, optQ_some, opt2_some, pop, popQ, rop_load1, ldV_ptr, ev, putA, look_put, isB_true, resAll, resA, mkRes1, eop_store1, st1, Nat.add_zero, scalar_int, scalar_bool, ite_true, ite_false, Bool.not_false, Nat.reduceEqDiff, Nat.zero_add, Option.some.injEq, exists_eq_left', List.getElem?_cons_zero, List.getElem?_cons_succ, w8, w9, q91, w10, rop_loadN, f1, eop_store13, f2, f3]
      rw [tail_marks h kf sF.marks]
      exact ⟨⟨_, rfl, hq⟩, sF⟩
  · have hgo : goOf l T = .no := by
      unfold goOf; rw [if_neg (fun e => hn ⟨e, by omega⟩)]
    have q91 : h5.rd h3.next 1 = some (.bool false) := rd_of g5
    obtain ⟨h10, w10, g10, s10, n10⟩ := setN g5 0 (I 0) (by simp [Z13, outL]) (scalar_int _ _)
    have eL : (Z13.set 0 (I 0)) = outL 0 false := rfl
    rw [eL] at g10
    have sC : Same h h10 (· = rb) := (sA.mono (fun _ x => x.elim)).trans s10 (fun j hj e => by omega)
    obtain ⟨kf, f1, f2, sk, sF, f3⟩ := fin _ h10 g10 rfl (by simp [outL, scalar]) sC (by rw [s10.get _ (by omega) (by omega)]; exact g1')
    simp only [af41, cwf_seq, cwf_ops, c_true, c_false, cwf_block, andThen_normal, owf_nil, o_p, o_r, o_e, owf_call, behind_eq, bo_eq, optQ_some, opt2_some, pop, popQ, rop_load1, ldV_ptr, ev, evs, putA, putArgs, look_put, isB_true, isB_false, abinF_eq, abin, evP_nil, fillA_nil, List.length_cons, List.length_nil, Nat.add_zero, decide_true, cond_true, ite_true, ite_false, Bool.not_false, Nat.reduceEqDiff, Nat.reduceAdd, Nat.zero_add, eop_alloc, rop_loadN, x1, hh1', hh2', hh4', eop_store21, eop_store13, e3, e5', q0, k17, k18, k19, k20, q13, beq_self_eq_true]
    refine ⟨_, _, F6, ?_⟩
    simp only [cwf_seq, cwf_ops, cwf_ret, c_true, c_false, cwf_skip, andThen_normal, blockQ_normal, fnQ_ret, owf_nil, o_p, o_r, o_e, behind_eq, bo_eq, optQ_some, opt2_some, pop, popQ, rop_load1, ldV_ptr, ev, putA, look_put, isB_true, isB_false, resAll, resA, mkRes1, eop_store1, st1, Nat.add_zero, scalar_int, ite_true, ite_false, Bool.not_false, Nat.reduceEqDiff, Nat.zero_add, Option.some.injEq, exists_eq_left', q91, w10, rop_loadN, f1, eop_store13, f2, f3]
    rw [tail_marks h kf sF.marks]
    refine ⟨⟨_, rfl, ?_⟩, sF⟩
    rw [hgo]
    exact ⟨((0 : Nat) : Int), rfl, (r5.same s10 (fun e => by omega)).same sk (fun e => by omega)⟩
end
end
end Go.Proofs.YtedldiimhbebdaaGreat.Ai
/- What play, settle, New of the document's frame come to, of a procedure that makes a tree. -/
namespace Go.Proofs.YtedldiimhbebdaaGreat.Ai
open Go.Proofs.YtedldiimhbebdaaGreat
noncomputable section
set_option linter.unusedVariables false
open Go.RowKit

theorem PlayQ.same {x : RG} {T : List Int} {tv : Value} {rb : Nat} {h k k' : Heap} {out : List Value} {S : Nat → Prop} (q : PlayQ x T tv rb h out k) (m : Same k k' S) (hr : ¬ S rb) (hs : ∀ j, h.next ≤ j → ¬ S j) : PlayQ x T tv rb h out k' := by
  cases x with
  | made W D => obtain ⟨w, kk, e1, e2, r⟩ := q; exact ⟨w, kk, e1, e2, r.same m hr⟩
  | ahead ws => obtain ⟨kk, x, cap, e, r, rd, l⟩ := q; exact ⟨kk, x, cap, e, r.same m hr, rd.same m (hs x l), l⟩
  | no => obtain ⟨kk, e, r⟩ := q; exact ⟨kk, e, r.same m hr⟩

theorem PlayQ.low {x : RG} {T : List Int} {tv : Value} {rb : Nat} {h h0 k : Heap} {out : List Value} (q : PlayQ x T tv rb h out k) (hn : h0.next ≤ h.next) : PlayQ x T tv rb h0 out k := by
  cases x with
  | made W D => exact q
  | ahead ws => obtain ⟨kk, x, cap, e, r, rd, l⟩ := q; exact ⟨kk, x, cap, e, r, rd, Nat.le_trans hn l⟩
  | no => exact q

theorem PlayQ.out {x : RG} {T : List Int} {tv : Value} {rb : Nat} {h k : Heap} {out : List Value} (q : PlayQ x T tv rb h out k) : (∃ w ok, out = outL w ok) ∧ ∃ kk off kd wv, RunAt k rb tv kk off kd wv := by
  cases x with
  | made W D => obtain ⟨w, kk, e1, e2, r⟩ := q; exact ⟨⟨_, _, e2⟩, _, _, _, _, r⟩
  | ahead ws => obtain ⟨kk, x, cap, e, r, rd, l⟩ := q; exact ⟨⟨_, _, e⟩, _, _, _, _, r⟩
  | no => obtain ⟨kk, e, r⟩ := q; exact ⟨⟨_, _, e⟩, _, _, _, _, r⟩

/-- what settling leaves -/
def SetQ (x : RG) (h' : Heap) (b : Nat) (pv : Value) (l : List Pr) (u ut : Option Nat) (T : List Int) : Prop := match x with
  | .made W _ => ∃ w, W = [w] ∧ DFr h' b pv l u ut T true w true
  | .ahead _ => DFr h' b pv l u ut T false 0 false
  | .no => DFr h' b pv l u ut T true 0 false

section
variable {P : Program} {tab : Nat → Option AFunc} (hT : TabOk P tab) (H : HasR tab) (HF : HasF3 tab) (NR : NumF P)
include hT H HF NR

set_option maxHeartbeats 1000000 in
theorem play_spec {h : Heap} {b : Nat} {pv : Value} {l : List Pr} {u ut : Option Nat} {T : List Int} {dn ok : Bool} {w : Int} (d : DFr h b pv l u ut T dn w ok) (hl : l.length ≤ 120) (hT1 : T.length < 1000000) (hTb : ∀ t ∈ T, 0 ≤ t ∧ t ≤ 65536) :
    FSpec P 26 [.pointer (some ⟨b, 0, none⟩)] h fun v h' => ∃ rb out, v = .tuple #[.pointer (some ⟨rb, 0, none⟩), .agg (out : List Value).toArray] ∧ h.next ≤ rb ∧ PlayQ (goOf l T) T (ownSl ut T.length) rb h out h' ∧ Same h h' (fun _ => False) := by
  refine fspec_cwf hT HF.m26 rfl ?_
  have dl := d.lt
  have dt := fun y hy => (d.tape.use y hy).2.1
  have s1 : Same h (h.new ⟨outL 0 false, 13, 13, true, false⟩) (fun _ => False) := Same.new
  have g1 : (h.new ⟨outL 0 false, 13, 13, true, false⟩).blks.get h.next = some ⟨outL 0 false, 13, 13, true, false⟩ := by rw [new_get]; exact if_pos rfl
  have n1 : (h.new ⟨outL 0 false, 13, 13, true, false⟩).next = h.next + 1 := rfl
  generalize hh1 : h.new ⟨outL 0 false, 13, 13, true, false⟩ = h1 at s1 g1 n1
  have d1 := d.same s1 (fun x => x) (fun _ _ x => x) (fun _ _ x => x)
  have x1 : h1.rd b 22 = some (ownSl ut T.length) := rd_of d1.blk
  let RL : List Value := [ownSl ut T.length, I 0, .bool false, I 0, I 0, I 0, I 0, .slice none 0 0, I 0, I 0]
  have s2 : Same h1 (h1.new ⟨RL, 10, 10, true, false⟩) (fun _ => False) := Same.new
  have g2 : (h1.new ⟨RL, 10, 10, true, false⟩).blks.get h1.next = some (runBlk (ownSl ut T.length) (0 : Nat) false 0 (.slice none 0 0)) := by rw [new_get]; exact if_pos rfl
  have n2 : (h1.new ⟨RL, 10, 10, true, false⟩).next = h1.next + 1 := rfl
  have bx : boxV h1 10 (.agg RL.toArray) = some (.pointer (some ⟨h1.next, 0, none⟩), h1.new ⟨RL, 10, 10, true, false⟩) := rfl
  generalize hh2 : h1.new ⟨RL, 10, 10, true, false⟩ = h2 at s2 g2 n2 bx
  have sA : Same h h2 (fun _ => False) := s1.trans s2 (fun _ _ x => x)
  have d2 := d.same sA (fun x => x) (fun _ _ x => x) (fun _ _ x => x)
  have x2 : h2.rd b 0 = some (I 21) := rd_of d2.blk
  have r2 : RunAt h2 h1.next (ownSl ut T.length) (0 : Nat) false 0 (.slice none 0 0) := ⟨g2, by omega⟩
  obtain ⟨v3, h3, F3, ⟨out, rfl, q3⟩, s3⟩ := mid_spec hT H HF NR d2 r2 (by omega) (fun e => by have := d.ult _ e; omega) (fun e => by have := dt _ e; omega) hl hT1 hTb
  have n3 := s3.next
  obtain ⟨⟨w3, ok3, e3⟩, _⟩ := q3.out
  have g13 : h3.blks.get h.next = some ⟨outL 0 false, 13, 13, true, false⟩ := by rw [s3.get _ (by omega) (by omega), s2.get _ (by omega) (fun x => x)]; exact g1
  obtain ⟨h4, w4, g4, s4, n4, f4⟩ := putN (L' := out) g13 rfl (by rw [e3]; rfl) (by omega) (by rw [e3]; simp [outL, scalar])
  have sF : Same h h4 (fun _ => False) := (sA.trans s3 (fun j hj e => by omega)).trans s4 (fun j hj e => by omega)
  have q4 : PlayQ (goOf l T) T (ownSl ut T.length) h1.next h out h4 := (q3.same s4 (by omega) (fun j hj e => by omega)).low (h0 := h) (by omega)
  have k16 : ((21 : Int) ≤ 16) = False := by simp
  have k21 : ((21 : Int) ≤ 21) = True := by simp
  have hh1' : h.new ⟨[.int .i64 0, .bool false, .int .i64 0, .int .i64 0, .int .i64 0, .slice none 0 0, .slice none 0 0, .int .i64 0, .bool false, .int .i64 0, .int .i64 0, .int .i64 0, .slice none 0 0], 13, 13, true, false⟩ = h1 := hh1
  have bx' : boxV h1 10 (.agg (List.toArray [ownSl ut T.length, .int .i64 0, .bool false, .int .i64 0, .int .i64 0, .int .i64 0, .int .i64 0, .slice none 0 0, .int .i64 0, .int .i64 0])) = some (.pointer (some ⟨h1.next, 0, none⟩), h2) := bx
  have tsc : scalar (ownSl ut T.length) = true := scalar_slice _ _ _
  simp only [af26, cwf_seq, cwf_ops, c_true, c_false, cwf_block, andThen_normal, owf_nil, o_p, o_r, o_e, owf_call, behind_eq, bo_eq, optQ_some, opt2_some, pop, popQ, rop_load1, ldV_ptr, ev, evs, putA, putArgs, look_put, isB_true, isB_false, abinF_eq, abin, eop_box, evP_nil, evP_cons, fillA_nil, fillA_one, List.length_cons, List.length_nil, List.set_cons_zero, Nat.reduceLT, Nat.add_zero, decide_true, decide_false, cond_true, ite_true, ite_false, Bool.not_false, Nat.reduceEqDiff, Nat.reduceAdd, Nat.zero_add, eop_alloc, hh1', x1, bx', x2, k16, k21, tsc]
  refine ⟨_, _, F3, ?_⟩
  simp only [cwf_ret, andThen_normal, andThen_ret, blockQ_ret, fnQ_ret, owf_nil, o_p, o_e, behind_eq, bo_eq, optQ_some, opt2_some, pop, popQ, ev, putA, look_put, resAll, resA, mkRes2, ite_true, ite_false, Nat.reduceEqDiff, Option.some.injEq, exists_eq_left', eop_store13, w4, f4]
  rw [tail_marks h h4 sF.marks]
  exact ⟨_, _, rfl, by omega, q4, sF⟩

set_option maxHeartbeats 1000000 in
theorem settle_spec {h : Heap} {b : Nat} {pv : Value} {l : List Pr} {u ut : Option Nat} {T : List Int} (d : DFr h b pv l u ut T false 0 false) (hl : l.length ≤ 120) (hT1 : T.length < 1000000) (hTb : ∀ t ∈ T, 0 ≤ t ∧ t ≤ 65536) :
    FSpec P 23 [.pointer (some ⟨b, 0, none⟩)] h fun v h' => v = .tuple #[] ∧ SetQ (goOf l T) h' b pv l u ut T ∧ Same h h' (· = b) := by
  refine fspec_cwf hT HF.m23 rfl ?_
  have dl := d.lt
  obtain ⟨v1, h1, F1, rb, out, rfl, lrb, q1, s1⟩ := play_spec hT H HF NR d hl hT1 hTb
  have n1 := s1.next
  have d1 := d.same s1 (fun x => x) (fun _ _ x => x) (fun _ _ x => x)
  obtain ⟨⟨w0, ok0, eout⟩, kk, off, kd, wv, r1⟩ := q1.out
  have rl1 := r1.lt
  have s2 : Same h1 (h1.new ⟨outL 0 false, 13, 13, true, false⟩) (fun _ => False) := Same.new
  have g2 : (h1.new ⟨outL 0 false, 13, 13, true, false⟩).blks.get h1.next = some ⟨outL 0 false, 13, 13, true, false⟩ := by rw [new_get]; exact if_pos rfl
  have n2 : (h1.new ⟨outL 0 false, 13, 13, true, false⟩).next = h1.next + 1 := rfl
  generalize hh2 : h1.new ⟨outL 0 false, 13, 13, true, false⟩ = h2 at s2 g2 n2
  obtain ⟨h3, w3, g3, s3, n3, f3⟩ := putN (L' := out) g2 rfl (by rw [eout]; rfl) (by omega) (by rw [eout]; simp [outL, scalar])
  have sA : Same h1 h3 (fun j => h1.next ≤ j) := (s2.mono (T := fun j => h1.next ≤ j) (fun _ x => x.elim)).trans s3 (fun j hj e => by omega)
  have d3 := d1.same sA (fun e => by have := d1.lt; omega) (fun y hy e => by have := d1.ult y hy; omega) (fun y hy e => by have := (d1.tape.use y hy).2.1; omega)
  have r3 := r1.same sA (fun e => by omega)
  have q3 := q1.same sA (fun e => by omega)
  have a8 : h3.rd rb 8 = some (I 0) := rd_of r3.blk
  obtain ⟨base, cap, hpv⟩ := d.row.len
  have psc : scalar pv = true := by rw [hpv]; exact scalar_slice _ _ _
  obtain ⟨h4, w4, g4, s4, n4⟩ := setN d3.blk 37 (I 0) (by simp [frL, argsL, outL]) (scalar_int _ _)
  have e4 : (frL pv (ownSl ut T.length) false 0 false).set 37 (I 0) = frL pv (ownSl ut T.length) false 0 false := rfl
  rw [e4] at g4
  have hrb : rb ≠ b := by omega
  have r4 := r3.same s4 hrb
  have a9 : h4.rd rb 9 = some (I 0) := rd_of r4.blk
  obtain ⟨h5, w5, g5, s5, n5⟩ := setN g4 38 (I 0) (by simp [frL, argsL, outL]) (scalar_int _ _)
  have e5 : (frL pv (ownSl ut T.length) false 0 false).set 38 (I 0) = frL pv (ownSl ut T.length) false 0 false := rfl
  rw [e5] at g5
  have r5 := r4.same s5 hrb
  have a2 : h5.rd rb 2 = some (.bool off) := rd_of r5.blk
  have sB : Same h h5 (· = b) := ((((s1.mono (T := (· = b)) (fun _ x => x.elim)).trans sA (fun j hj e => by omega)).trans s4 (fun _ _ x => x)).trans s5 (fun _ _ x => x))
  have nb5 : ∀ (k : Heap), Same h k (· = b) → ∀ (tv : Value) (dn ok : Bool) (w : Int), k.blks.get b = some (frBlk pv (ownSl ut T.length) dn w ok) → DFr k b pv l u ut T dn w ok := fun k sk tv dn ok w hb => ⟨hb, d.tape.same sk (fun y hy e => d.utb (by rw [hy, e])), d.row.same sk (fun y hy e => d.ub (by rw [hy, e])), d.pr.same sk (fun y hy e => d.ub (by rw [hy, e])), Nat.lt_of_lt_of_le dl sk.next, d.ub, d.utb, d.uut, fun y hy => Nat.lt_of_lt_of_le (d.ult y hy) sk.next⟩
  have hh2' : h1.new ⟨[.int .i64 0, .bool false, .int .i64 0, .int .i64 0, .int .i64 0, .slice none 0 0, .slice none 0 0, .int .i64 0, .bool false, .int .i64 0, .int .i64 0, .int .i64 0, .slice none 0 0], 13, 13, true, false⟩ = h2 := hh2
  cases off with
  | true =>
    have hgo : ∃ ws, goOf l T = .ahead ws := by
      cases hx : goOf l T with
      | made W D =>
        rw [hx] at q1
        obtain ⟨w, k, _, _, r⟩ := q1
        have := r.blk.symm.trans r1.blk
        simp [runBlk] at this
      | ahead ws => exact ⟨ws, rfl⟩
      | no =>
        rw [hx] at q1
        obtain ⟨k, _, r⟩ := q1
        have := r.blk.symm.trans r1.blk
        simp [runBlk] at this
    obtain ⟨ws, hgo⟩ := hgo
    simp only [af23, cwf_seq, cwf_ops, o_p, owf_call, bo_eq, optQ_some, pop, popQ, ev, evs, putA, putArgs, look_put, ite_true, ite_false, Nat.reduceEqDiff]
    refine ⟨_, _, F1, ?_⟩
    simp only [cwf_seq, cwf_ops, c_false, cwf_skip, andThen_normal, fnQ_normal, owf_nil, o_p, o_r, o_e, behind_eq, bo_eq, optQ_some, opt2_some, pop, popQ, rop_load1, ldV_ptr, ev, putA, look_put, isB_false, resAll, mkRes0, eop_store1, st1, List.length_cons, List.length_nil, scalar_int, ite_true, ite_false, Bool.not_true, Bool.not_false, Nat.reduceEqDiff, Nat.reduceAdd, Nat.zero_add, Option.some.injEq, exists_eq_left', true_and, List.getElem?_cons_zero, List.getElem?_cons_succ, eop_alloc, hh2', eop_store13, w3, a8, w4, a9, w5, a2]
    rw [tail_marks h h5 sB.marks]
    refine ⟨?_, sB⟩
    rw [hgo]
    exact nb5 h5 sB pv false false 0 g5
  | false =>
    obtain ⟨h6, w6, g6, s6, n6⟩ := setN g5 23 (.bool true) (by simp [frL, argsL, outL]) (scalar_bool _)
    have e6 : (frL pv (ownSl ut T.length) false 0 false).set 23 (.bool true) = frL pv (ownSl ut T.length) true 0 false := rfl
    rw [e6] at g6
    have f36 : h6.rds h1.next 0 13 = some out := by
      have : h6.blks.get h1.next = some ⟨out, 13, 13, true, false⟩ := by
        rw [s6.get _ (by omega) (by omega), s5.get _ (by omega) (by omega), s4.get _ (by omega) (by omega)]; exact g3
      rw [rds_of this (by rw [eout]; simp [outL]), eout]; rfl
    have f36' : ldN h6 13 (.pointer (some ⟨h1.next, 0, none⟩)) = some (.agg out.toArray) := ldN_of f36
    have w7 : h6.wrs b 24 out = some (h6.setB b (frBlk pv (ownSl ut T.length) true w0 ok0)) := by
      rw [eout, wrsN_of g6 rfl (by simp [frL, argsL, outL]) (by simp [outL, scalar])]; rfl
    have s7 : Same h6 (h6.setB b (frBlk pv (ownSl ut T.length) true w0 ok0)) (· = b) := Same.setB rfl
    have g7 : (h6.setB b (frBlk pv (ownSl ut T.length) true w0 ok0)).blks.get b = some (frBlk pv (ownSl ut T.length) true w0 ok0) := by rw [setB_get, if_pos rfl]
    generalize hh7 : h6.setB b (frBlk pv (ownSl ut T.length) true w0 ok0) = h7 at w7 s7 g7
    have e7 : stNV h6 13 (.pointer (some ⟨b, 24, none⟩)) (.agg out.toArray) = some (undef, h7) := stNV_of w7 (by rw [eout]; rfl) (by omega)
    have sF : Same h h7 (· = b) := (sB.trans s6 (fun _ _ x => x)).trans s7 (fun _ _ x => x)
    have fin : SetQ (goOf l T) h7 b pv l u ut T := by
      cases hx : goOf l T with
      | made W D =>
        rw [hx] at q1
        obtain ⟨w, k, rfl, eo, r⟩ := q1
        rw [eout] at eo
        simp [outL] at eo
        obtain ⟨rfl, rfl⟩ := eo
        exact ⟨w0, rfl, nb5 h7 sF pv true true w0 g7⟩
      | ahead ws =>
        rw [hx] at q1
        obtain ⟨k, x, cap, eo, r, _⟩ := q1
        have := r.blk.symm.trans r1.blk
        simp [runBlk] at this
      | no =>
        rw [hx] at q1
        obtain ⟨k, eo, r⟩ := q1
        rw [eout] at eo
        simp [outL] at eo
        obtain ⟨rfl, rfl⟩ := eo
        exact nb5 h7 sF pv true false 0 g7
    simp only [af23, cwf_seq, cwf_ops, o_p, owf_call, bo_eq, optQ_some, pop, popQ, ev, evs, putA, putArgs, look_put, ite_true, ite_false, Nat.reduceEqDiff]
    refine ⟨_, _, F1, ?_⟩
    simp only [cwf_seq, cwf_ops, c_true, andThen_normal, fnQ_normal, owf_nil, o_p, o_r, o_e, behind_eq, bo_eq, optQ_some, opt2_some, pop, popQ, rop_load1, ldV_ptr, ev, putA, look_put, isB_true, resAll, mkRes0, eop_store1, st1, List.length_cons, List.length_nil, scalar_int, scalar_bool, ite_true, ite_false, Bool.not_false, Nat.reduceEqDiff, Nat.reduceAdd, Nat.zero_add, Option.some.injEq, exists_eq_left', true_and, List.getElem?_cons_zero, List.getElem?_cons_succ, eop_alloc, hh2', eop_store13, w3, a8, w4, a9, w5, a2, w6, rop_loadN, f36', e7]
    rw [tail_marks h h7 sF.marks]
    exact ⟨fin, sF⟩

set_option maxHeartbeats 1000000 in
theorem rnewF_spec {h : Heap} {pv : Value} {l : List Pr} {u : Option Nat} (row : RowAt h pv 2 l.length (flat l) u) (pr : PrAt h pv l u) (ul : ∀ y, u = some y → y < h.next) (hl : l.length ≤ 120) :
    FSpec P 10 [I 21, .agg (argsL pv).toArray] h fun v h' => ∃ b, v = .pointer (some ⟨b, 0, none⟩) ∧ h.next ≤ b ∧ SetQ (goOf l []) h' b pv l u none [] ∧ Same h h' (fun _ => False) := by
  refine fspec_cwf hT HF.m10 rfl ?_
  have bx1 : boxV h 21 (.agg (argsL pv).toArray) = some (.pointer (some ⟨h.next, 0, none⟩), h.new ⟨argsL pv, 21, 21, true, false⟩) := rfl
  have s1 : Same h (h.new ⟨argsL pv, 21, 21, true, false⟩) (fun _ => False) := Same.new
  have g1 : (h.new ⟨argsL pv, 21, 21, true, false⟩).blks.get h.next = some ⟨argsL pv, 21, 21, true, false⟩ := by rw [new_get]; exact if_pos rfl
  have n1 : (h.new ⟨argsL pv, 21, 21, true, false⟩).next = h.next + 1 := rfl
  generalize hh1 : h.new ⟨argsL pv, 21, 21, true, false⟩ = h1 at s1 g1 n1 bx1
  have l1 : ldN h1 21 (.pointer (some ⟨h.next, 0, none⟩)) = some (.agg (argsL pv).toArray) := ldN_of (l := argsL pv) (by rw [rds_of g1 (by simp [argsL])]; rfl)
  obtain ⟨base, cap, hpv⟩ := row.len
  have psc : scalar pv = true := by rw [hpv]; exact scalar_slice _ _ _
  have e0 : (Value.agg (argsL pv).toArray).cells.toList = argsL pv := rfl
  let Z39 : List Value := frL (.slice none 0 0) (.slice none 0 0) false 0 false
  have fl : fillA (Z39.set 0 (I 21)) [(1, 21, .agg (argsL pv).toArray)] = some (frL pv (.slice none 0 0) false 0 false) := rfl
  have bx2 : boxV h1 39 (.agg (frL pv (.slice none 0 0) false 0 false).toArray) = some (.pointer (some ⟨h1.next, 0, none⟩), h1.new ⟨frL pv (.slice none 0 0) false 0 false, 39, 39, true, false⟩) := rfl
  have s2 : Same h1 (h1.new ⟨frL pv (.slice none 0 0) false 0 false, 39, 39, true, false⟩) (fun _ => False) := Same.new
  have g2 : (h1.new ⟨frL pv (.slice none 0 0) false 0 false, 39, 39, true, false⟩).blks.get h1.next = some (frBlk pv (ownSl none 0) false 0 false) := by rw [new_get]; exact if_pos rfl
  have n2 : (h1.new ⟨frL pv (.slice none 0 0) false 0 false, 39, 39, true, false⟩).next = h1.next + 1 := rfl
  generalize hh2 : h1.new ⟨frL pv (.slice none 0 0) false 0 false, 39, 39, true, false⟩ = h2 at s2 g2 n2 bx2
  have sA : Same h h2 (fun _ => False) := s1.trans s2 (fun _ _ x => x)
  have d2 : DFr h2 h1.next pv l u none [] false 0 false := ⟨g2, OwnAt.nil _ _, row.same sA (fun _ _ x => x), pr.same sA (fun _ _ x => x), by omega, fun e => by have := ul _ e; omega, by simp, fun y hy => by simp, fun y hy => by have := ul _ hy; omega⟩
  obtain ⟨v3, h3, F3, rfl, q3, s3⟩ := settle_spec hT H HF NR d2 hl (by simp) (fun t ht => by cases ht)
  have sF : Same h h3 (fun _ => False) := sA.trans s3 (fun j hj e => by omega)
  have fl' : fillA [I 21, .int .i64 0, .int .i64 0, .int .i64 0, .int .i64 0, .int .i64 0, .int .i64 0, .int .i64 0, .bool false, .int .i64 0, .bool false, .slice none 0 0, .slice none 0 0, .slice none 0 0, .slice none 0 0, .slice none 0 0, .int .i64 0, .int .i64 0, .int .i64 0, .int .i64 0, .int .i64 0, .int .i64 0, .slice none 0 0, .bool false, .int .i64 0, .bool false, .int .i64 0, .int .i64 0, .int .i64 0, .slice none 0 0, .slice none 0 0, .int .i64 0, .bool false, .int .i64 0, .int .i64 0, .int .i64 0, .slice none 0 0, .int .i64 0, .int .i64 0] [(1, 21, .agg (argsL pv).toArray)] = some (frL pv (.slice none 0 0) false 0 false) := fl
  simp only [af10, cwf_seq, cwf_ops, andThen_normal, owf_nil, o_p, o_r, o_e, owf_call, behind_eq, bo_eq, optQ_some, opt2_some, pop, popQ, ev, evs, putA, putArgs, look_put, eop_box, evP_nil, evP_cons, fillA_one, List.length_cons, List.length_nil, List.set_cons_zero, Nat.reduceLT, scalar_int, ite_true, ite_false, Nat.reduceEqDiff, Nat.reduceAdd, Nat.zero_add, bx1, rop_loadN, l1, fl', bx2]
  refine ⟨_, _, F3, ?_⟩
  simp only [cwf_seq, cwf_ops, cwf_ret, andThen_normal, fnQ_ret, owf_nil, o_p, behind_eq, bo_eq, optQ_some, pop, popQ, ev, putA, look_put, resAll, resA, mkRes1, ite_true, ite_false, Nat.reduceEqDiff, Option.some.injEq, exists_eq_left']
  rw [tail_marks h h3 sF.marks]
  exact ⟨h1.next, rfl, by omega, q3, sF⟩
end
end
end Go.Proofs.YtedldiimhbebdaaGreat.Ai
/- What Do and Step of the document's frame come to, of a procedure that makes a tree. -/
namespace Go.Proofs.YtedldiimhbebdaaGreat.Ai
open Go.Proofs.YtedldiimhbebdaaGreat
noncomputable section
open Go.RowKit

def RG.stands : RG → Bool
  | .ahead _ => false
  | _ => true

theorem SetQ.done {x : RG} {h : Heap} {b : Nat} {pv : Value} {l : List Pr} {u ut : Option Nat} {T : List Int} (q : SetQ x h b pv l u ut T) : ∃ w ok, DFr h b pv l u ut T x.stands w ok := by
  cases x with
  | made W D => obtain ⟨w, _, d⟩ := q; exact ⟨_, _, d⟩
  | ahead ws => exact ⟨_, _, q⟩
  | no => exact ⟨_, _, q⟩

section
variable {P : Program} {tab : Nat → Option AFunc} (hT : TabOk P tab) (H : HasR tab) (HF : HasF3 tab) (NR : NumF P)
include hT H HF

theorem do_spec {h : Heap} {b : Nat} {um : Option Nat} {C ws : List Int} {z c o r : Int} (m : RMemAt h b um C z c o r) {x cap : Nat} (hw : RdAt h x 0 1 ws.length cap (ws.map I)) (hx : x ≠ b) (n0 : ws ≠ []) (hC : (C.length : Int) ≤ z) (hz : z ≤ 65536) (hc : 0 ≤ c ∧ c < 1000000000) (hr : 0 ≤ r ∧ r < 1000000000) :
    FSpec P 27 [.pointer (some ⟨b, 0, none⟩), asked (.slice (some ⟨x, 0, none⟩) ws.length cap)] h fun v h' => (∃ (a : Int) (um' : Option Nat) (C' : List Int) (r' : Int), v = I a ∧ ((C.length : Int) + ws.length ≤ z ∧ a = C.length + 1 ∧ C' = C ++ ws ∧ r' = r ∨ z < (C.length : Int) + ws.length ∧ a = 0 ∧ C' = C ∧ r' = r + 1) ∧ RMemAt h' b um' C' z (c + 1) o r' ∧ (∀ y, um' = some y → um = some y ∨ h.next ≤ y)) ∧ Same h h' (fun j => j = b ∨ um = some j) := by
  refine fspec_cwf hT HF.m27 rfl ?_
  have ml := m.lt
  have mu := fun y hy => (m.use y hy).2.2.1
  let L : List Value := [I 5, I 0, I 0, I 0, .slice (some ⟨x, 0, none⟩) ws.length cap]
  have bx : boxV h 5 (.agg L.toArray) = some (.pointer (some ⟨h.next, 0, none⟩), h.new ⟨L, 5, 5, true, false⟩) := boxV5 _ _ _ _ _ _
  have s1 : Same h (h.new ⟨L, 5, 5, true, false⟩) (fun _ => False) := Same.new
  have g1 : (h.new ⟨L, 5, 5, true, false⟩).blks.get h.next = some ⟨L, 5, 5, true, false⟩ := by rw [new_get]; exact if_pos rfl
  generalize hh1 : h.new ⟨L, 5, 5, true, false⟩ = h1 at bx s1 g1
  have bx' : boxV h 5 (.agg (List.toArray [I 5, I 0, I 0, I 0, .slice (some ⟨x, 0, none⟩) ws.length cap])) = some (.pointer (some ⟨h.next, 0, none⟩), h1) := bx
  have q0 : h1.rd h.next 0 = some (I 5) := rd_of g1
  have q4 : h1.rd h.next 4 = some (.slice (some ⟨x, 0, none⟩) ws.length cap) := rd_of g1
  have k1 : ((5 : Int) == 1) = false := by decide
  have k2 : ((5 : Int) == 2) = false := by decide
  have k3 : ((5 : Int) == 3) = false := by decide
  have k4 : ((5 : Int) == 4) = false := by decide
  have m1 := m.same s1 (fun x => x) (fun _ _ x => x)
  have x1 := s1.next
  by_cases hroom : (C.length : Int) + ws.length ≤ z
  · obtain ⟨v2, h2, F2, rfl, ⟨um', m2, hum⟩, s2⟩ := rmake_ok hT H m1 (hw.same s1 (fun x => x)) hx n0 hroom hz hc
    have sF : Same h h2 (fun j => j = b ∨ um = some j) := (s1.mono (fun _ x => x.elim)).trans s2 (fun _ _ x => x)
    simp only [asked, af27, cwf_seq, cwf_ops, c_true, c_false, cwf_block, andThen_normal, owf_nil, o_p, o_r, o_e, owf_call, behind_eq, bo_eq, optQ_some, opt2_some, pop, popQ, rop_load1, ldV_ptr, ev, evs, putA, putArgs, look_put, isB_true, isB_false, abinF_eq, abin, eop_box, Nat.add_zero, decide_true, cond_true, ite_true, ite_false, Bool.not_false, Nat.reduceEqDiff, Nat.zero_add, bx', q0, k1, k2, k3, k4, beq_self_eq_true, q4]
    refine ⟨_, _, F2, ?_⟩
    simp only [cwf_seq, cwf_ops, cwf_ret, andThen_normal, andThen_ret, blockQ_ret, fnQ_ret, owf_nil, o_p, behind_eq, bo_eq, optQ_some, pop, popQ, ev, putA, look_put, resAll, resA, mkRes1, ite_true, ite_false, Nat.reduceEqDiff, Option.some.injEq, exists_eq_left', List.getElem?_cons_zero, List.getElem?_cons_succ]
    rw [tail_marks h h2 sF.marks]
    exact ⟨⟨_, um', _, _, rfl, .inl ⟨hroom, rfl, rfl, rfl⟩, m2, fun y hy => (hum y hy).imp_right (fun e => by omega)⟩, sF⟩
  · obtain ⟨v2, h2, F2, rfl, m2, s2⟩ := rmake_no hT H m1 (base := some ⟨x, 0, none⟩) (cap := cap) (n := ws.length) (.inr (by omega)) ⟨by omega, hz⟩ hC hc hr
    have sF : Same h h2 (fun j => j = b ∨ um = some j) := (s1.mono (fun _ x => x.elim)).trans s2 (fun _ _ e => .inl e)
    simp only [asked, af27, cwf_seq, cwf_ops, c_true, c_false, cwf_block, andThen_normal, owf_nil, o_p, o_r, o_e, owf_call, behind_eq, bo_eq, optQ_some, opt2_some, pop, popQ, rop_load1, ldV_ptr, ev, evs, putA, putArgs, look_put, isB_true, isB_false, abinF_eq, abin, eop_box, Nat.add_zero, decide_true, cond_true, ite_true, ite_false, Bool.not_false, Nat.reduceEqDiff, Nat.zero_add, bx', q0, k1, k2, k3, k4, beq_self_eq_true, q4]
    refine ⟨_, _, F2, ?_⟩
    simp only [cwf_seq, cwf_ops, cwf_ret, andThen_normal, andThen_ret, blockQ_ret, fnQ_ret, owf_nil, o_p, behind_eq, bo_eq, optQ_some, pop, popQ, ev, putA, look_put, resAll, resA, mkRes1, ite_true, ite_false, Nat.reduceEqDiff, Option.some.injEq, exists_eq_left', List.getElem?_cons_zero, List.getElem?_cons_succ]
    rw [tail_marks h h2 sF.marks]
    exact ⟨⟨_, um, _, _, rfl, .inr ⟨by omega, rfl, rfl, rfl⟩, m2, fun y hy => .inl hy⟩, sF⟩

omit H in
theorem rstep_done {h : Heap} {b : Nat} {pv : Value} {l : List Pr} {u ut : Option Nat} {T : List Int} {w : Int} {ok : Bool} (d : DFr h b pv l u ut T true w ok) (m : Value) : FSpec P 15 [.pointer (some ⟨b, 0, none⟩), m] h fun v h' => v = .bool true ∧ h' = h := by
  refine fspec_cwf hT HF.m15 rfl ?_
  have q : h.rd b 23 = some (.bool true) := rd_of d.blk
  simp only [af15, cwf_seq, cwf_ops, cwf_ret, c_true, andThen_normal, andThen_ret, fnQ_ret, owf_nil, o_p, o_r, bo_eq, optQ_some, pop, popQ, rop_load1, ldV_ptr, ev, putA, putArgs, look_put, isB_true, resAll, resA, mkRes1, ite_true, ite_false, Nat.reduceEqDiff, Nat.zero_add, Option.some.injEq, exists_eq_left', and_true, q]

include NR
set_option maxHeartbeats 1000000 in
theorem rstep_spec {h : Heap} {b bm : Nat} {pv : Value} {l : List Pr} {u ut um : Option Nat} {T C ws : List Int} {z c o r : Int} (d : DFr h b pv l u ut T false 0 false) (m : RMemAt h bm um C z c o r) (hgo : goOf l T = .ahead ws) (n0 : ws ≠ [])
    (hb : b ≠ bm) (hub : um ≠ some b) (hu : ∀ y, u = some y → y ≠ bm ∧ um ≠ some y) (ht : ∀ y, ut = some y → y ≠ bm ∧ um ≠ some y) (hl : l.length ≤ 120) (hT1 : T.length < 900000) (hTb : ∀ t ∈ T, 0 ≤ t ∧ t ≤ 65536) (hC : (C.length : Int) ≤ z) (hz : z ≤ 65536) (hc : 0 ≤ c ∧ c < 1000000000) (hr : 0 ≤ r ∧ r < 1000000000) :
    FSpec P 15 [.pointer (some ⟨b, 0, none⟩), .pointer (some ⟨bm, 0, none⟩)] h fun v h' => (∃ (a : Int) (um' ut' : Option Nat) (C' : List Int) (r' : Int), v = .bool (goOf l (T ++ [a])).stands ∧ ((C.length : Int) + ws.length ≤ z ∧ a = C.length + 1 ∧ C' = C ++ ws ∧ r' = r ∨ z < (C.length : Int) + ws.length ∧ a = 0 ∧ C' = C ∧ r' = r + 1) ∧ RMemAt h' bm um' C' z (c + 1) o r' ∧ SetQ (goOf l (T ++ [a])) h' b pv l u ut' (T ++ [a]) ∧ (∀ y, um' = some y → um = some y ∨ h.next ≤ y) ∧ (∀ y, ut' = some y → (ut = some y ∨ h.next ≤ y) ∧ um' ≠ some y)) ∧ Same h h' (StepS bm um b ut) := by
  refine fspec_cwf hT HF.m15 rfl ?_
  have dl := d.lt
  have ml := m.lt
  have mu := fun y hy => (m.use y hy).2.2.1
  have du := d.ult
  have dt := fun y hy => (d.tape.use y hy).2.1
  obtain ⟨v1, h1, F1, rb, out, rfl, lrb, q1, s1⟩ := play_spec hT H HF NR d hl (by omega) hTb
  rw [hgo] at q1
  obtain ⟨kk, x, cap, rfl, r1, rd1, lx⟩ := q1
  have n1 := s1.next
  have s2 : Same h1 (h1.new ⟨outL 0 false, 13, 13, true, false⟩) (fun _ => False) := Same.new
  have g2 : (h1.new ⟨outL 0 false, 13, 13, true, false⟩).blks.get h1.next = some ⟨outL 0 false, 13, 13, true, false⟩ := by rw [new_get]; exact if_pos rfl
  have n2 : (h1.new ⟨outL 0 false, 13, 13, true, false⟩).next = h1.next + 1 := rfl
  generalize hh2 : h1.new ⟨outL 0 false, 13, 13, true, false⟩ = h2 at s2 g2 n2
  obtain ⟨h3, w3, g3, s3, n3, f3⟩ := putN (L' := outL 0 false) g2 rfl rfl (by omega) (by simp [outL, scalar])
  have sA : Same h h3 (fun _ => False) := (s1.trans s2 (fun _ _ x => x)).trans s3 (fun j hj e => by omega)
  have sA1 : Same h1 h3 (fun j => h1.next ≤ j) := (s2.mono (T := fun j => h1.next ≤ j) (fun _ x => x.elim)).trans s3 (fun j hj e => by omega)
  have d3 := d.same sA (fun x => x) (fun _ _ x => x) (fun _ _ x => x)
  have m3 := m.same sA (fun x => x) (fun _ _ x => x)
  have rl1 := r1.lt
  have r3 := r1.same sA1 (fun e => by omega)
  have rd3 := rd1.same sA1 (fun e => by have := rd1.lt; omega)
  have a22 : h3.rd b 22 = some (ownSl ut T.length) := rd_of d3.blk
  have a3 : ldN h3 5 (.pointer (some ⟨rb, 3, none⟩)) = some (asked (.slice (some ⟨x, 0, none⟩) ws.length cap)) := ldN_of (l := [I 5, I 0, I 0, I 0, .slice (some ⟨x, 0, none⟩) ws.length cap]) (by rw [rds_of r3.blk (by simp [runBlk])]; rfl)
  obtain ⟨v4, h4, F4, ⟨a, um', C', r', rfl, hcase, m4, hum⟩, s4⟩ := do_spec hT H HF m3 rd3 (by omega) n0 hC hz hc hr
  have n4 := s4.next
  have nA := sA.next
  have d4 := d3.same s4 (fun e => e.elim (fun e => hb e) (fun e => hub e)) (fun y hy e => e.elim (hu y hy).1 (hu y hy).2) (fun y hy e => e.elim (ht y hy).1 (ht y hy).2)
  have s5 : Same h4 (h4.new ⟨[I a], 1, 1, true, false⟩) (fun _ => False) := Same.new
  have n5 : (h4.new ⟨[I a], 1, 1, true, false⟩).next = h4.next + 1 := rfl
  have hcell : RdAt (h4.new ⟨[I a], 1, 1, true, false⟩) h4.next 0 1 1 1 [I a] := RdAt.fresh h4 [I a] 1 1 true false rfl
  generalize hh5 : h4.new ⟨[I a], 1, 1, true, false⟩ = h5 at s5 n5 hcell
  have d5 := d4.same s5 (fun x => x) (fun _ _ x => x) (fun _ _ x => x)
  obtain ⟨ut', h6, ap6, o6, s6, nu6⟩ := app_own (bytes := 8) d5.tape hcell.src rfl rfl (Nat.le_refl _) (by omega) (by omega)
  have n6 := s6.next
  obtain ⟨base, pcap, hpv⟩ := d.row.len
  have b6 : h6.blks.get b = some (frBlk pv (ownSl ut T.length) false 0 false) := by
    rw [s6.get b (by have := d5.lt; omega) (fun e => d.utb e)]; exact d5.blk
  obtain ⟨h7, w7, g7, s7, n7⟩ := setN b6 22 (ownSl ut' (T.length + 1)) (by simp [frL, argsL, outL]) (scalar_slice _ _ _)
  have e7 : (frL pv (ownSl ut T.length) false 0 false).set 22 (ownSl ut' (T.length + 1)) = frL pv (ownSl ut' (T ++ [a]).length) false 0 false := by rw [List.length_append]; rfl
  rw [e7] at g7
  have utn : ∀ y, ut' = some y → ut = some y ∨ h3.next ≤ y := fun y hy => (nu6 y hy).imp_right (fun e => by omega)
  have utlt : ∀ y, ut' = some y → y < h6.next := fun y hy => (o6.use y hy).2.1
  have um4 : ∀ y, um' = some y → y < h4.next := fun y hy => (m4.use y hy).2.2.1
  have um'b : um' ≠ some b := fun e => by
    rcases hum b e with e2 | e2
    · exact hub e2
    · omega
  have umt : ∀ y, ut' = some y → um' ≠ some y := fun y hy e => by
    rcases nu6 y hy with e2 | e2
    · rcases hum y e with e3 | e3
      · exact (ht y e2).2 e3
      · have := dt y e2; omega
    · have := um4 y e; omega
  have utum : ∀ y, um' = some y → ¬ (ut = some y) := fun y hy e => by
    rcases hum y hy with e3 | e3
    · exact (ht y e).2 e3
    · have := dt y e; omega
  have sB : Same h h7 (StepS bm um b ut) := ((((sA.mono (T := StepS bm um b ut) (fun _ x => x.elim)).trans s4 (fun j hj e => e.elim .inl (fun e => .inr (.inl e)))).trans s5 (fun _ _ x => x.elim)).trans s6 (fun j hj e => .inr (.inr (.inr e)))).trans s7 (fun j hj e => .inr (.inr (.inl e)))
  have o7 : OwnAt h7 ut' 1 (T ++ [a]).length ((T ++ [a]).map I) := by
    rw [List.length_append, List.map_append]
    exact o6.same s7 (fun y hy e => by
      rcases nu6 y hy with e2 | e2
      · exact d.utb (by rw [e2, e])
      · have := dl; omega)
  have s47 : Same h4 h7 (fun j => ut = some j ∨ j = b) := ((s5.mono (T := fun j => ut = some j ∨ j = b) (fun _ x => x.elim)).trans s6 (fun j hj e => .inl e)).trans s7 (fun j hj e => .inr e)
  have d7 : DFr h7 b pv l u ut' (T ++ [a]) false 0 false := ⟨g7, o7, d4.row.same s47 (fun y hy e => e.elim (d.uut y hy) (fun e => d.ub (by rw [hy, e]))), d4.pr.same s47 (fun y hy e => e.elim (d.uut y hy) (fun e => d.ub (by rw [hy, e]))), by omega, d.ub, fun e => by
      rcases nu6 b e with e2 | e2
      · exact d.utb e2
      · omega, fun y hy e => by
      rcases nu6 y e with e2 | e2
      · exact d.uut y hy e2
      · have := du y hy; omega, fun y hy => by have := du y hy; omega⟩
  have m7 : RMemAt h7 bm um' C' z (c + 1) o r' := m4.same s47 (fun e => e.elim (fun e => (ht bm e).1 rfl) (fun e => hb e.symm)) (fun y hy e => e.elim (utum y hy) (fun e => um'b (by rw [hy, e])))
  have aTb : ∀ t ∈ T ++ [a], 0 ≤ t ∧ t ≤ 65536 := fun t ht => by
    rcases List.mem_append.1 ht with ht | ht
    · exact hTb t ht
    · have : t = a := by simpa using ht
      subst this
      have := List.length_pos_iff.2 n0
      rcases hcase with ⟨h1, h2, _⟩ | ⟨_, h2, _⟩ <;> omega
  obtain ⟨v8, h8, F8, rfl, q8, s8⟩ := settle_spec hT H HF NR d7 hl (by rw [List.length_append, List.length_singleton]; omega) aTb
  have m8 := m7.same s8 (fun e => hb e.symm) (fun y hy e => um'b (by rw [hy, e]))
  obtain ⟨w8, ok8, d8⟩ := q8.done
  have a23 : h8.rd b 23 = some (.bool (goOf l (T ++ [a])).stands) := rd_of d8.blk
  have sF : Same h h8 (StepS bm um b ut) := sB.trans s8 (fun j hj e => .inr (.inr (.inl e)))
  have b23 : h.rd b 23 = some (.bool false) := rd_of d.blk
  have hh2' : h1.new ⟨[.int .i64 0, .bool false, .int .i64 0, .int .i64 0, .int .i64 0, .slice none 0 0, .slice none 0 0, .int .i64 0, .bool false, .int .i64 0, .int .i64 0, .int .i64 0, .slice none 0 0], 13, 13, true, false⟩ = h2 := hh2
  obtain ⟨CF, hcf, g27⟩ : ∃ CF : CallF, CfOk P CF ∧ CF (.fn 27) [.pointer (some ⟨bm, 0, none⟩), asked (.slice (some ⟨x, 0, none⟩) ws.length cap)] h3 = some (I a, h4) := ⟨cfOf 27 _ h3 _ h4 cf00, cfOf_ok F4 cf00_ok, cfOf_eq⟩
  simp only [af15, cwf_seq, cwf_ops, c_false, cwf_skip, andThen_normal, owf_nil, o_p, o_r, owf_call, bo_eq, optQ_some, pop, popQ, rop_load1, ldV_ptr, ev, evs, putA, putArgs, look_put, isB_false, ite_true, ite_false, Bool.not_false, Nat.reduceEqDiff, Nat.zero_add, b23]
  refine ⟨_, _, F1, ?_⟩
  simp only [cwf_seq, andThen_normal, owf_nil, o_p, o_e, behind_eq, bo_eq, optQ_some, opt2_some, pop, popQ, ev, putA, look_put, List.length_cons, List.length_nil, ite_true, ite_false, Nat.reduceEqDiff, Nat.reduceAdd, Nat.zero_add, List.getElem?_cons_zero, List.getElem?_cons_succ, eop_alloc, hh2', eop_store13, w3]
  let J : Nat → Heap → Prop := fun i k => (i ≤ 2 → k.rd b 22 = some (ownSl ut T.length)) ∧ (i ≤ 0 → ldN k 5 (.pointer (some ⟨rb, 3, none⟩)) = some (asked (.slice (some ⟨x, 0, none⟩) ws.length cap)))
  have rb4 : h4.rd b 22 = some (ownSl ut T.length) := rd_of d4.blk
  have rb5 : h5.rd b 22 = some (ownSl ut T.length) := rd_of d5.blk
  have j0 : J 0 h3 := ⟨fun _ => a22, fun _ => a3⟩
  have j1 : J (0 + 1) h4 := ⟨fun _ => rb4, fun h => by omega⟩
  have j2 : J (0 + 1 + 1) h5 := ⟨fun _ => rb5, fun h => by omega⟩
  have j3 : J (0 + 1 + 1 + 1) h6 := ⟨fun h => by omega, fun h => by omega⟩
  have j4 : J (0 + 1 + 1 + 1 + 1) h7 := ⟨fun h => by omega, fun h => by omega⟩
  have jr : ∀ j k, 0 ≤ j → j ≤ 2 → J j k → k.rd b 22 = some (ownSl ut T.length) := fun j k _ hj q => q.1 hj
  have jn : ∀ j k, 0 ≤ j → j ≤ 0 → J j k → ldN k 5 (.pointer (some ⟨rb, 3, none⟩)) = some (asked (.slice (some ⟨x, 0, none⟩) ws.length cap)) := fun j k _ hj q => q.2 hj
  have va : veq (asked (.slice (some ⟨x, 0, none⟩) ws.length cap)) (asked (.slice (some ⟨x, 0, none⟩) ws.length cap)) = true := by
    simp [asked, veq, veq1, veqs]
  have vt : veq (ownSl ut T.length) (ownSl ut T.length) = true := veq_slice _ _ _
  clear_value J
  refine cwf_win J CF hcf j0 ?_
  simp only [cwf_seq, cwf_ops, andThen_normal, o_p, owf_call, bo_eq, optQ_some, opt2_some, pop, popQ, rop_load1, ldV_ptr, ev, evs, putA, look_put, eop_store1, eop_app, st1, eop_buildS, bldS_some, evP_nil, evP_cons, fillA_nil, fillA_one, List.length_cons, List.length_nil, List.set_cons_zero, Nat.lt_add_one, Nat.mul_one, scalar_slice, scalar_int, ite_true, ite_false, Nat.reduceEqDiff, Nat.reduceAdd, Nat.zero_add, true_and, w_nil, w_p, w_r, w_e, w_call, bw_eq, bwr_eq, bw2_eq, a22, rop_loadN, a3, g27, hh5, ap6, w7, vt]
  refine ⟨jr, jn, va, j1, j2, j3, j4, ?_⟩
  refine ⟨_, _, F8, ?_⟩
  simp only [cwf_seq, cwf_ops, cwf_ret, andThen_normal, fnQ_ret, owf_nil, o_p, o_r, behind_eq, bo_eq, optQ_some, pop, popQ, rop_load1, ldV_ptr, ev, putA, look_put, resAll, resA, mkRes1, ite_true, ite_false, Nat.reduceEqDiff, Nat.zero_add, Option.some.injEq, exists_eq_left', a23]
  rw [tail_marks h h8 sF.marks]
  exact ⟨⟨a, um', ut', C', r', rfl, hcase, m8, q8, fun y hy => (hum y hy).imp_right (fun e => by omega), fun y hy => ⟨(utn y hy).imp_right (fun e => by omega), umt y hy⟩⟩, sF⟩
end
end
end Go.Proofs.YtedldiimhbebdaaGreat.Ai
/- GrowPlays: what is kept from round to round. -/
namespace Go.Proofs.YtedldiimhbebdaaGreat.Ai
open Go.Proofs.YtedldiimhbebdaaGreat
noncomputable section
set_option linter.unusedVariables false
open Go.RowKit

theorem from_top {n : Nat} (h2 : 2 ≤ n) (h : n ≤ 120) : fromN n (degN n) = n := by
  have pn := partN h2 h
  have d2 := pn.deg2
  unfold fromN
  have h1 := Nat.div_add_mod n (degN n)
  have h3 : n % degN n < degN n := Nat.mod_lt _ (by omega)
  rw [Nat.min_eq_right (by omega), Nat.mul_comm]
  omega

theorem ord_two : ∀ (f : Nat) (l : List Pr), l.length < f → l.length ≤ 120 → (ordF f l).length + 1 ≤ 2 * l.length ∨ (l.length = 0 ∧ (ordF f l).length = 1)
  | 0, l, hf, _ => by omega
  | f + 1, l, hf, hl => by
    by_cases h2 : 2 ≤ l.length
    · have pn := partN h2 hl
      have d2 := pn.deg2
      have key : ∀ i, i ≤ degN l.length → (ordK (ordF f) l i).length + i ≤ 2 * fromN l.length i := by
        intro i
        induction i with
        | zero => intro _; simp [ordK]
        | succ i ih =>
          intro hi
          have hp := partL_len h2 hl (i := i) (by omega)
          have hless := pn.less i (by omega)
          have h1 := pn.one i (by omega)
          have := ih (by omega)
          have h5 := ord_two f (partL l i) (by omega) (by omega)
          rw [pn.next i (by omega), ordK, List.length_append]
          omega
      have := key _ (Nat.le_refl _)
      rw [from_top h2 hl] at this
      rw [ordF, kidsOf_two h2, List.length_append]
      simp only [List.length_cons, List.length_nil]
      omega
    · have hk : kidsOf l = 0 := if_pos (by omega)
      have e : ordF (f + 1) l = [l] := by rw [ordF, hk]; rfl
      rw [e]
      by_cases e0 : l.length = 0
      · exact .inr ⟨e0, rfl⟩
      · left
        show 1 + 1 ≤ 2 * l.length
        omega

/-- blocks of one owner -/
def cl (b : Nat) (u : Option Nat) (j : Nat) : Prop := j = b ∨ u = some j

/-- four owners, no block of two -/
structure Dis (A B F G : Nat → Prop) : Prop where
  ab : ∀ j, A j → ¬ B j
  af : ∀ j, A j → ¬ F j
  ag : ∀ j, A j → ¬ G j
  bf : ∀ j, B j → ¬ F j
  bg : ∀ j, B j → ¬ G j
  fg : ∀ j, F j → ¬ G j

theorem Dis.step {A B F G A' B' F' G' : Nat → Prop} (d : Dis A B F G) {n : Nat} (lA : ∀ j, A j → j < n) (lB : ∀ j, B j → j < n) (lF : ∀ j, F j → j < n) (lG : ∀ j, G j → j < n)
    (a : ∀ j, A' j → A j ∨ n ≤ j) (b : ∀ j, B' j → B j ∨ n ≤ j) (f : ∀ j, F' j → F j ∨ n ≤ j) (g : ∀ j, G' j → G j ∨ n ≤ j)
    (x : ∀ j, n ≤ j → (A' j → ¬ B' j ∧ ¬ F' j ∧ ¬ G' j) ∧ (B' j → ¬ F' j ∧ ¬ G' j) ∧ (F' j → ¬ G' j)) : Dis A' B' F' G' := by
  have key : ∀ (X Y X' Y' : Nat → Prop), (∀ j, X j → ¬ Y j) → (∀ j, X j → j < n) → (∀ j, Y j → j < n) → (∀ j, X' j → X j ∨ n ≤ j) → (∀ j, Y' j → Y j ∨ n ≤ j) → (∀ j, n ≤ j → X' j → ¬ Y' j) → ∀ j, X' j → ¬ Y' j := by
    intro X Y X' Y' h lX lY hx hy hn j h1 h2
    by_cases c : n ≤ j
    · exact hn j c h1 h2
    · rcases hx j h1 with e1 | e1
      · rcases hy j h2 with e2 | e2
        · exact h j e1 e2
        · exact c e2
      · exact c e1
  exact ⟨key A B A' B' d.ab lA lB a b (fun j h h1 => ((x j h).1 h1).1), key A F A' F' d.af lA lF a f (fun j h h1 => ((x j h).1 h1).2.1), key A G A' G' d.ag lA lG a g (fun j h h1 => ((x j h).1 h1).2.2),
    key B F B' F' d.bf lB lF b f (fun j h h1 => ((x j h).2.1 h1).1), key B G B' G' d.bg lB lG b g (fun j h h1 => ((x j h).2.1 h1).2), key F G F' G' d.fg lF lG f g (fun j h h1 => (x j h).2.2 h1)⟩

theorem MemAt.cl_lt {h : Heap} {b : Nat} {u : Option Nat} {C : List Int} {z c o r : Int} (m : MemAt h b u C z c o r) : ∀ j, cl b u j → j < h.next := fun j hj => hj.elim (fun e => by rw [e]; exact m.lt) (fun e => (m.use j e).2.2.1)
theorem RMemAt.cl_lt {h : Heap} {b : Nat} {u : Option Nat} {C : List Int} {z c o r : Int} (m : RMemAt h b u C z c o r) : ∀ j, cl b u j → j < h.next := fun j hj => hj.elim (fun e => by rw [e]; exact m.lt) (fun e => (m.use j e).2.2.1)
theorem MemAt.sameC {h h' : Heap} {b : Nat} {u : Option Nat} {C : List Int} {z c o r : Int} {S : Nat → Prop} (m : MemAt h b u C z c o r) (s : Same h h' S) (hS : ∀ j, cl b u j → ¬ S j) : MemAt h' b u C z c o r := m.same s (hS b (.inl rfl)) (fun y hy => hS y (.inr hy))
theorem RMemAt.sameC {h h' : Heap} {b : Nat} {u : Option Nat} {C : List Int} {z c o r : Int} {S : Nat → Prop} (m : RMemAt h b u C z c o r) (s : Same h h' S) (hS : ∀ j, cl b u j → ¬ S j) : RMemAt h' b u C z c o r := m.same s (hS b (.inl rfl)) (fun y hy => hS y (.inr hy))
def clF (b : Nat) (u : Option Nat) (K : Nat → Prop) (j : Nat) : Prop := cl b u j ∨ K j
theorem FrAt.cl_lt {h : Heap} {b : Nat} {uw : Option Nat} {K : Nat → Prop} {Ls : List (List Pr)} {W : List Int} {rf : Bool} (f : FrAt h b uw K Ls W rf) : ∀ j, clF b uw K j → j < h.next := fun j hj => hj.elim (fun e => e.elim (fun e => by rw [e]; exact f.lt) (fun e => (f.kw j e).2.2)) (f.klt j)
theorem FrAt.sameC {h h' : Heap} {b : Nat} {uw : Option Nat} {K S : Nat → Prop} {Ls : List (List Pr)} {W : List Int} {rf : Bool} (f : FrAt h b uw K Ls W rf) (s : Same h h' S) (hS : ∀ j, clF b uw K j → ¬ S j) : FrAt h' b uw K Ls W rf := f.same s (hS b (.inl (.inl rfl))) (fun y hy => hS y (.inl (.inr hy))) (fun j hj => hS j (.inr hj))
theorem DFr.cl_lt {h : Heap} {b : Nat} {pv : Value} {l : List Pr} {u ut : Option Nat} {T : List Int} {dn ok : Bool} {w : Int} (d : DFr h b pv l u ut T dn w ok) : ∀ j, cl b ut j → j < h.next := fun j hj => hj.elim (fun e => by rw [e]; exact d.lt) (fun e => (d.tape.use j e).2.1)
theorem SetQ.same {x : RG} {h h' : Heap} {b : Nat} {pv : Value} {l : List Pr} {u ut : Option Nat} {T : List Int} {S : Nat → Prop} (q : SetQ x h b pv l u ut T) (m : Same h h' S) (hb : ∀ j, cl b ut j → ¬ S j) (hu : ∀ y, u = some y → ¬ S y) : SetQ x h' b pv l u ut T := by
  cases x with
  | made W D => obtain ⟨w, e, d⟩ := q; exact ⟨w, e, d.same m (hb b (.inl rfl)) hu (fun y hy => hb y (.inr hy))⟩
  | ahead ws => exact DFr.same (h := h) q m (hb b (.inl rfl)) hu (fun y hy => hb y (.inr hy))
  | no => exact DFr.same (h := h) q m (hb b (.inl rfl)) hu (fun y hy => hb y (.inr hy))
theorem SetQ.cl_lt {x : RG} {h : Heap} {b : Nat} {pv : Value} {l : List Pr} {u ut : Option Nat} {T : List Int} (q : SetQ x h b pv l u ut T) : ∀ j, cl b ut j → j < h.next := by
  obtain ⟨w, ok, d⟩ := q.done
  exact d.cl_lt

/-- how far both are: the words and the records that are left, or refused -/
def Rel2 (l : List Pr) (T W : List Int) (Ls : List (List Pr)) (rf : Bool) (i : Nat) : Prop :=
  rf = true ∧ goOf l T = .no ∨ rf = false ∧ (∀ D, goOf l (T ++ D) = rgo W Ls D) ∧ OrdOk W.length Ls ∧ Ls.length + i ≤ 200 ∧ T.length = i

structure GPS (h1 h : Heap) (bm bx bf bg : Nat) (K : Nat → Prop) (pv : Value) (l : List Pr) (u : Option Nat) (z : Int) (i e : Nat) (st : Bool) : Prop where
  ex : ∃ (um ux uw ut : Option Nat) (C W T : List Int) (Ls : List (List Pr)) (rf : Bool) (c o r c' o' r' : Int), MemAt h bm um C z c o r ∧ RMemAt h bx ux C z c' o' r' ∧ FrAt h bf uw K Ls W rf ∧ SetQ (goOf l T) h bg pv l u ut T ∧ Rel2 l T W Ls rf i ∧ (goOf l T).stands = st ∧
    W.length ≤ i ∧ T.length ≤ i ∧ (∀ t ∈ T, 0 ≤ t ∧ t ≤ 65536) ∧ (C.length : Int) ≤ z ∧ (0 ≤ c ∧ c ≤ 10 + e) ∧ (0 ≤ r ∧ r ≤ 10 + e) ∧ (0 ≤ c' ∧ c' ≤ 10 + e) ∧ (0 ≤ r' ∧ r' ≤ 10 + e) ∧
    Dis (cl bm um) (cl bx ux) (clF bf uw K) (cl bg ut) ∧ (∀ j, cl bm um j ∨ cl bx ux j ∨ clF bf uw K j ∨ cl bg ut j → h1.next ≤ j)
  hz : 1 ≤ z ∧ z ≤ 65536
  hl : l.length ≤ 120
  ul : ∀ y, u = some y → y < h1.next
  same : Same h1 h (fun _ => False)

theorem GPS.stop {h1 h : Heap} {bm bx bf bg : Nat} {K : Nat → Prop} {pv : Value} {l : List Pr} {u : Option Nat} {z : Int} {i e : Nat} (g : GPS h1 h bm bx bf bg K pv l u z i e false) : i < 200 := by
  obtain ⟨um, ux, uw, ut, C, W, T, Ls, rf, c, o, r, c', o', r', m, mx, f, q, rel, st, _⟩ := g.ex
  rcases rel with ⟨_, hno⟩ | ⟨_, hgo, _, hlen, _⟩
  · rw [hno] at st; cases st
  · have := hgo []
    rw [List.append_nil] at this
    rw [this] at st
    cases Ls with
    | nil => cases st
    | cons l0 Ls => simp only [List.length_cons] at hlen; omega

section
variable {P : Program} {tab : Nat → Option AFunc} (hT : TabOk P tab) (G : HasG tab) (H : Has tab) (Nu : Num P) (HR : HasR tab) (HF : HasF3 tab) (NR : NumF P)
include hT G H Nu HR HF NR

theorem round_spec {h1 h : Heap} {bm bx bf bg : Nat} {K : Nat → Prop} {pv : Value} {l : List Pr} {u : Option Nat} {z : Int} {i e : Nat} (g : GPS h1 h bm bx bf bg K pv l u z i e false) (he : e ≤ 1000) :
    ∃ st h5 h6, Fact P 14 [.pointer (some ⟨bf, 0, none⟩), .pointer (some ⟨bm, 0, none⟩)] h (.bool st) h5 ∧ Fact P 15 [.pointer (some ⟨bg, 0, none⟩), .pointer (some ⟨bx, 0, none⟩)] h5 (.bool st) h6 ∧ Fact P 11 [.pointer (some ⟨bf, 0, none⟩)] h6 (.bool st) h6 ∧ h6.rd bg 23 = some (.bool st) ∧ GPS h1 h6 bm bx bf bg K pv l u z (i + 1) (e + 1) st := by
  have i200 := g.stop
  obtain ⟨um, ux, uw, ut, C, W, T, Ls, rf, c, o, r, c', o', r', m, mx, f, q, rel, st, hW, hT1, hTb, hC, hc, hr, hc', hr', dis, low⟩ := g.ex
  have hz := g.hz
  have ul := g.ul
  have sm := g.same
  have nx := sm.next
  rcases rel with ⟨_, hno⟩ | ⟨rfl, hgo, hord, hlen, hTi⟩
  · rw [hno] at st; cases st
  have hg0 := hgo []
  rw [List.append_nil] at hg0
  match Ls, hg0, hord, hlen with
  | [], hg0, _, _ => rw [hg0] at st; cases st
  | l0 :: Ls, hg0, hord, hlen =>
  obtain ⟨h120, hk, hord⟩ := hord
  simp only [List.length_cons] at hlen
  have hg0 : goOf l T = .ahead (recOf l0 (W.drop (W.length - kidsOf l0))) := hg0
  have dbf : bf ≠ bm := fun e => dis.af bm (.inl rfl) (.inl (.inl e.symm))
  obtain ⟨v5, h5, F5, hq5, s5⟩ := gstep_spec hT G H Nu f m dbf (fun e => dis.af bf (.inr e) (.inl (.inl rfl))) (fun e => dis.af bm (.inl rfl) (.inr e)) (fun y hy e => dis.af y (.inr hy) (.inr e)) (fun y hy => ⟨fun e => dis.af y (.inl e) (.inl (.inr hy)), fun e => dis.af y (.inr e) (.inl (.inr hy))⟩) h120 hk (by omega) hC (by omega) ⟨by omega, by omega⟩ ⟨by omega, by omega⟩
  have S5 : ∀ j, StepS bm um bf uw j → cl bm um j ∨ clF bf uw K j := fun j hj => by
    rcases hj with e | e | e | e
    · exact .inl (.inl e)
    · exact .inl (.inr e)
    · exact .inr (.inl (.inl e))
    · exact .inr (.inl (.inr e))
  have n5 := s5.next
  have mx5 := mx.sameC s5 (fun j hj e => (S5 j e).elim (fun e => dis.ab j e hj) (fun e => dis.bf j hj e))
  have q5 := q.same s5 (fun j hj e => (S5 j e).elim (fun e => dis.ag j e hj) (fun e => dis.fg j e hj)) (fun y hy e => by
    have h1 := ul y hy
    have h2 := (S5 y e).elim (fun e => low y (.inl e)) (fun e => low y (.inr (.inr (.inl e))))
    omega)
  rw [hg0] at q5
  have d5 : DFr h5 bg pv l u ut T false 0 false := q5
  have lA := m.cl_lt
  have lB := mx.cl_lt
  have lF := f.cl_lt
  have lG := q.cl_lt
  have ws1 := recOf_pos l0 (W.drop (W.length - kidsOf l0))
  have hws0 : recOf l0 (W.drop (W.length - kidsOf l0)) ≠ [] := fun e => by rw [e] at ws1; simp at ws1
  obtain ⟨v6, h6, F6, ⟨a, ux', ut', C', r'', rfl, hcase, mx6, q6, hux, hut⟩, s6⟩ := rstep_spec hT HR HF NR d5 mx5 hg0 hws0 (fun e => dis.bg bx (.inl rfl) (.inl e.symm)) (fun e => dis.bg bg (.inr e) (.inl rfl)) (fun y hy => by
      have h1 := ul y hy
      refine ⟨fun e => ?_, fun e => ?_⟩
      · have := low y (.inr (.inl (.inl e))); omega
      · have := low y (.inr (.inl (.inr e))); omega) (fun y hy => ⟨fun e => dis.bg y (.inl e) (.inr hy), fun e => dis.bg y (.inr e) (.inr hy)⟩) g.hl (by omega) hTb hC (by omega) ⟨by omega, by omega⟩ ⟨by omega, by omega⟩
  have n6 := s6.next
  have S6 : ∀ j, StepS bx ux bg ut j → cl bx ux j ∨ cl bg ut j := fun j hj => by
    rcases hj with e | e | e | e
    · exact .inl (.inl e)
    · exact .inl (.inr e)
    · exact .inr (.inl e)
    · exact .inr (.inr e)
  have sF : Same h1 h6 (fun _ => False) := (sm.trans s5 (fun j hj e => by
    have h2 := (S5 j e).elim (fun e => low j (.inl e)) (fun e => low j (.inr (.inr (.inl e))))
    omega)).trans s6 (fun j hj e => by
    have h2 := (S6 j e).elim (fun e => low j (.inr (.inl e))) (fun e => low j (.inr (.inr (.inr e))))
    omega)
  have mlt := m.lt
  have flt := f.lt
  have bxlt := mx.lt
  have bglt := lG bg (.inl rfl)
  have hgo1 : ∀ D, goOf l (T ++ [a] ++ D) = rgo W (l0 :: Ls) (a :: D) := fun D => by
    rw [List.append_assoc]; exact hgo (a :: D)
  have tb : ∀ t ∈ T ++ [a], 0 ≤ t ∧ t ≤ 65536 := fun t ht => by
    rcases List.mem_append.1 ht with ht | ht
    · exact hTb t ht
    · have : t = a := by simpa using ht
      subst this
      rcases hcase with ⟨h1, h2, _⟩ | ⟨_, h2, _⟩ <;> omega
  have tl : (T ++ [a]).length = i + 1 := by rw [List.length_append, List.length_singleton]; omega
  obtain ⟨w6, ok6, dd6⟩ := q6.done
  have a23 : h6.rd bg 23 = some (.bool (goOf l (T ++ [a])).stands) := rd_of dd6.blk
  rcases hq5 with ⟨hroom, rfl, um', uw', m5, f5, hum, huw⟩ | ⟨hfull, rfl, m5, f5⟩
  · have egl : (gstep (C, W) l0).1 = C ++ recOf l0 (W.drop (W.length - kidsOf l0)) := rfl
    rw [egl, List.length_append] at hroom
    have hca : a = C.length + 1 ∧ C' = C ++ recOf l0 (W.drop (W.length - kidsOf l0)) ∧ r'' = r' := by
      rcases hcase with ⟨_, h2, h3, h4⟩ | ⟨h1, _⟩
      · exact ⟨h2, h3, h4⟩
      · omega
    obtain ⟨rfl, rfl, rfl⟩ := hca
    rw [egl] at m5
    have hgo2 : ∀ D, goOf l (T ++ [(C.length : Int) + 1] ++ D) = rgo (wstep W l0 ((C.length : Int) + 1)) Ls D := fun D => by
      rw [hgo1 D]; exact rgo_step _ _ _ _ _ (by omega)
    have hst : (goOf l (T ++ [(C.length : Int) + 1])).stands = Ls.isEmpty := by
      have := hgo2 []
      rw [List.append_nil] at this
      rw [this]
      cases Ls <;> rfl
    rw [hst] at F6 a23
    have dA : ∀ j, cl bm um' j → cl bm um j ∨ h.next ≤ j := fun j hj => hj.elim (fun e => .inl (.inl e)) (fun e => (hum j e).imp_left (fun e => .inr e))
    have dF : ∀ j, clF bf uw' K j → clF bf uw K j ∨ h.next ≤ j := fun j hj => hj.elim (fun e => e.elim (fun e => .inl (.inl (.inl e))) (fun e => ((huw j e).1).imp_left (fun e => .inl (.inr e)))) (fun e => .inl (.inr e))
    have dis5 : Dis (cl bm um') (cl bx ux) (clF bf uw' K) (cl bg ut) := dis.step lA lB lF lG dA (fun j hj => .inl hj) dF (fun j hj => .inl hj) (fun j hj => ⟨fun h1 => ⟨fun e => by have := lB j e; omega, fun e => by
        rcases e with (e | e) | e
        · omega
        · rcases h1 with h1 | h1
          · omega
          · exact (huw j e).2 h1
        · have := lF j (.inr e); omega, fun e => by have := lG j e; omega⟩, fun h1 => by have := lB j h1; omega, fun _ e => by have := lG j e; omega⟩)
    have lA5 := m5.cl_lt
    have lB5 := mx5.cl_lt
    have lF5 := f5.cl_lt
    have lG5 := d5.cl_lt
    have m6 := m5.sameC s6 (fun j hj e => (S6 j e).elim (fun e => dis5.ab j hj e) (fun e => dis5.ag j hj e))
    have f6 := f5.sameC s6 (fun j hj e => (S6 j e).elim (fun e => dis5.bf j e hj) (fun e => dis5.fg j hj e))
    have dB : ∀ j, cl bx ux' j → cl bx ux j ∨ h5.next ≤ j := fun j hj => hj.elim (fun e => .inl (.inl e)) (fun e => (hux j e).imp_left (fun e => .inr e))
    have dG : ∀ j, cl bg ut' j → cl bg ut j ∨ h5.next ≤ j := fun j hj => hj.elim (fun e => .inl (.inl e)) (fun e => ((hut j e).1).imp_left (fun e => .inr e))
    have dis6 : Dis (cl bm um') (cl bx ux') (clF bf uw' K) (cl bg ut') := dis5.step lA5 lB5 lF5 lG5 (fun j hj => .inl hj) dB (fun j hj => .inl hj) dG (fun j hj => ⟨fun h1 => by have := lA5 j h1; omega, fun h1 => ⟨fun e => by have := lF5 j e; omega, fun e => by
        rcases e with e | e
        · omega
        · rcases h1 with h1 | h1
          · omega
          · exact (hut j e).2 h1⟩, fun h1 => by have := lF5 j h1; omega⟩)
    obtain ⟨_, _, F7, rfl, rfl⟩ := gdone_spec hT G f6
    have F7' : Fact P 11 [.pointer (some ⟨bf, 0, none⟩)] _ (.bool Ls.isEmpty) _ := F7
    refine ⟨Ls.isEmpty, h5, _, F5, F6, F7', a23, ⟨⟨um', ux', uw', ut', _, _, _, Ls, false, c + 1, o, r, c' + 1, o', r'', m6, mx6, f6, q6, .inr ⟨rfl, hgo2, ?_, by omega, tl⟩, hst, ?_, by omega, tb, ?_, ⟨by omega, by omega⟩, ⟨by omega, by omega⟩, ⟨by omega, by omega⟩, ⟨by omega, by omega⟩, dis6, fun j hj => ?_⟩, hz, g.hl, ul, sF⟩⟩
    · rw [gstep_w]
      have : (wstep W l0 ((C.length : Int) + 1)).length = W.length - kidsOf l0 + 1 := by simp [wstep]
      rw [this]; exact hord
    · rw [gstep_w]
      have : (wstep W l0 ((C.length : Int) + 1)).length = W.length - kidsOf l0 + 1 := by simp [wstep]
      omega
    · rw [List.length_append]; simpa using hroom
    · rcases hj with hj | hj | hj | hj
      · exact (dA j hj).elim (fun e => low j (.inl e)) (fun e => by omega)
      · exact (dB j hj).elim (fun e => low j (.inr (.inl e))) (fun e => by omega)
      · exact (dF j hj).elim (fun e => low j (.inr (.inr (.inl e)))) (fun e => by omega)
      · exact (dG j hj).elim (fun e => low j (.inr (.inr (.inr e)))) (fun e => by omega)
  · have egl : (gstep (C, W) l0).1 = C ++ recOf l0 (W.drop (W.length - kidsOf l0)) := rfl
    rw [egl, List.length_append] at hfull
    have hca : a = 0 ∧ C' = C ∧ r'' = r' + 1 := by
      rcases hcase with ⟨h1, _⟩ | ⟨_, h2, h3, h4⟩
      · omega
      · exact ⟨h2, h3, h4⟩
    obtain ⟨rfl, rfl, rfl⟩ := hca
    have hno : goOf l (T ++ [0]) = .no := by
      have := hgo1 []
      rw [List.append_nil] at this
      rw [this]
      show (if (0 : Int) < 0 then rgo (wstep W l0 0) Ls [] else RG.no) = RG.no
      exact if_neg (by omega)
    have hst : (goOf l (T ++ [0])).stands = true := by rw [hno]; rfl
    rw [hst] at F6 a23
    have lA5 := m5.cl_lt
    have lB5 := mx5.cl_lt
    have lF5 := f5.cl_lt
    have lG5 := d5.cl_lt
    have m6 := m5.sameC s6 (fun j hj e => (S6 j e).elim (fun e => dis.ab j hj e) (fun e => dis.ag j hj e))
    have f6 := f5.sameC s6 (fun j hj e => (S6 j e).elim (fun e => dis.bf j e hj) (fun e => dis.fg j hj e))
    have dB : ∀ j, cl bx ux' j → cl bx ux j ∨ h5.next ≤ j := fun j hj => hj.elim (fun e => .inl (.inl e)) (fun e => (hux j e).imp_left (fun e => .inr e))
    have dG : ∀ j, cl bg ut' j → cl bg ut j ∨ h5.next ≤ j := fun j hj => hj.elim (fun e => .inl (.inl e)) (fun e => ((hut j e).1).imp_left (fun e => .inr e))
    have dis6 : Dis (cl bm um) (cl bx ux') (clF bf uw K) (cl bg ut') := dis.step lA5 lB5 lF5 lG5 (fun j hj => .inl hj) dB (fun j hj => .inl hj) dG (fun j hj => ⟨fun h1 => by have := lA5 j h1; omega, fun h1 => ⟨fun e => by have := lF5 j e; omega, fun e => by
        rcases e with e | e
        · omega
        · rcases h1 with h1 | h1
          · omega
          · exact (hut j e).2 h1⟩, fun h1 => by have := lF5 j h1; omega⟩)
    obtain ⟨_, _, F7, rfl, rfl⟩ := gdone_spec hT G f6
    have F7' : Fact P 11 [.pointer (some ⟨bf, 0, none⟩)] _ (.bool true) _ := F7
    refine ⟨true, h5, _, F5, F6, F7', a23, ⟨⟨um, ux', uw, ut', C', W, _, l0 :: Ls, true, c + 1, o, r + 1, c' + 1, o', r' + 1, m6, mx6, f6, q6, .inl ⟨rfl, hno⟩, hst, by omega, by omega, tb, hC, ⟨by omega, by omega⟩, ⟨by omega, by omega⟩, ⟨by omega, by omega⟩, ⟨by omega, by omega⟩, dis6, fun j hj => ?_⟩, hz, g.hl, ul, sF⟩⟩
    rcases hj with hj | hj | hj | hj
    · exact low j (.inl hj)
    · exact (dB j hj).elim (fun e => low j (.inr (.inl e))) (fun e => by omega)
    · exact low j (.inr (.inr (.inl hj)))
    · exact (dG j hj).elim (fun e => low j (.inr (.inr (.inr e)))) (fun e => by omega)

omit G Nu HF NR in
/-- others make a record of so many cells, in both -/
theorem pad_spec {h1 h : Heap} {bm bx bf bg : Nat} {K : Nat → Prop} {pv : Value} {l : List Pr} {u : Option Nat} {z : Int} {i e : Nat} {st : Bool} (g : GPS h1 h bm bx bf bg K pv l u z i e st) (he : e ≤ 1000) (k : Nat) (hk : k < 4) :
    ∃ h2 v3 h3 v4 h4, mkSV h 1 8 [I 0] (I k) (I k) = some (.slice (some ⟨h.next, 0, none⟩) k k, h2) ∧ Fact P 12 [.pointer (some ⟨bm, 0, none⟩), .slice (some ⟨h.next, 0, none⟩) k k] h2 v3 h3 ∧ Fact P 13 [.pointer (some ⟨bx, 0, none⟩), .slice (some ⟨h.next, 0, none⟩) k k] h3 v4 h4 ∧ GPS h1 h4 bm bx bf bg K pv l u z i (e + 1) st := by
  obtain ⟨um, ux, uw, ut, C, W, T, Ls, rf, c, o, r, c', o', r', m, mx, f, q, rel, hst, hW, hT1, hTb, hC, hc, hr, hc', hr', dis, low⟩ := g.ex
  have hz := g.hz
  have ul := g.ul
  have sm := g.same
  have nx := sm.next
  have lA := m.cl_lt
  have lB := mx.cl_lt
  have lF := f.cl_lt
  have lG := q.cl_lt
  have s2 : Same h (h.new ⟨rep [I 0] k, k * 1, 1, true, false⟩) (fun _ => False) := Same.new
  have r2 : RdAt (h.new ⟨rep [I 0] k, k * 1, 1, true, false⟩) h.next 0 1 k k ((List.replicate k (0 : Int)).map I) := by
    rw [rep_int]; exact RdAt.fresh h _ k 1 true false (by simp)
  have n2 : (h.new ⟨rep [I 0] k, k * 1, 1, true, false⟩).next = h.next + 1 := rfl
  have mk : mkSV h 1 8 [I 0] (I k) (I k) = some (.slice (some ⟨h.next, 0, none⟩) k k, h.new ⟨rep [I 0] k, k * 1, 1, true, false⟩) := mkS_ok (by omega) (by omega)
  generalize h.new ⟨rep [I 0] k, k * 1, 1, true, false⟩ = h2 at s2 r2 n2 mk
  have m2 := m.sameC s2 (fun _ _ x => x)
  have mx2 := mx.sameC s2 (fun _ _ x => x)
  have f2 := f.sameC s2 (fun _ _ x => x)
  have q2 := q.same s2 (fun _ _ x => x) (fun _ _ x => x)
  have bmlt := lA bm (.inl rfl)
  have bxlt := lB bx (.inl rfl)
  have bm1 := low bm (.inl (.inl rfl))
  have bx1 := low bx (.inr (.inl (.inl rfl)))
  by_cases hno : k = 0 ∨ z < (C.length : Int) + k
  · obtain ⟨v3, h3, F3, rfl, m3, s3⟩ := make_no hT H m2 (base := some ⟨h.next, 0, none⟩) (cap := k) (n := k) hno ⟨by omega, by omega⟩ hC ⟨by omega, by omega⟩ ⟨by omega, by omega⟩
    have mx3 := mx2.sameC s3 (fun j hj e => dis.ab bm (.inl rfl) (e ▸ hj))
    obtain ⟨v4, h4, F4, rfl, mx4, s4⟩ := rmake_no hT HR mx3 (base := some ⟨h.next, 0, none⟩) (cap := k) (n := k) hno ⟨by omega, by omega⟩ hC ⟨by omega, by omega⟩ ⟨by omega, by omega⟩
    have m4 := m3.sameC s4 (fun j hj e => dis.ab j hj (e ▸ (.inl rfl)))
    have f4 := (f2.sameC s3 (fun j hj e => dis.af bm (.inl rfl) (e ▸ hj))).sameC s4 (fun j hj e => dis.bf bx (.inl rfl) (e ▸ hj))
    have q4 := (q2.same s3 (fun j hj e => dis.ag bm (.inl rfl) (e ▸ hj)) (fun y hy e => by have := ul y hy; omega)).same s4 (fun j hj e => dis.bg bx (.inl rfl) (e ▸ hj)) (fun y hy e => by have := ul y hy; omega)
    refine ⟨h2, _, h3, _, h4, mk, F3, F4, ⟨⟨um, ux, uw, ut, C, W, T, Ls, rf, c + 1, o, r + 1, c' + 1, o', r' + 1, m4, mx4, f4, q4, rel, hst, hW, hT1, hTb, hC, ⟨by omega, by omega⟩, ⟨by omega, by omega⟩, ⟨by omega, by omega⟩, ⟨by omega, by omega⟩, dis, low⟩, hz, g.hl, ul, ((sm.trans s2 (fun _ _ x => x)).trans s3 (fun j hj e => by omega)).trans s4 (fun j hj e => by omega)⟩⟩
  · have k0 : k ≠ 0 := fun e => hno (.inl e)
    have kz : (C.length : Int) + k ≤ z := by
      have := fun e => hno (.inr e)
      omega
    have hne : List.replicate k (0 : Int) ≠ [] := by intro e; have := congrArg List.length e; simp at this; exact k0 this
    obtain ⟨v3, h3, F3, rfl, ⟨u3, m3, hum⟩, s3⟩ := make_ok hT H m2 (ws := List.replicate k 0) (x := h.next) (p := 0) (cap := k) (by simpa using r2) (by omega) hne (by simpa using kz) (by omega) ⟨by omega, by omega⟩
    rw [List.length_replicate] at F3
    have n3 := s3.next
    have S3 : ∀ j, (j = bm ∨ um = some j) → cl bm um j := fun j hj => hj
    have mx3 := mx2.sameC s3 (fun j hj e => dis.ab j e hj)
    have r3 := r2.same s3 (fun e => by have := lA _ e; omega)
    obtain ⟨v4, h4, F4, rfl, ⟨u4, mx4, hux⟩, s4⟩ := rmake_ok hT HR mx3 (ws := List.replicate k 0) (x := h.next) (p := 0) (cap := k) (by simpa using r3) (by omega) hne (by simpa using kz) (by omega) ⟨by omega, by omega⟩
    rw [List.length_replicate] at F4
    have n4 := s4.next
    have lA3 := m3.cl_lt
    have m4 := m3.sameC s4 (fun j hj e => by
      rcases hj with hj | hj
      · exact dis.ab j (.inl hj) e
      · rcases hum j hj with e2 | e2
        · exact dis.ab j (.inr e2) e
        · have := lB j e; omega)
    have f3 := f2.sameC s3 (fun j hj e => dis.af j e hj)
    have f4 := f3.sameC s4 (fun j hj e => dis.bf j e hj)
    have q3 := q2.same s3 (fun j hj e => dis.ag j e hj) (fun y hy e => by have h1 := ul y hy; have := low y (.inl e); omega)
    have q4 := q3.same s4 (fun j hj e => dis.bg j e hj) (fun y hy e => by have h1 := ul y hy; have := low y (.inr (.inl e)); omega)
    have dA : ∀ j, cl bm u3 j → cl bm um j ∨ h2.next ≤ j := fun j hj => hj.elim (fun e => .inl (.inl e)) (fun e => (hum j e).imp_left (fun e => .inr e))
    have dB : ∀ j, cl bx u4 j → cl bx ux j ∨ h3.next ≤ j := fun j hj => hj.elim (fun e => .inl (.inl e)) (fun e => (hux j e).imp_left (fun e => .inr e))
    have dis4 : Dis (cl bm u3) (cl bx u4) (clF bf uw K) (cl bg ut) := dis.step (n := h.next) lA lB lF lG (fun j hj => (dA j hj).imp_right (fun e => by omega)) (fun j hj => (dB j hj).imp_right (fun e => by omega)) (fun j hj => .inl hj) (fun j hj => .inl hj) (fun j hj => ⟨fun h1 => ⟨fun e => by
        have q1 := lA3 j h1
        rcases dB j e with e2 | e2
        · have := lB j e2; omega
        · omega, fun e => by have := lF j e; omega, fun e => by have := lG j e; omega⟩, fun h1 => ⟨fun e => by have := lF j e; omega, fun e => by have := lG j e; omega⟩, fun h1 => by have := lF j h1; omega⟩)
    refine ⟨h2, _, h3, _, h4, mk, F3, F4, ⟨⟨u3, u4, uw, ut, _, W, T, Ls, rf, c + 1, o, r, c' + 1, o', r', m4, mx4, f4, q4, rel, hst, hW, hT1, hTb, by simpa using kz, ⟨by omega, by omega⟩, ⟨by omega, by omega⟩, ⟨by omega, by omega⟩, ⟨by omega, by omega⟩, dis4, fun j hj => ?_⟩, hz, g.hl, ul, ((sm.trans s2 (fun _ _ x => x)).trans s3 (fun j hj e => by have := low j (.inl e); omega)).trans s4 (fun j hj e => by have := low j (.inr (.inl e)); omega)⟩⟩
    rcases hj with hj | hj | hj | hj
    · exact (dA j hj).elim (fun e => low j (.inl e)) (fun e => by omega)
    · exact (dB j hj).elim (fun e => low j (.inr (.inl e))) (fun e => by omega)
    · exact low j (.inr (.inr (.inl hj)))
    · exact low j (.inr (.inr (.inr hj)))

omit HF NR Nu in
/-- when it is done, both tell the same -/
theorem end_spec {h1 h : Heap} {bm bx bf bg : Nat} {K : Nat → Prop} {pv : Value} {l : List Pr} {u : Option Nat} {z : Int} {i e : Nat} (g : GPS h1 h bm bx bf bg K pv l u z i e true) :
    ∃ w ok h2, Fact P 16 [.pointer (some ⟨bf, 0, none⟩)] h (.tuple #[I w, .bool ok]) h ∧ h.rd bg 23 = some (.bool true) ∧ h.rd bg 24 = some (I w) ∧ h.rd bg 25 = some (.bool ok) ∧ Fact P 17 [.pointer (some ⟨bm, 0, none⟩), .pointer (some ⟨bx, 0, none⟩)] h (.bool true) h2 ∧ Same h h2 (fun _ => False) := by
  obtain ⟨um, ux, uw, ut, C, W, T, Ls, rf, c, o, r, c', o', r', m, mx, f, q, rel, hst, hW, hT1, hTb, hC, hc, hr, hc', hr', dis, low⟩ := g.ex
  have hz := g.hz
  obtain ⟨_, h2, F2, rfl, s2⟩ := like_spec hT H HR m mx (by omega)
  have fin : ∀ (w : Int) (ok : Bool), DFr h bg pv l u ut T true w ok → (∃ v h', Fact P 16 [.pointer (some ⟨bf, 0, none⟩)] h v h' ∧ v = .tuple #[I w, .bool ok] ∧ h' = h) → ∃ w ok h2, Fact P 16 [.pointer (some ⟨bf, 0, none⟩)] h (.tuple #[I w, .bool ok]) h ∧ h.rd bg 23 = some (.bool true) ∧ h.rd bg 24 = some (I w) ∧ h.rd bg 25 = some (.bool ok) ∧ Fact P 17 [.pointer (some ⟨bm, 0, none⟩), .pointer (some ⟨bx, 0, none⟩)] h (.bool true) h2 ∧ Same h h2 (fun _ => False) := fun w ok d x => by
    obtain ⟨v, h', F, rfl, rfl⟩ := x
    exact ⟨w, ok, h2, F, rd_of d.blk, rd_of d.blk, rd_of d.blk, F2, s2⟩
  rcases rel with ⟨rfl, hno⟩ | ⟨rfl, hgo, _, _, _⟩
  · rw [hno] at q
    obtain ⟨v, h', F, e1, e2⟩ := gword_spec hT G f (fun e => by cases e)
    exact fin 0 false q ⟨v, h', F, by simpa using e1, e2⟩
  · have hg := hgo []
    rw [List.append_nil] at hg
    rw [hg] at hst q
    cases Ls with
    | cons l0 Ls => cases hst
    | nil =>
      obtain ⟨w, rfl, d⟩ := q
      obtain ⟨v, h', F, e1, e2⟩ := gword_spec hT G f (fun _ _ => by simp)
      exact fin w true d ⟨v, h', F, by simpa using e1, e2⟩
end
end
end Go.Proofs.YtedldiimhbebdaaGreat.Ai
/- GrowPlays, for all arguments. -/
namespace Go.Proofs.YtedldiimhbebdaaGreat.Ai
open Go.Proofs.YtedldiimhbebdaaGreat
noncomputable section
set_option linter.unusedVariables false
open Go.RowKit
def pre3_3 (x : ACode) : ACode := (.seq (.ops [⟨(some 10), .p (.mov (.c (.bool false))), none⟩]) (.seq (.ops [⟨(some 25), .p (.mov (.t 1)), none⟩, ⟨(some 11), .p (.mov (.t 25)), none⟩]) (.seq (.seq (.ops [⟨(some 26), .p (.mov (.t 3)), none⟩, ⟨(some 27), .p (.not (.t 26)), none⟩]) (.cond (.t 27) (.ops [⟨(some 28), .p (.mov (.t 2)), none⟩, ⟨(some 29), .call 4 [(.t 28)], none⟩, ⟨(some 11), .p (.mov (.t 29)), none⟩]) .skip)) x)))
def rest3_3 : ACode := (.seq (.seq (.ops [⟨(some 30), .p (.mov (.t 11)), none⟩, ⟨(some 31), .p (.len false (.t 30)), none⟩, ⟨(some 32), .p (.bin .gtr false (.t 31) (.c (.int .i64 80))), none⟩]) (.cond (.t 32) (.seq (.ops [⟨(some 33), .call 5 [], none⟩, ⟨(some 10), .p (.mov (.t 33)), none⟩]) .ret) .skip)) (.seq (.ops [⟨(some 35), .p (.mov (.t 0)), none⟩, ⟨(some 36), .call 7 [(.t 35), (.c (.int .i64 900))], none⟩, ⟨(some 37), .p (.bin .add false (.c (.int .i64 1)) (.t 36)), none⟩, ⟨(some 38), .call 6 [(.t 37)], none⟩, ⟨(some 34), .p (.mov (.t 38)), none⟩, ⟨(some 39), .p (.ext 0 (.t 34)), none⟩, ⟨(some 40), .p (.ext 1 (.t 34)), none⟩, ⟨(some 12), .p (.mov (.t 39)), none⟩, ⟨(some 13), .p (.mov (.t 40)), none⟩]) (.seq (.ops [⟨(some 41), .p (.mov (.t 12)), none⟩, ⟨(some 42), .call 8 [(.t 41)], none⟩, ⟨(some 14), .p (.mov (.t 42)), none⟩]) (.seq (.ops [⟨(some 43), .e (.buildS 2 0 [] []), none⟩, ⟨(some 44), .p (.mov (.t 11)), none⟩, ⟨(some 45), .e (.app 2 16 (.t 43) (.t 44)), none⟩, ⟨(some 15), .p (.mov (.t 45)), none⟩]) (.seq (.ops [⟨(some 46), .p (.mov (.t 15)), none⟩, ⟨(some 47), .call 9 [(.t 46)], none⟩, ⟨(some 16), .p (.mov (.t 47)), none⟩]) (.seq (.seq (.ops [⟨(some 17), .p (.mov (.c (.int .i64 0))), none⟩]) (.block 0 (.loop (.seq (.seq (.ops [⟨(some 48), .p (.mov (.t 17)), none⟩, ⟨(some 49), .p (.mov (.t 15)), none⟩, ⟨(some 50), .p (.len false (.t 49)), none⟩, ⟨(some 51), .p (.bin .lss false (.t 48) (.t 50)), none⟩]) (.cond (.t 51) .skip (.exit 0))) (.seq (.block 1 (.ops [⟨(some 54), .p (.mov (.t 15)), none⟩, ⟨(some 55), .p (.mov (.t 17)), none⟩, ⟨(some 56), .p (.mov (.t 15)), none⟩, ⟨(some 57), .p (.mov (.t 17)), none⟩, ⟨(some 58), .p (.idxS 2 (.t 56) (.t 57)), none⟩, ⟨(some 59), .p (.fieldAddr 1 (.t 58)), none⟩, ⟨(some 60), .r (.load1 (.t 59)), none⟩, ⟨(some 61), .p (.bin .add false (.t 60) (.c (.int .i64 1))), none⟩, ⟨(some 62), .p (.idxS 2 (.t 54) (.t 55)), none⟩, ⟨(some 63), .p (.fieldAddr 1 (.t 62)), none⟩, ⟨none, .e (.store 1 (.t 63) (.t 61)), none⟩])) (.ops [⟨(some 52), .p (.mov (.t 17)), none⟩, ⟨(some 53), .p (.bin .add false (.t 52) (.c (.int .i64 1))), none⟩, ⟨(some 17), .p (.mov (.t 53)), none⟩])))))) (.seq (.ops [⟨(some 64), .p (.mov (.t 11)), none⟩, ⟨(some 65), .p (.build [(.int .i64 0), (.int .i64 0), (.int .i64 0), (.int .i64 0), (.int .i64 0), (.int .i64 0), (.int .i64 0), (.bool false), (.int .i64 0), (.bool false), (.slice none 0 0), (.slice none 0 0), (.slice none 0 0), (.slice none 0 0), (.slice none 0 0), (.int .i64 0), (.int .i64 0), (.int .i64 0), (.int .i64 0), (.int .i64 0), (.int .i64 0)] [(13, 1, (.t 64))]), none⟩, ⟨(some 66), .call 10 [(.c (.int .i64 21)), (.t 65)], none⟩, ⟨(some 18), .p (.mov (.t 66)), none⟩]) (.seq (.seq (.draw [⟨(some 67), .call 5 [], none⟩, ⟨(some 68), .p (.not (.t 67)), none⟩, ⟨(some 69), .p (.mov (.t 68)), none⟩, ⟨(some 70), .p (.mov (.t 16)), some (69, false)⟩, ⟨(some 71), .call 11 [(.t 70)], some (69, false)⟩, ⟨(some 72), .p (.mov (.t 18)), some (69, false)⟩, ⟨(some 73), .p (.nilchk (.t 72)), some (69, false)⟩, ⟨(some 74), .p (.fieldAddr 23 (.t 73)), some (69, false)⟩, ⟨(some 75), .r (.load1 (.t 74)), some (69, false)⟩, ⟨(some 76), .p (.bin .neq true (.t 71) (.t 75)), some (69, false)⟩, ⟨(some 77), .p (.pick (.t 69) (.c (.bool true)) (.t 76)), none⟩] [(0, 1), (1, 1), (1, 1), (1, 1), (1, 2), (1, 2), (1, 2), (1, 2), (1, 2), (2, 2), (2, 2)]) (.cond (.t 77) (.seq (.ops [⟨(some 10), .p (.mov (.c (.bool false))), none⟩]) .ret) .skip)) (.seq (.seq (.ops [⟨(some 19), .p (.mov (.c (.int .i64 0))), none⟩]) (.block 2 (.loop (.seq (.seq (.ops [⟨(some 78), .p (.mov (.t 19)), none⟩, ⟨(some 79), .p (.bin .lss false (.t 78) (.c (.int .i64 400))), none⟩, ⟨(some 80), .p (.mov (.t 79)), none⟩, ⟨(some 81), .p (.mov (.t 18)), some (80, true)⟩, ⟨(some 82), .p (.nilchk (.t 81)), some (80, true)⟩, ⟨(some 83), .p (.fieldAddr 23 (.t 82)), some (80, true)⟩, ⟨(some 84), .r (.load1 (.t 83)), some (80, true)⟩, ⟨(some 85), .p (.not (.t 84)), some (80, true)⟩, ⟨(some 86), .p (.pick (.t 80) (.t 85) (.c (.bool false))), none⟩]) (.cond (.t 86) .skip (.exit 2))) (.seq (.block 3 (.seq (.seq (.ops [⟨(some 89), .p (.mov (.t 19)), none⟩, ⟨(some 90), .p (.mov (.t 4)), none⟩, ⟨(some 91), .p (.len false (.t 90)), none⟩, ⟨(some 92), .p (.bin .lss false (.t 89) (.t 91)), none⟩, ⟨(some 93), .p (.mov (.t 92)), none⟩, ⟨(some 94), .p (.mov (.t 4)), some (93, true)⟩, ⟨(some 95), .p (.mov (.t 19)), some (93, true)⟩, ⟨(some 96), .p (.idxS 1 (.t 94) (.t 95)), some (93, true)⟩, ⟨(some 97), .r (.load1 (.t 96)), some (93, true)⟩, ⟨(some 98), .p (.bin .rem false (.t 97) (.c (.int .i64 3))), some (93, true)⟩, ⟨(some 99), .p (.bin .eql false (.t 98) (.c (.int .i64 0))), some (93, true)⟩, ⟨(some 100), .p (.pick (.t 93) (.t 99) (.c (.bool false))), none⟩]) (.cond (.t 100) (.seq (.ops [⟨(some 101), .p (.mov (.t 4)), none⟩, ⟨(some 102), .p (.mov (.t 19)), none⟩, ⟨(some 103), .p (.idxS 1 (.t 101) (.t 102)), none⟩, ⟨(some 104), .r (.load1 (.t 103)), none⟩, ⟨(some 105), .p (.bin .quo false (.t 104) (.c (.int .i64 3))), none⟩, ⟨(some 106), .call 7 [(.t 105), (.c (.int .i64 4))], none⟩, ⟨(some 107), .e (.mkS 1 8 [(.int .i64 0)] (.t 106) (.t 106)), none⟩, ⟨(some 20), .p (.mov (.t 107)), none⟩]) (.seq (.ops [⟨(some 108), .p (.mov (.t 14)), none⟩, ⟨(some 109), .p (.mov (.t 20)), none⟩, ⟨(some 110), .call 12 [(.t 108), (.t 109)], none⟩]) (.ops [⟨(some 111), .p (.mov (.t 12)), none⟩, ⟨(some 112), .p (.mov (.t 20)), none⟩, ⟨(some 113), .call 13 [(.t 111), (.t 112)], none⟩]))) .skip)) (.seq (.ops [⟨(some 114), .p (.mov (.t 16)), none⟩, ⟨(some 115), .p (.mov (.t 14)), none⟩, ⟨(some 116), .call 14 [(.t 114), (.t 115)], none⟩, ⟨(some 21), .p (.mov (.t 116)), none⟩]) (.seq (.ops [⟨(some 117), .p (.mov (.t 18)), none⟩, ⟨(some 118), .p (.mov (.t 12)), none⟩, ⟨(some 119), .call 15 [(.t 117), (.t 118)], none⟩, ⟨(some 22), .p (.mov (.t 119)), none⟩]) (.seq (.draw [⟨(some 120), .p (.mov (.t 21)), none⟩, ⟨(some 121), .p (.mov (.t 22)), none⟩, ⟨(some 122), .p (.bin .neq true (.t 120) (.t 121)), none⟩, ⟨(some 123), .p (.mov (.t 122)), none⟩, ⟨(some 124), .p (.mov (.t 16)), some (123, false)⟩, ⟨(some 125), .call 11 [(.t 124)], some (123, false)⟩, ⟨(some 126), .p (.mov (.t 18)), some (123, false)⟩, ⟨(some 127), .p (.nilchk (.t 126)), some (123, false)⟩, ⟨(some 128), .p (.fieldAddr 23 (.t 127)), some (123, false)⟩, ⟨(some 129), .r (.load1 (.t 128)), some (123, false)⟩, ⟨(some 130), .p (.bin .neq true (.t 125) (.t 129)), some (123, false)⟩, ⟨(some 131), .p (.pick (.t 123) (.c (.bool true)) (.t 130)), none⟩] [(0, 0), (0, 0), (0, 0), (0, 0), (0, 0), (0, 1), (0, 1), (0, 1), (0, 1), (0, 1), (1, 1), (1, 1)]) (.cond (.t 131) (.seq (.ops [⟨(some 10), .p (.mov (.c (.bool false))), none⟩]) .ret) .skip)))))) (.ops [⟨(some 87), .p (.mov (.t 19)), none⟩, ⟨(some 88), .p (.bin .add false (.t 87) (.c (.int .i64 1))), none⟩, ⟨(some 19), .p (.mov (.t 88)), none⟩])))))) (.seq (.ops [⟨(some 133), .p (.mov (.t 16)), none⟩, ⟨(some 134), .call 16 [(.t 133)], none⟩, ⟨(some 132), .p (.mov (.t 134)), none⟩, ⟨(some 135), .p (.ext 0 (.t 132)), none⟩, ⟨(some 136), .p (.ext 1 (.t 132)), none⟩, ⟨(some 23), .p (.mov (.t 135)), none⟩, ⟨(some 24), .p (.mov (.t 136)), none⟩]) (.seq (.ops [⟨(some 137), .p (.mov (.t 18)), none⟩, ⟨(some 138), .p (.nilchk (.t 137)), none⟩, ⟨(some 139), .p (.fieldAddr 23 (.t 138)), none⟩, ⟨(some 140), .r (.load1 (.t 139)), none⟩, ⟨(some 141), .p (.mov (.t 140)), none⟩, ⟨(some 142), .p (.mov (.t 23)), some (141, true)⟩, ⟨(some 143), .p (.mov (.t 18)), some (141, true)⟩, ⟨(some 144), .p (.nilchk (.t 143)), some (141, true)⟩, ⟨(some 145), .p (.fieldAddr 24 (.t 144)), some (141, true)⟩, ⟨(some 146), .p (.fieldAddr 0 (.t 145)), some (141, true)⟩, ⟨(some 147), .r (.load1 (.t 146)), some (141, true)⟩, ⟨(some 148), .p (.bin .eql false (.t 142) (.t 147)), some (141, true)⟩, ⟨(some 149), .p (.pick (.t 141) (.t 148) (.c (.bool false))), none⟩, ⟨(some 150), .p (.mov (.t 149)), none⟩, ⟨(some 151), .p (.mov (.t 24)), some (150, true)⟩, ⟨(some 152), .p (.mov (.t 18)), some (150, true)⟩, ⟨(some 153), .p (.nilchk (.t 152)), some (150, true)⟩, ⟨(some 154), .p (.fieldAddr 24 (.t 153)), some (150, true)⟩, ⟨(some 155), .p (.fieldAddr 1 (.t 154)), some (150, true)⟩, ⟨(some 156), .r (.load1 (.t 155)), some (150, true)⟩, ⟨(some 157), .p (.bin .eql true (.t 151) (.t 156)), some (150, true)⟩, ⟨(some 158), .p (.pick (.t 150) (.t 157) (.c (.bool false))), none⟩, ⟨(some 159), .p (.mov (.t 158)), none⟩, ⟨(some 160), .p (.mov (.t 14)), some (159, true)⟩, ⟨(some 161), .p (.mov (.t 12)), some (159, true)⟩, ⟨(some 162), .call 17 [(.t 160), (.t 161)], some (159, true)⟩, ⟨(some 163), .p (.pick (.t 159) (.t 162) (.c (.bool false))), none⟩, ⟨(some 10), .p (.mov (.t 163)), none⟩]) .ret)))))))))))
theorem cut3_3 : af3.body = pre3_3 rest3_3 := (rfl)
structure HasL (tab : Nat → Option AFunc) : Prop where
  l3 : tab 3 = some af3

theorem hasL : HasL tabT.get := ⟨by kernel_rfl⟩

theorem flat_set : ∀ (l : List Pr) (i : Nat) (x : Int) (hi : i < l.length), (flat l).set (i * 2 + 1) (I x) = flat (l.set i (l[i].1, x))
  | p :: l, 0, x, _ => rfl
  | p :: l, i + 1, x, hi => by
    rw [show (i + 1) * 2 + 1 = (i * 2 + 1) + 1 + 1 by omega]
    simp only [flat, List.set_cons_succ, List.getElem_cons_succ]
    rw [flat_set l i x (by simpa using hi)]

section
variable {P : Program} {tab : Nat → Option AFunc} (hT : TabOk P tab) (G : HasG tab) (H : Has tab) (Nu : Num P) (HR : HasR tab) (HF : HasF3 tab) (NR : NumF P) (Kn : ∀ h, Fact P 5 [] h (.bool true) h)
include hT G H Nu HR HF NR Kn

omit G Nu HF NR Kn in
theorem copyB_spec {h : Heap} {b : Nat} {u : Option Nat} {C : List Int} {z c o r : Int} (m : RMemAt h b u C z c o r) (hz : 1 ≤ z ∧ z ≤ 65536) (hC : (C.length : Int) ≤ z) :
    FSpec P 8 [.pointer (some ⟨b, 0, none⟩)] h fun v h' => v = .pointer (some ⟨h.next, 0, none⟩) ∧ (∃ u' r', MemAt h' h.next u' C z 1 0 r' ∧ (∀ y, u' = some y → h.next < y) ∧ 0 ≤ r' ∧ r' ≤ 1) ∧ Same h h' (fun _ => False) := by
  refine fspec_cwf hT HR.r26 rfl ?_
  obtain ⟨v1, h1, F1, rfl, m1, s1⟩ := new_spec hT H h z hz.1 hz.2
  have mr := m.same s1 (fun x => x) (fun _ _ x => x)
  have hlt := m.lt
  have x1 := m1.lt
  simp only [af8, cwf_seq, cwf_ops, andThen_normal, owf_nil, o_p, o_r, owf_call, bo_eq, optQ_some, pop, popQ, rop_load1, ldV_ptr, ev, evs, putA, putArgs, look_put, Nat.add_zero, ite_true, ite_false, Nat.reduceEqDiff, m.rd0]
  refine ⟨_, _, F1, ?_⟩
  simp only [cwf_seq, cwf_ops, andThen_normal, owf_nil, o_p, o_r, owf_call, behind_eq, bo_eq, optQ_some, pop, popQ, rop_load1, ldV_ptr, ev, evs, putA, look_put, ite_true, ite_false, Nat.reduceEqDiff, Nat.zero_add, List.getElem?_cons_zero, List.getElem?_cons_succ, mr.rd1]
  cases u with
  | none =>
    have hc := m.non rfl
    subst hc
    obtain ⟨v2, h2, F2, rfl, m2, s2⟩ := make_no hT H m1 (base := none) (cap := 0) (n := 0) (.inl rfl) ⟨by omega, hz.2⟩ (by simpa using hC) ⟨by omega, by omega⟩ ⟨by omega, by omega⟩
    refine ⟨_, _, F2, ?_⟩
    simp only [cwf_seq, cwf_ops, cwf_ret, andThen_normal, fnQ_ret, owf_nil, o_p, behind_eq, bo_eq, optQ_some, pop, popQ, ev, putA, look_put, resAll, resA, mkRes1, ite_true, ite_false, Nat.reduceEqDiff, Option.some.injEq, exists_eq_left', true_and]
    have sf : Same h h2 (fun _ => False) := s1.trans s2 (fun j hj e => by omega)
    rw [tail_marks h h2 sf.marks]
    exact ⟨⟨none, _, m2, (fun y hy => by cases hy), by omega, by omega⟩, sf⟩
  | some y =>
    have hy := m.use y rfl
    obtain ⟨v2, h2, F2, rfl, ⟨u2, m2, n2⟩, s2⟩ := make_ok hT H m1 (m.own.rd.same s1 (fun x => x)) (by omega) hy.2.2.2 (by simpa using hC) hz.2 ⟨by omega, by omega⟩
    refine ⟨_, _, F2, ?_⟩
    simp only [cwf_seq, cwf_ops, cwf_ret, andThen_normal, fnQ_ret, owf_nil, o_p, behind_eq, bo_eq, optQ_some, pop, popQ, ev, putA, look_put, resAll, resA, mkRes1, List.length_nil, Int.reduceAdd, Int.cast_ofNat_Int, ite_true, ite_false, Nat.reduceEqDiff, Option.some.injEq, exists_eq_left', true_and]
    have sf : Same h h2 (fun _ => False) := s1.trans s2 (fun j hj e => e.elim (fun e => by omega) (fun e => by cases e))
    rw [tail_marks h h2 sf.marks]
    exact ⟨⟨u2, _, m2, (fun w hw => (n2 w hw).elim (fun e => by cases e) (fun e => by omega)), by omega, by omega⟩, sf⟩

omit Kn in
/-- all that stands ahead of the rounds -/
theorem start_spec {h1 : Heap} {pv : Value} {l : List Pr} {u : Option Nat} (size : Int) (e1 : PrE h1 pv l u) (ul : ∀ y, u = some y → y < h1.next) (hl : l.length ≤ 80) :
    ∃ (z : Int) (h2 h4 h6 h7 h8 : Heap) (bm bx bf zi : Nat) (K : Nat → Prop) (vi : Value), wrapF .i64 (1 + size % 900) = z ∧ Fact P 7 [I size, I 900] h1 (I (size % 900)) h1 ∧ Fact P 6 [I z] h1 (.tuple #[.pointer (some ⟨bx, 0, none⟩), I 0]) h2 ∧ Fact P 8 [.pointer (some ⟨bx, 0, none⟩)] h2 (.pointer (some ⟨bm, 0, none⟩)) h4 ∧
      h4.new ⟨[], 0, 2, true, false⟩ = h6 ∧ appV h6 2 16 (.slice (some ⟨h4.next, 0, none⟩) 0 0) pv = some (vi, h7) ∧ Fact P 9 [vi] h7 (.pointer (some ⟨bf, 0, none⟩)) h8 ∧
      (∃ base cap, vi = .slice base l.length cap) ∧ (l ≠ [] → vi = .slice (some ⟨zi, 0, none⟩) l.length l.length ∧ h8.blks.get zi = some ⟨flat l, l.length * 2, 2, true, true⟩) ∧ h1.next ≤ zi ∧
      (∀ h9, Same h8 h9 (· = zi) → ∃ bg h10, Fact P 10 [I 21, .agg (argsL pv).toArray] h9 (.pointer (some ⟨bg, 0, none⟩)) h10 ∧ Fact P 11 [.pointer (some ⟨bf, 0, none⟩)] h10 (.bool (goOf l []).stands) h10 ∧ h10.rd bg 23 = some (.bool (goOf l []).stands) ∧ GPS h1 h10 bm bx bf bg K pv l u z 0 0 (goOf l []).stands) := by
  have em := Int.emod_nonneg size (show (900 : Int) ≠ 0 by omega)
  have el := Int.emod_lt_of_pos size (show (0 : Int) < 900 by omega)
  obtain ⟨_, _, F2, rfl, rfl⟩ := cut_spec hT H h1 size 900 (by omega) (by omega)
  have wz : wrapF .i64 (1 + size % 900) = 1 + size % 900 := wrapI (by omega) (by omega)
  generalize hz : 1 + size % 900 = z at wz
  rename_i h1
  obtain ⟨_, h2, F3, rfl, m2, s2⟩ := rnew_spec hT HR h1 z (by omega) (by omega)
  have x2 := s2.next
  have b2 := m2.lt
  obtain ⟨_, h4, F4, rfl, ⟨um, rm, m4, hum, hrm⟩, s4⟩ := copyB_spec hT H HR m2 ⟨by omega, by omega⟩ (by simp; omega)
  have x4 := s4.next
  have b4 := m4.lt
  have u4 := fun y hy => (m4.use y hy).2.2.1
  have e4 : PrE h4 pv l u := (e1.same s2 (fun _ _ x => x)).same s4 (fun _ _ x => x)
  have e6 : (h4.new ⟨[], 0, 2, true, false⟩).blks.get h4.next = some ⟨[], 0, 2, true, false⟩ := by rw [new_get]; exact if_pos rfl
  have s6 : Same h4 (h4.new ⟨[], 0, 2, true, false⟩) (fun _ => False) := Same.new
  have l6 : (h4.new ⟨[], 0, 2, true, false⟩).next = h4.next + 1 := rfl
  generalize hh6 : h4.new ⟨[], 0, 2, true, false⟩ = h6 at e6 s6 l6
  obtain ⟨vi, h7, zi, ap, mi, s7, zie, _⟩ := app_empty (bytes := 16) e6 (by omega) (e4.same s6 (fun _ _ x => x)).src (by simp [flat_len]) (flat_scalar l) (by omega) (by omega) (by omega)
  have x7 := s7.next
  have zl2 : zi < h7.next := by
    rcases mi with ⟨_, _, _, _, h⟩ | ⟨_, o⟩
    · exact h
    · exact (o.use zi rfl).2.1
  have i7 : PrE h7 vi l (some zi) := by
    rcases mi with ⟨h0, hf, rfl, hz7, _⟩ | ⟨rfl, o⟩
    · have hl0 : l = [] := List.eq_nil_of_length_eq_zero h0
      subst hl0
      exact .inr ⟨zi, 0, 0, rfl, rfl, ⟨⟨_, hz7, rfl, by simp [flat], by simp⟩, Nat.le_refl _, by assumption⟩⟩
    · exact RowAt.of_own o
  have o7 : l ≠ [] → vi = .slice (some ⟨zi, 0, none⟩) l.length l.length ∧ h7.blks.get zi = some ⟨flat l, l.length * 2, 2, true, true⟩ := fun hne => by
    rcases mi with ⟨h0, _⟩ | ⟨rfl, o⟩
    · exact (hne (List.eq_nil_of_length_eq_zero h0)).elim
    · exact ⟨rfl, (o.use zi rfl).1⟩
  have hord : (ordF (l.length + 1) l).length ≤ 160 := by
    have := ord_two (l.length + 1) l (by omega) (by omega); omega
  obtain ⟨_, h8, F8, ⟨bf, K, rfl, hb, hK, hq⟩, s8⟩ := gnew_spec hT G H Nu i7 i7.pr (by omega) (by omega)
  have x8 := s8.next
  have f8lt : bf < h8.next := by rcases hq with ⟨_, f⟩ | ⟨_, f⟩ <;> exact f.lt
  have fKlt : ∀ j, K j → j < h8.next := by rcases hq with ⟨_, f⟩ | ⟨_, f⟩ <;> exact f.klt
  refine ⟨z, h2, h4, h6, h7, h8, h2.next, h1.next, bf, zi, K, vi, by rw [hz] at *; exact wz, F2, F3, F4, hh6, ap, F8, i7.len, fun hne => ⟨(o7 hne).1, by rw [s8.get _ zl2 (fun x => x)]; exact (o7 hne).2⟩, by omega, fun h9 s9 => ?_⟩
  have s48 : Same h4 h8 (fun _ => False) := (s6.trans s7 (fun _ _ x => x)).trans s8 (fun _ _ x => x)
  have s49 : Same h4 h9 (fun _ => False) := s48.trans s9 (fun j hj e => by omega)
  have s19 : Same h1 h9 (fun _ => False) := (s2.trans s4 (fun _ _ x => x)).trans s49 (fun _ _ x => x)
  have e9 : PrE h9 pv l u := e4.same s49 (fun _ _ x => x)
  have x9 := s9.next
  obtain ⟨_, h10, F10, bg, rfl, hbg, q10, s10⟩ := rnewF_spec hT HR HF NR e9 e9.pr (fun y hy => by have := ul y hy; omega) (by omega)
  have x10 := s10.next
  have s410 : Same h4 h10 (fun _ => False) := s49.trans s10 (fun _ _ x => x)
  have s110 : Same h1 h10 (fun _ => False) := s19.trans s10 (fun _ _ x => x)
  have m10 := m4.sameC s410 (fun _ _ x => x)
  have mx10 := (m2.sameC s4 (fun _ _ x => x)).sameC s410 (fun _ _ x => x)
  have fr : ∃ Ls rf, FrAt h10 bf none K Ls [] rf ∧ Rel2 l [] [] Ls rf 0 ∧ (rf || Ls.isEmpty) = (goOf l []).stands := by
    have up : ∀ Ls rf, FrAt h8 bf none K Ls [] rf → FrAt h10 bf none K Ls [] rf := fun Ls rf f => (f.sameC s9 (fun j hj e => by
      rcases hj with (hj | hj) | hj
      · omega
      · cases hj
      · have := hK j hj; omega)).sameC s10 (fun _ _ x => x)
    rcases hq with ⟨hasc, f⟩ | ⟨hn, f⟩
    · have hgo : ∀ D, goOf l ([] ++ D) = rgo [] (ordF (l.length + 1) l) D := fun D => by
        rw [List.nil_append]; unfold goOf; rw [if_pos hasc]
      refine ⟨_, _, up _ _ f, .inr ⟨rfl, hgo, ord_ok _ _ _ (by omega) (by omega), by omega, rfl⟩, ?_⟩
      rw [show goOf l [] = goOf l ([] ++ []) from rfl, hgo []]
      cases hx : ordF (l.length + 1) l <;> rfl
    · have hno : goOf l [] = .no := by unfold goOf; rw [if_neg hn]
      refine ⟨_, _, up _ _ f, .inl ⟨rfl, hno⟩, ?_⟩
      rw [hno]; rfl
  obtain ⟨Ls, rf, f10, rel, hst⟩ := fr
  obtain ⟨_, _, F11, rfl, rfl⟩ := gdone_spec hT G f10
  rename_i h10
  rw [hst] at F11
  obtain ⟨w10, ok10, d10⟩ := q10.done
  refine ⟨bg, h10, F10, F11, rd_of d10.blk, ⟨⟨um, none, none, none, [], [], [], Ls, rf, 1, 0, rm, 0, 0, 0, m10, mx10, f10, q10, rel, rfl, by simp, by simp, fun t ht => (by cases ht), by simp; omega, ⟨by omega, by omega⟩, ?_, ⟨by omega, by omega⟩, ⟨by omega, by omega⟩, ?_, ?_⟩, ⟨by omega, by omega⟩, by omega, ul, s110⟩⟩
  · exact ⟨hrm.1, by omega⟩
  · have q1 : ∀ j, cl h2.next um j → h2.next ≤ j := fun j hj => hj.elim (fun e => by omega) (fun e => by have := hum j e; omega)
    have q1' : ∀ j, cl h2.next um j → j < h4.next := fun j hj => hj.elim (fun e => by omega) (fun e => u4 j e)
    have q2 : ∀ j, cl h1.next none j → j = h1.next := fun j hj => hj.elim id (fun e => by cases e)
    have q3 : ∀ j, clF bf none K j → h7.next ≤ j ∧ j < h8.next := fun j hj => by
      have hl := f10.cl_lt j hj
      rcases hj with (hj | hj) | hj
      · exact ⟨by omega, by have := f8lt; omega⟩
      · cases hj
      · exact ⟨hK j hj, fKlt j hj⟩
    have q4 : ∀ j, cl bg none j → j = bg := fun j hj => hj.elim id (fun e => by cases e)
    exact ⟨fun j h1 h2 => by have := q1 j h1; have := q2 j h2; omega, fun j h1 h2 => by have := q1' j h1; have := q3 j h2; omega, fun j h1 h2 => by have := q1' j h1; have := q4 j h2; omega, fun j h1 h2 => by have := q2 j h1; have := q3 j h2; omega, fun j h1 h2 => by have := q2 j h1; have := q4 j h2; omega, fun j h1 h2 => by have := q3 j h1; have := q4 j h2; omega⟩
  · rintro j (hj | hj | hj | hj)
    · exact hj.elim (fun e => by omega) (fun e => by have := hum j e; omega)
    · exact hj.elim (fun e => by omega) (fun e => by cases e)
    · rcases hj with (hj | hj) | hj
      · omega
      · cases hj
      · have := hK j hj; omega
    · exact hj.elim (fun e => by omega) (fun e => by cases e)

set_option maxHeartbeats 2000000 in
/-- the law, behind its list -/
theorem rest_spec {h0 h1 : Heap} {pv sv : Value} {l : List Pr} {u : Option Nat} {SL : List Int} (size : Int) (e1 : PrE h1 pv l u) (ul : ∀ y, u = some y → y < h1.next) (asl : IntsAt h1 sv SL) (s01 : Same h0 h1 (fun _ => False)) (ts : Ai.T Value) (t0 : look ts 0 = I size) (t4 : look ts 4 = sv) (t11 : look ts 11 = pv) :
    cwf P 164 none rest3_3 ts h1 (fnQ h0 [.tmp 10] fun v h' => v = .bool true ∧ Same h0 h' (fun _ => False)) := by
  obtain ⟨pb, pc, hpv⟩ := e1.len
  by_cases hl : l.length ≤ 80
  rotate_left
  · have c1 : ((l.length : Int) > 80) = True := by simp; omega
    subst hpv
    simp only [rest3_3, cwf_seq, cwf_ops, c_true, andThen_normal, owf_nil, o_p, owf_call, bo_eq, optQ_some, pop, popQ, ev, evs, putA, look_put, isB_true, abinF_eq, abin, decide_true, cond_true, cond_false, ite_true, ite_false, Nat.reduceEqDiff, t11, c1]
    refine ⟨_, _, Kn _, ?_⟩
    simp only [cwf_ret, andThen_normal, andThen_ret, fnQ_ret, owf_nil, o_p, behind_eq, bo_eq, optQ_some, pop, popQ, ev, putA, look_put, resAll, resA, mkRes1, ite_true, ite_false, Nat.reduceEqDiff, Option.some.injEq, exists_eq_left', true_and]
    rw [tail_marks h0 h1 s01.marks]
    exact s01
  have c1 : ((l.length : Int) > 80) = False := by simp; omega
  obtain ⟨z, h2, h4, h6, h7, h8, bm, bx, bf, zi, K, vi, wz, F2, F3, F4, hh6, ap, F8, ⟨vb, vc, hvi⟩, hzi, zlo, st⟩ := start_spec hT G H Nu HR HF NR size e1 ul hl
  have ap' : appV h6 2 16 (.slice (some ⟨h4.next, 0, none⟩) 0 0) (.slice pb l.length pc) = some (vi, h7) := by rw [← hpv]; exact ap
  have psc : scalar pv = true := by rw [hpv]; exact scalar_slice _ _ _
  have hsv : ∃ base cap, sv = .slice base SL.length cap := by
    rcases asl with ⟨rfl, base, cap, rfl⟩ | ⟨x, p, cap, rfl, _⟩ <;> exact ⟨_, _, rfl⟩
  simp only [rest3_3, cwf_seq, cwf_ops, c_false, cwf_skip, andThen_normal, owf_nil, o_p, owf_call, bo_eq, optQ_some, pop, popQ, ev, evs, putA, look_put, isB_false, abinF_eq, abin, decide_true, decide_false, cond_true, cond_false, ite_true, ite_false, Bool.not_false, Nat.reduceEqDiff, t0, t11, hpv, c1]
  refine ⟨_, _, F2, ?_⟩
  simp only [o_p, owf_call, behind_eq, bo_eq, optQ_some, pop, popQ, ev, evs, putA, look_put, abinF_eq, abin, decide_true, cond_true, ite_true, ite_false, Nat.reduceEqDiff, wz]
  refine ⟨_, _, F3, ?_⟩
  simp only [cwf_seq, cwf_ops, andThen_normal, owf_nil, o_p, owf_call, behind_eq, bo_eq, optQ_some, pop, popQ, ev, evs, putA, look_put, ite_true, ite_false, Nat.reduceEqDiff, List.getElem?_cons_zero, List.getElem?_cons_succ]
  refine ⟨_, _, F4, ?_⟩
  simp only [cwf_seq, cwf_ops, andThen_normal, owf_nil, o_p, o_e, owf_call, behind_eq, bo_eq, optQ_some, opt2_some, pop, popQ, ev, evs, putA, look_put, eop_app, eop_buildS, bldS_some, evP_nil, fillA_nil, Nat.zero_mul, ite_true, ite_false, Nat.reduceEqDiff, t11, hpv, Nat.zero_mul, hh6, ap']
  refine ⟨_, _, F8, ?_⟩
  simp only [cwf_seq, cwf_ops, cwf_block, cwf_loop, andThen_normal, owf_nil, o_p, behind_eq, bo_eq, optQ_some, pop, popQ, ev, putA, look_put, ite_true, ite_false, Nat.reduceEqDiff]
  refine cw_loop (fun k ts h' => ∃ (i : Nat), k = l.length - i ∧ i ≤ l.length ∧ look ts 4 = sv ∧ look ts 11 = pv ∧ look ts 12 = .pointer (some ⟨bx, 0, none⟩) ∧ look ts 14 = .pointer (some ⟨bm, 0, none⟩) ∧ look ts 15 = vi ∧ look ts 16 = .pointer (some ⟨bf, 0, none⟩) ∧ look ts 17 = I i ∧ Same h8 h' (· = zi) ∧ (l ≠ [] → ∃ l' : List Pr, l'.length = l.length ∧ h'.blks.get zi = some ⟨flat l', l.length * 2, 2, true, true⟩)) ?_ (n := l.length) ⟨0, rfl, Nat.zero_le _, by simp only [look_put, ite_false, Nat.reduceEqDiff, t4], by simp only [look_put, ite_false, Nat.reduceEqDiff, t11, hpv], by simp only [look_put, ite_true, ite_false, Nat.reduceEqDiff], by simp only [look_put, ite_true, ite_false, Nat.reduceEqDiff], by simp only [look_put, ite_true, ite_false, Nat.reduceEqDiff], by simp only [look_put, ite_true, ite_false, Nat.reduceEqDiff], by simp only [look_put, Int.cast_ofNat_Int, ite_true, ite_false, Nat.reduceEqDiff] <;> rfl, Same.refl _ _, fun hne => ⟨l, rfl, (hzi hne).2⟩⟩
  rintro k ts h' ⟨i, rfl, il, t4, t11, t12, t14, t15, t16, t17, sm, hl'⟩
  have wi : wrapF .i64 ((i : Int) + 1) = ((i + 1 : Nat) : Int) := by rw [wrapI] <;> omega
  by_cases hi : i < l.length
  · have hne : l ≠ [] := fun e => by rw [e] at hi; simp at hi
    obtain ⟨rfl, _⟩ := hzi hne
    obtain ⟨l', hll, hb⟩ := hl' hne
    have ci : ((i : Int) < l.length) = True := by simp [hi]
    have rk : h'.rd zi (i * 2 + 1) = some (I l'[i].2) := by rw [rd_of hb]; exact flat_val l' i (by omega)
    have ww : h'.wrs zi (i * 2 + 1) [I (wrapF .i64 (l'[i].2 + 1))] = some (h'.setB zi ⟨(flat l').set (i * 2 + 1) (I (wrapF .i64 (l'[i].2 + 1))), l.length * 2, 2, true, true⟩) := wrs1_of hb rfl (by rw [flat_len]; omega) (scalar_int _ _)
    have sw : Same h' (h'.setB zi ⟨(flat l').set (i * 2 + 1) (I (wrapF .i64 (l'[i].2 + 1))), l.length * 2, 2, true, true⟩) (· = zi) := Same.setB rfl
    have gw : (h'.setB zi ⟨(flat l').set (i * 2 + 1) (I (wrapF .i64 (l'[i].2 + 1))), l.length * 2, 2, true, true⟩).blks.get zi = some ⟨flat (l'.set i (l'[i].1, wrapF .i64 (l'[i].2 + 1))), l.length * 2, 2, true, true⟩ := by rw [setB_get, if_pos rfl, flat_set _ _ _ (by omega)]
    generalize h'.setB zi ⟨(flat l').set (i * 2 + 1) (I (wrapF .i64 (l'[i].2 + 1))), l.length * 2, 2, true, true⟩ = h'' at ww sw gw
    refine cwf_cw ?_
    simp only [cwf_seq, cwf_ops, c_true, cwf_skip, cwf_block, andThen_normal, blockQ_normal, roundQ_normal, owf_nil, o_p, o_r, o_e, behind_eq, bo_eq, optQ_some, opt2_some, pop, popQ, rop_load1, ldV_ptr, ev, putA, look_put, isB_true, abinF_eq, abin, eop_store1, st1, Int.toNat_natCast, Int.natCast_nonneg, scalar_int, inB_eq, decide_true, cond_true, cond_false, ite_true, ite_false, Bool.and_true, Nat.reduceEqDiff, Nat.zero_add, true_and, t15, t17, ci, rk, ww, wi]
    exact ⟨l.length - (i + 1), by omega, i + 1, rfl, by omega, t4, t11, t12, t14, t16, rfl, sm.trans sw (fun _ _ x => x), fun _ => ⟨_, by rw [List.length_set]; exact hll, gw⟩⟩
  · have hid : i = l.length := by omega
    have ci : ((i : Int) < l.length) = False := by simp; omega
    obtain ⟨bg, h10, F10, F11, q23, g⟩ := st h' sm
    obtain ⟨CF, hcf, g5, g11⟩ : ∃ CF : CallF, CfOk P CF ∧ CF (.fn 5) [] h10 = some (.bool true, h10) ∧ CF (.fn 11) [.pointer (some ⟨bf, 0, none⟩)] h10 = some (.bool (goOf l []).stands, h10) := ⟨cfOf 5 _ h10 _ h10 (cfOf 11 _ h10 _ h10 cf00), cfOf_ok (Kn h10) (cfOf_ok F11 cf00_ok), cfOf_eq, by rw [cfOf_ne (by decide)]; exact cfOf_eq⟩
    let J : Nat → Heap → Prop := fun _ k => k = h10
    have j0 : ∀ n, J n h10 := fun _ => rfl
    have jr : ∀ n j k, 0 ≤ n → n ≤ j → J j k → k.rd bg 23 = some (.bool (goOf l []).stands) := fun _ _ k _ _ e => by rw [show k = h10 from e]; exact q23
    have vb : veq (.bool (goOf l []).stands) (.bool (goOf l []).stands) = true := by simp [veq, veq1]
    clear_value J
    subst hvi
    refine cwf_cw ?_
    simp only [cwf_seq, cwf_ops, c_false, cwf_exit, andThen_normal, andThen_exit, blockQ_exit, roundQ_exit, owf_nil, o_p, owf_call, bo_eq, optQ_some, pop, popQ, ev, evs, putA, look_put, isB_false, abinF_eq, abin, evP_nil, evP_cons, fillA_nil, fillA_one, List.length_cons, List.length_nil, List.set_cons_zero, List.set_cons_succ, Nat.reduceLT, decide_true, decide_false, cond_true, cond_false, ite_true, ite_false, Bool.not_false, Nat.reduceEqDiff, Nat.reduceAdd, Nat.zero_add, t15, t17, t11, ci, psc]
    refine ⟨_, _, F10, ?_⟩
    simp only [cwf_seq, andThen_normal, owf_nil, o_p, behind_eq, bo_eq, optQ_some, pop, popQ, ev, putA, look_put, ite_true, ite_false, Nat.reduceEqDiff]
    refine cwf_win J CF hcf (j0 0) ?_
    simp only [cwf_seq, cwf_ops, c_false, cwf_skip, cwf_block, cwf_loop, andThen_normal, owf_nil, o_p, bo_eq, optQ_some, opt2_some, pop, popQ, rop_load1, ldV_ptr, ev, evs, putA, look_put, isB_false, abinF_eq, abin, cond_true, cond_false, ite_true, ite_false, Bool.not_true, Bool.not_false, Nat.reduceEqDiff, Nat.reduceAdd, Nat.zero_add, true_and, w_nil, w_p, w_r, w_call, w_on, bw_eq, bwr_eq, bw2_eq, t16, g5, g11, q23, beq_self_eq_true, vb]
    refine ⟨j0 1, j0 2, fun j k h1 _ hj => jr 0 j k (by omega) (by omega) hj, ?_⟩
    refine cw_loop (fun k ts h' => ∃ (i e : Nat) (st : Bool), k = 400 - i ∧ i ≤ 200 ∧ e ≤ 2 * i ∧ look ts 4 = sv ∧ look ts 12 = .pointer (some ⟨bx, 0, none⟩) ∧ look ts 14 = .pointer (some ⟨bm, 0, none⟩) ∧ look ts 16 = .pointer (some ⟨bf, 0, none⟩) ∧ look ts 18 = .pointer (some ⟨bg, 0, none⟩) ∧ look ts 19 = I i ∧ h'.rd bg 23 = some (.bool st) ∧ GPS h1 h' bm bx bf bg K pv l u z i e st) ?_ (n := 400) ⟨0, 0, (goOf l []).stands, rfl, by omega, by omega, by simp only [look_put, ite_false, Nat.reduceEqDiff, t4], by simp only [look_put, ite_false, Nat.reduceEqDiff, t12], by simp only [look_put, ite_false, Nat.reduceEqDiff, t14], by simp only [look_put, ite_false, Nat.reduceEqDiff, t16], by simp only [look_put, ite_true, ite_false, Nat.reduceEqDiff], by simp only [look_put, Int.cast_ofNat_Int, ite_true, ite_false, Nat.reduceEqDiff] <;> rfl, q23, g⟩
    clear t4 t11 t12 t14 t15 t16 t17
    rintro k ts h' ⟨i, e, st, rfl, i200, e2, t4, t12, t14, t16, t18, t19, q23, g⟩
    have c4 : ((i : Int) < 400) = True := by simp; omega
    have wi : wrapF .i64 ((i : Int) + 1) = ((i + 1 : Nat) : Int) := by rw [wrapI] <;> omega
    cases st with
    | true =>
      obtain ⟨w, ok, hf, F16, _, q24, q25, F17, sf⟩ := end_spec hT G H HR g
      have sF : Same h0 hf (fun _ => False) := (s01.trans g.same (fun _ _ x => x)).trans sf (fun _ _ x => x)
      have bok : (ok == ok) = true := by simp
      refine cwf_cw ?_
      simp only [cwf_seq, cwf_ops, c_false, cwf_exit, andThen_normal, andThen_exit, blockQ_exit, roundQ_exit, owf_nil, o_p, o_r, owf_call, o_on, bo_eq, optQ_some, pop, popQ, rop_load1, ldV_ptr, ev, evs, putA, look_put, isB_true, isB_false, abinF_eq, abin, decide_true, cond_true, ite_true, ite_false, Bool.not_true, Bool.not_false, Nat.reduceEqDiff, Nat.zero_add, t16, t18, t19, c4, q23]
      refine ⟨_, _, F16, ?_⟩
      simp only [cwf_seq, cwf_ops, andThen_normal, owf_nil, o_p, o_r, owf_call, o_on, behind_eq, bo_eq, optQ_some, pop, popQ, rop_load1, ldV_ptr, ev, evs, putA, look_put, isB_true, abinF_eq, abin, Nat.add_zero, decide_true, cond_true, ite_true, ite_false, Nat.reduceEqDiff, Nat.reduceAdd, Nat.zero_add, List.getElem?_cons_zero, List.getElem?_cons_succ, o_on, t12, t14, t18, q23, q24, q25, beq_self_eq_true]
      refine ⟨_, _, F17, ?_⟩
      simp only [cwf_ret, andThen_normal, fnQ_ret, owf_nil, o_p, behind_eq, bo_eq, optQ_some, pop, popQ, ev, putA, look_put, resAll, resA, mkRes1, cond_true, ite_true, ite_false, Nat.reduceEqDiff, Option.some.injEq, exists_eq_left', true_and]
      rw [tail_marks h0 hf sF.marks]
      exact sF
    | false =>
      have i2 := g.stop
      by_cases hi : i < SL.length
      · rcases asl with ⟨rfl, _⟩ | ⟨xs, ps, cs, rfl, hrs⟩
        · simp at hi
        have cl : ((i : Int) < SL.length) = True := by simp [hi]
        have rk : h'.rd xs (ps + i) = some (I SL[i]) := by
          rw [(hrs.same g.same (fun x => x)).rd (by omega)]; simp [hi]
        by_cases hm : SL[i].tmod 3 = 0
        · have cm : (SL[i].tmod 3 == 0) = true := by simp [hm]
          have d3 : decide ((3 : Int) = 0) = false := by decide
          obtain ⟨n, hn⟩ : ∃ n, n = wrapF .i64 (SL[i].tdiv 3) := ⟨_, rfl⟩
          obtain ⟨_, hc, F8, rfl, ehc⟩ := cut_spec hT H h' n 4 (by omega) (by omega)
          rw [ehc] at F8
          have em := Int.emod_nonneg n (show (4 : Int) ≠ 0 by omega)
          have el := Int.emod_lt_of_pos n (show (0 : Int) < 4 by omega)
          obtain ⟨kn, hk⟩ := Int.eq_ofNat_of_zero_le em
          have hk' : n % 4 = (kn : Int) := hk
          rw [hk', hn] at F8
          obtain ⟨g2, v3, g3, v4, g4, mk, F9, F10', gp⟩ := pad_spec hT H HR g (by omega) kn (by omega)
          obtain ⟨st, h5, h6, F5, F6, F7, q6, g6⟩ := round_spec hT G H Nu HR HF NR gp (by omega)
          obtain ⟨CF, hcf, g11⟩ : ∃ CF : CallF, CfOk P CF ∧ CF (.fn 11) [.pointer (some ⟨bf, 0, none⟩)] h6 = some (.bool st, h6) := ⟨cfOf 11 _ h6 _ h6 cf00, cfOf_ok F7 cf00_ok, cfOf_eq⟩
          let J : Nat → Heap → Prop := fun _ k => k = h6
          have j0 : ∀ n, J n h6 := fun _ => rfl
          have jr : ∀ j k, 0 ≤ j → j ≤ 1 → J j k → k.rd bg 23 = some (.bool st) := fun _ k _ _ e => by rw [show k = h6 from e]; exact q6
          have vb : veq (.bool st) (.bool st) = true := by simp [veq, veq1]
          clear_value J
          refine cwf_cw ?_
          simp only [cwf_seq, cwf_ops, c_true, cwf_skip, cwf_block, andThen_normal, owf_nil, o_p, o_r, owf_call, o_on, bo_eq, optQ_some, pop, popQ, rop_load1, ldV_ptr, ev, evs, putA, look_put, isB_true, abinF_eq, abin, Int.toNat_natCast, Int.natCast_nonneg, Nat.mul_one, inB_eq, decide_true, cond_true, cond_false, ite_true, ite_false, Bool.and_true, Bool.not_false, Nat.reduceEqDiff, Nat.zero_add, o_on, t4, t18, t19, c4, q23, cl, rk, d3, cm]
          refine ⟨_, _, F8, ?_⟩
          simp only [cwf_seq, cwf_ops, andThen_normal, owf_nil, o_p, o_e, owf_call, behind_eq, bo_eq, optQ_some, opt2_some, pop, popQ, ev, evs, putA, look_put, ite_true, ite_false, Nat.reduceEqDiff, eop_mkS, t14, mk]
          refine ⟨_, _, F9, ?_⟩
          simp only [cwf_ops, andThen_normal, owf_nil, o_p, owf_call, behind_eq, bo_eq, optQ_some, pop, popQ, ev, evs, putA, look_put, ite_true, ite_false, Nat.reduceEqDiff, t12]
          refine ⟨_, _, F10', ?_⟩
          simp only [cwf_seq, cwf_ops, andThen_normal, owf_nil, o_p, owf_call, behind_eq, bo_eq, optQ_some, pop, popQ, ev, evs, putA, look_put, ite_true, ite_false, Nat.reduceEqDiff, t14, t16]
          refine ⟨_, _, F5, ?_⟩
          simp only [cwf_seq, cwf_ops, andThen_normal, owf_nil, o_p, owf_call, behind_eq, bo_eq, optQ_some, pop, popQ, ev, evs, putA, look_put, ite_true, ite_false, Nat.reduceEqDiff, t12, t18]
          refine ⟨_, _, F6, ?_⟩
          simp only [cwf_seq, andThen_normal, owf_nil, o_p, behind_eq, bo_eq, optQ_some, pop, popQ, ev, putA, look_put, ite_true, ite_false, Nat.reduceEqDiff]
          refine cwf_win J CF hcf (j0 0) ?_
          simp only [cwf_ops, c_false, cwf_skip, andThen_normal, blockQ_normal, roundQ_normal, owf_nil, o_p, bo_eq, optQ_some, opt2_some, pop, popQ, rop_load1, ldV_ptr, ev, evs, putA, look_put, isB_false, abinF_eq, abin, decide_true, cond_true, cond_false, ite_true, ite_false, Bool.not_true, Bool.not_false, Nat.reduceEqDiff, Nat.zero_add, Option.some.injEq, true_and, w_nil, w_p, w_r, w_call, w_on, bw_eq, bwr_eq, bw2_eq, t4, t12, t14, t16, t18, t19, g11, q6, beq_self_eq_true, vb]
          refine ⟨j0 1, jr, ?_⟩
          simp only [wi]
          exact ⟨400 - (i + 1), by omega, i + 1, e + 1 + 1, st, rfl, by omega, by omega, rfl, rfl, g6⟩
        · have cm : (SL[i].tmod 3 == 0) = false := by simp [hm]
          have d3 : decide ((3 : Int) = 0) = false := by decide
          obtain ⟨st, h5, h6, F5, F6, F7, q6, g6⟩ := round_spec hT G H Nu HR HF NR g (by omega)
          obtain ⟨CF, hcf, g11⟩ : ∃ CF : CallF, CfOk P CF ∧ CF (.fn 11) [.pointer (some ⟨bf, 0, none⟩)] h6 = some (.bool st, h6) := ⟨cfOf 11 _ h6 _ h6 cf00, cfOf_ok F7 cf00_ok, cfOf_eq⟩
          let J : Nat → Heap → Prop := fun _ k => k = h6
          have j0 : ∀ n, J n h6 := fun _ => rfl
          have jr : ∀ j k, 0 ≤ j → j ≤ 1 → J j k → k.rd bg 23 = some (.bool st) := fun _ k _ _ e => by rw [show k = h6 from e]; exact q6
          have vb : veq (.bool st) (.bool st) = true := by simp [veq, veq1]
          clear_value J
          refine cwf_cw ?_
          simp only [cwf_seq, cwf_ops, c_true, c_false, cwf_skip, cwf_block, andThen_normal, owf_nil, o_p, o_r, owf_call, o_on, bo_eq, optQ_some, pop, popQ, rop_load1, ldV_ptr, ev, evs, putA, look_put, isB_true, isB_false, abinF_eq, abin, Int.toNat_natCast, Int.natCast_nonneg, Nat.mul_one, inB_eq, decide_true, cond_true, cond_false, ite_true, ite_false, Bool.and_true, Bool.not_false, Nat.reduceEqDiff, Nat.zero_add, o_on, t4, t14, t16, t18, t19, c4, q23, cl, rk, d3, cm]
          refine ⟨_, _, F5, ?_⟩
          simp only [cwf_seq, cwf_ops, andThen_normal, owf_nil, o_p, owf_call, behind_eq, bo_eq, optQ_some, pop, popQ, ev, evs, putA, look_put, ite_true, ite_false, Nat.reduceEqDiff, t12, t18]
          refine ⟨_, _, F6, ?_⟩
          simp only [cwf_seq, andThen_normal, owf_nil, o_p, behind_eq, bo_eq, optQ_some, pop, popQ, ev, putA, look_put, ite_true, ite_false, Nat.reduceEqDiff]
          refine cwf_win J CF hcf (j0 0) ?_
          simp only [cwf_ops, c_false, cwf_skip, andThen_normal, blockQ_normal, roundQ_normal, owf_nil, o_p, bo_eq, optQ_some, opt2_some, pop, popQ, rop_load1, ldV_ptr, ev, evs, putA, look_put, isB_false, abinF_eq, abin, decide_true, cond_true, cond_false, ite_true, ite_false, Bool.not_true, Bool.not_false, Nat.reduceEqDiff, Nat.zero_add, Option.some.injEq, true_and, w_nil, w_p, w_r, w_call, w_on, bw_eq, bwr_eq, bw2_eq, t4, t12, t14, t16, t18, t19, g11, q6, beq_self_eq_true, vb]
          refine ⟨j0 1, jr, ?_⟩
          simp only [wi]
          exact ⟨400 - (i + 1), by omega, i + 1, e + 1, st, rfl, by omega, by omega, rfl, rfl, g6⟩
      · obtain ⟨sb, sc, rfl⟩ := hsv
        have cl : ((i : Int) < SL.length) = False := by simp; omega
        obtain ⟨st, h5, h6, F5, F6, F7, q6, g6⟩ := round_spec hT G H Nu HR HF NR g (by omega)
        obtain ⟨CF, hcf, g11⟩ : ∃ CF : CallF, CfOk P CF ∧ CF (.fn 11) [.pointer (some ⟨bf, 0, none⟩)] h6 = some (.bool st, h6) := ⟨cfOf 11 _ h6 _ h6 cf00, cfOf_ok F7 cf00_ok, cfOf_eq⟩
        let J : Nat → Heap → Prop := fun _ k => k = h6
        have j0 : ∀ n, J n h6 := fun _ => rfl
        have jr : ∀ j k, 0 ≤ j → j ≤ 1 → J j k → k.rd bg 23 = some (.bool st) := fun _ k _ _ e => by rw [show k = h6 from e]; exact q6
        have vb : veq (.bool st) (.bool st) = true := by simp [veq, veq1]
        clear_value J
        refine cwf_cw ?_
        simp only [cwf_seq, cwf_ops, c_true, c_false, cwf_skip, cwf_block, andThen_normal, owf_nil, o_p, o_r, owf_call, o_on, o_off, bo_eq, optQ_some, pop, popQ, rop_load1, ldV_ptr, ev, evs, putA, look_put, isB_true, isB_false, abinF_eq, abin, decide_true, decide_false, cond_true, cond_false, ite_true, ite_false, Bool.not_false, Nat.reduceEqDiff, Nat.zero_add, o_on, o_off, t4, t14, t16, t18, t19, c4, q23, cl]
        refine ⟨_, _, F5, ?_⟩
        simp only [cwf_seq, cwf_ops, andThen_normal, owf_nil, o_p, owf_call, behind_eq, bo_eq, optQ_some, pop, popQ, ev, evs, putA, look_put, ite_true, ite_false, Nat.reduceEqDiff, t12, t18]
        refine ⟨_, _, F6, ?_⟩
        simp only [cwf_seq, andThen_normal, owf_nil, o_p, behind_eq, bo_eq, optQ_some, pop, popQ, ev, putA, look_put, ite_true, ite_false, Nat.reduceEqDiff]
        refine cwf_win J CF hcf (j0 0) ?_
        simp only [cwf_ops, c_false, cwf_skip, andThen_normal, blockQ_normal, roundQ_normal, owf_nil, o_p, bo_eq, optQ_some, opt2_some, pop, popQ, rop_load1, ldV_ptr, ev, evs, putA, look_put, isB_false, abinF_eq, abin, decide_true, cond_true, cond_false, ite_true, ite_false, Bool.not_true, Bool.not_false, Nat.reduceEqDiff, Nat.zero_add, Option.some.injEq, true_and, w_nil, w_p, w_r, w_call, w_on, bw_eq, bwr_eq, bw2_eq, t4, t12, t14, t16, t18, t19, g11, q6, beq_self_eq_true, vb]
        refine ⟨j0 1, jr, ?_⟩
        simp only [wi]
        exact ⟨400 - (i + 1), by omega, i + 1, e + 1, st, rfl, by omega, by omega, rfl, rfl, g6⟩

theorem growPlays_spec (L : HasL tab) {h : Heap} {v w sv : Value} {raw : List Pr} {ur : Option Nat} {LI SL : List Int} (size : Int) (a : PrE h v raw ur) (a' : IntsAt h w LI) (asl : IntsAt h sv SL) (b : Bool) :
    FSpec P 3 [I size, v, w, .bool b, sv] h fun v h' => v = .bool true ∧ Same h h' (fun _ => False) := by
  refine fspec_cwf hT L.l3 rfl ?_
  show cwf P 164 none af3.body _ h (fnQ h [.tmp 10] _)
  rw [cut3_3]
  cases b with
  | true =>
    obtain ⟨u, a2, hu⟩ := a.norm
    simp only [pre3_3, cwf_seq, cwf_ops, c_false, cwf_skip, andThen_normal, owf_nil, o_p, bo_eq, optQ_some, pop, popQ, ev, putA, putArgs, look_put, isB_false, ite_true, ite_false, Bool.not_true, Bool.not_false, Nat.reduceEqDiff, Nat.reduceAdd, Nat.zero_add]
    exact rest_spec hT G H Nu HR HF NR Kn size a2 hu asl (Same.refl _ _) _ (by simp only [look_put, ite_true, ite_false, Nat.reduceEqDiff]) (by simp only [look_put, ite_true, ite_false, Nat.reduceEqDiff]) (by simp only [look_put, ite_true, ite_false, Nat.reduceEqDiff])
  | false =>
    obtain ⟨v1, h1, F1, ⟨l, u, rfl, o, _, _, _⟩, s1⟩ := pairs_spec hT H a'
    have asl1 := asl.same s1
    simp only [pre3_3, cwf_seq, cwf_ops, c_true, andThen_normal, owf_nil, o_p, owf_call, bo_eq, optQ_some, pop, popQ, ev, evs, putA, putArgs, look_put, isB_true, ite_true, ite_false, Bool.not_false, Nat.reduceEqDiff, Nat.reduceAdd, Nat.zero_add]
    refine ⟨_, _, F1, ?_⟩
    simp only [andThen_normal, owf_nil, o_p, behind_eq, bo_eq, optQ_some, pop, popQ, ev, putA, look_put, ite_true, ite_false, Nat.reduceEqDiff]
    exact rest_spec hT G H Nu HR HF NR Kn size (RowAt.of_own o) (fun y hy => (o.use y hy).2.1) asl1 s1 _ (by simp only [look_put, ite_true, ite_false, Nat.reduceEqDiff]) (by simp only [look_put, ite_true, ite_false, Nat.reduceEqDiff]) (by simp only [look_put, ite_true, ite_false, Nat.reduceEqDiff])
end
end
end Go.Proofs.YtedldiimhbebdaaGreat.Ai
