/- Texts put together: Plant0, PA, PB, PC2, PD, PE, PF, PG, PH, PI, PJ, AiIn2. -/
import Derived.Test.YtpeihcpclcibgaaGreatTh2
import Derived.Test.YtpeihcpclcibgaaGreatTabOk
/- The ideal shape, in plain numbers; what is laid. -/
namespace Go.Proofs.YtpeihcpclcibgaaGreat.Ai
open Go.Proofs.YtpeihcpclcibgaaGreat
noncomputable section

def rootN (n : Nat) : Nat := (List.range 12).foldl (fun r k => if k * k ≤ n then k else r) 0
def degN (n : Nat) : Nat := if n < 2 then 0 else max 2 (rootN n)
def sizeN (n i : Nat) : Nat := if i < n % degN n then n / degN n + 1 else n / degN n
def fromN (n i : Nat) : Nat := n / degN n * i + min i (n % degN n)
def sumN (f : Nat → Nat) : Nat → Nat
  | 0 => 0
  | i + 1 => sumN f i + f i
def cellsF : Nat → Nat → Nat
  | 0, _ => 0
  | f + 1, n => if n = 0 then 1 else if n = 1 then 2 else sumN (fun i => cellsF f (sizeN n i)) (degN n) + (5 + (degN n - 1) + degN n)
def cellsN (n : Nat) : Nat := cellsF 8 n

theorem cells0 : cellsN 0 = 1 := by kernel_rfl
theorem cells1 : cellsN 1 = 2 := by kernel_rfl

/-- how it goes on from part to part -/
def partsOk (n : Nat) : Bool := (List.range (degN n)).all (fun i => Nat.beq (fromN n (i + 1)) (fromN n i + sizeN n i) && Nat.ble 1 (sizeN n i) && Nat.blt (sizeN n i) n && Nat.ble (fromN n i + sizeN n i) n) && Nat.beq (cellsN n) (sumN (fun i => cellsN (sizeN n i)) (degN n) + (5 + (degN n - 1) + degN n)) && Nat.ble (cellsN n) 1100 && Nat.ble 2 (degN n) && Nat.ble (degN n) 11 && Nat.beq (fromN n 0) 0

theorem allParts : ((List.range 121).all fun n => Nat.blt n 2 || partsOk n) = true := by kernel_rfl

theorem parts_ok {n : Nat} (h2 : 2 ≤ n) (h : n ≤ 120) : partsOk n = true := by
  have := List.all_eq_true.1 allParts n (List.mem_range.2 (by omega))
  simp only [Bool.or_eq_true] at this
  rcases this with h0 | h0
  · have : Nat.ble (n + 1) 2 = true := h0
    have := Nat.le_of_ble_eq_true this; omega
  · exact h0

structure PartN (n : Nat) : Prop where
  deg2 : 2 ≤ degN n
  deg11 : degN n ≤ 11
  next : ∀ i, i < degN n → fromN n (i + 1) = fromN n i + sizeN n i
  one : ∀ i, i < degN n → 1 ≤ sizeN n i
  less : ∀ i, i < degN n → sizeN n i < n
  top : ∀ i, i < degN n → fromN n i + sizeN n i ≤ n
  cells : cellsN n = sumN (fun i => cellsN (sizeN n i)) (degN n) + (5 + (degN n - 1) + degN n)
  most : cellsN n ≤ 1100
  zero : fromN n 0 = 0

theorem partN {n : Nat} (h2 : 2 ≤ n) (h : n ≤ 120) : PartN n := by
  have hp := parts_ok h2 h
  simp only [partsOk, Bool.and_eq_true, List.all_eq_true, List.mem_range] at hp
  obtain ⟨⟨⟨⟨⟨p1, p2⟩, p3⟩, p4⟩, p5⟩, p6⟩ := hp
  have ble : ∀ {a b : Nat}, Nat.ble a b = true → a ≤ b := fun h => Nat.le_of_ble_eq_true h
  exact ⟨ble p4, ble p5, fun i hi => Nat.eq_of_beq_eq_true (p1 i hi).1.1.1, fun i hi => ble (p1 i hi).1.1.2, fun i hi => ble (show Nat.ble (_ + 1) _ = true from (p1 i hi).1.2), fun i hi => ble (p1 i hi).2, Nat.eq_of_beq_eq_true p2, ble p3, Nat.eq_of_beq_eq_true p6⟩

abbrev Pr := Int × Int

/-- the part i -/
def partL (l : List Pr) (i : Nat) : List Pr := (l.drop (fromN l.length i)).take (sizeN l.length i)

/-- the children, so many: their words, their cells -/
def kidsF (lay : List Pr → Nat → Int × List Int) (l : List Pr) (u : Nat) : Nat → List Int × List Int
  | 0 => ([], [])
  | i + 1 =>
    let r := kidsF lay l u i
    let w := lay (partL l i) (u + r.2.length)
    (r.1 ++ [w.1], r.2 ++ w.2)

/-- the keys between them -/
def keysF (l : List Pr) : Nat → List Int
  | 0 => []
  | i + 1 => if i = 0 then [] else keysF l i ++ [((l[fromN l.length i]?).getD (0, 0)).1]

/-- the word of a list's tree, and its cells, so many being used ahead -/
def layF : Nat → List Pr → Nat → Int × List Int
  | 0, _, _ => (0, [])
  | f + 1, l, u => match l with
    | [] => (((u : Int) + 1) * 8 + 1, [0])
    | [p] => (((u : Int) + 1) * 8 + 2, [p.1, p.2])
    | l =>
      let r := kidsF (layF f) l u (degN l.length)
      ((((u + r.2.length : Nat) : Int) + 1) * 8 + 3, r.2 ++ ([(degN l.length : Int), (l.length : Int), 0, 0, 0] ++ keysF l (degN l.length) ++ r.1))

theorem layF_two {f : Nat} {l : List Pr} {u : Nat} (h : 2 ≤ l.length) : layF (f + 1) l u = ((((u + (kidsF (layF f) l u (degN l.length)).2.length : Nat) : Int) + 1) * 8 + 3, (kidsF (layF f) l u (degN l.length)).2 ++ ([(degN l.length : Int), (l.length : Int), 0, 0, 0] ++ keysF l (degN l.length) ++ (kidsF (layF f) l u (degN l.length)).1)) := by
  match l, h with
  | p :: q :: l, _ => rfl

theorem kidsF_one (lay : List Pr → Nat → Int × List Int) (l : List Pr) (u : Nat) : ∀ i, (kidsF lay l u i).1.length = i
  | 0 => rfl
  | i + 1 => by simp [kidsF, kidsF_one lay l u i]

theorem keysF_len (l : List Pr) : ∀ i, (keysF l i).length = i - 1
  | 0 => rfl
  | 1 => rfl
  | i + 2 => by
    rw [keysF, if_neg (by omega), List.length_append, keysF_len l (i + 1)]; simp

theorem partL_len {l : List Pr} (h2 : 2 ≤ l.length) (h : l.length ≤ 120) {i : Nat} (hi : i < degN l.length) : (partL l i).length = sizeN l.length i := by
  have := (partN h2 h).top i hi
  simp [partL]; omega

theorem layF_len : ∀ (f : Nat) (l : List Pr) (u : Nat), l.length < f → l.length ≤ 120 → (layF f l u).2.length = cellsN l.length
  | 0, l, u, hf, _ => by omega
  | f + 1, l, u, hf, hl => by
    by_cases h2 : 2 ≤ l.length
    · rw [layF_two h2]
      have pn := partN h2 hl
      have key : ∀ i, i ≤ degN l.length → (kidsF (layF f) l u i).2.length = sumN (fun i => cellsN (sizeN l.length i)) i := by
        intro i
        induction i with
        | zero => intro _; rfl
        | succ i ih =>
          intro hi
          have hp := partL_len h2 hl (i := i) (by omega)
          have hless := pn.less i (by omega)
          simp only [kidsF, sumN, List.length_append, ih (by omega)]
          rw [layF_len f (partL l i) _ (by omega) (by omega), hp]
      simp only [List.length_append, key _ (Nat.le_refl _), kidsF_one, keysF_len, List.length_cons, List.length_nil]
      rw [pn.cells]
    · match l, h2 with
      | [], _ => rfl
      | [p], _ => rfl
      | _ :: _ :: _, h2 => simp at h2

end
end Go.Proofs.YtpeihcpclcibgaaGreat.Ai
/- What the functions of plant, part, mem, ref, node come to. -/
namespace Go.Proofs.YtpeihcpclcibgaaGreat.Ai
open Go.Proofs.YtpeihcpclcibgaaGreat
noncomputable section
open Go.RowKit
structure Has (tab : Nat → Option AFunc) : Prop where
  f14 : tab 62 = some af62
  f20 : tab 47 = some af47
  f24 : tab 17 = some af17
  f27 : tab 64 = some af64
  f30 : tab 99 = some af99
  f33 : tab 12 = some af12
  f34 : tab 18 = some af18
  f35 : tab 108 = some af108
  f36 : tab 23 = some af23
  f37 : tab 43 = some af43
  f38 : tab 31 = some af31
  f40 : tab 28 = some af28
  f51 : tab 111 = some af111
  f53 : tab 110 = some af110
  f62 : tab 48 = some af48
  f63 : tab 112 = some af112
  f67 : tab 66 = some af66
  f68 : tab 69 = some af69
  f72 : tab 109 = some af109
  f82 : tab 115 = some af115
  f96 : tab 158 = some af158
  f97 : tab 157 = some af157
  f104 : tab 114 = some af114
  f106 : tab 156 = some af156
  f124 : tab 209 = some af209

theorem has : Has tabT.get := ⟨by kernel_rfl, by kernel_rfl, by kernel_rfl, by kernel_rfl, by kernel_rfl, by kernel_rfl, by kernel_rfl, by kernel_rfl, by kernel_rfl, by kernel_rfl, by kernel_rfl, by kernel_rfl, by kernel_rfl, by kernel_rfl, by kernel_rfl, by kernel_rfl, by kernel_rfl, by kernel_rfl, by kernel_rfl, by kernel_rfl, by kernel_rfl, by kernel_rfl, by kernel_rfl, by kernel_rfl, by kernel_rfl⟩

theorem of_or (a k : Int) (a0 : 0 ≤ a) (a1 : a ≤ 65536) (k0 : 0 ≤ k) (k1 : k < 8) : IntKind.i64.wrap ((BitVec.ofInt 64 (a * 8) ||| BitVec.ofInt 64 k).toNat : Int) = a * 8 + k := by
  obtain ⟨n, rfl⟩ := Int.eq_ofNat_of_zero_le a0
  obtain ⟨m, rfl⟩ := Int.eq_ofNat_of_zero_le k0
  have e1 : ((n : Int) * 8) = ((n * 8 : Nat) : Int) := by simp
  rw [e1]
  simp only [BitVec.ofInt_natCast, BitVec.toNat_or, BitVec.toNat_ofNat]
  rw [Nat.mod_eq_of_lt (show n * 8 < 2 ^ 64 by omega), Nat.mod_eq_of_lt (show m < 2 ^ 64 by omega)]
  have e2 : n * 8 ||| m = n * 8 + m := by
    have := Nat.shiftLeft_add_eq_or_of_lt (a := n) (b := m) (i := 3) (by omega)
    rw [Nat.shiftLeft_eq] at this
    exact this.symm
  rw [e2, IntWalk.i64_in _ (by omega)]
  simp

section
variable {P : Program} {tab : Nat → Option AFunc} (hT : TabOk P tab) (H : Has tab)
include hT H

theorem may_spec (k a : Int) (h : Heap) (c1 : k ≥ 1) (c2 : k ≤ 5) (c3 : a ≥ 1) (c4 : a ≤ 65536) : FSpec P 115 [I k, I a] h fun v h' => v = .bool true ∧ h' = h := by
  refine fspec_cwf hT H.f82 rfl ?_
  simp only [af115, cwf_seq, cwf_ops, cwf_ret, andThen_normal, fnQ_ret, owf_nil, o_p, o_on, bo_eq, optQ_some, pop, popQ, ev, putA, putArgs, look_put, isB_true, abinF_eq, abin, resAll, resA, mkRes1, decide_true, cond_true, ite_true, ite_false, Nat.reduceEqDiff, Nat.zero_add, Option.some.injEq, exists_eq_left', and_true, c1, c2, c3, c4]

theorem of_spec (k a : Int) (h : Heap) (c1 : k ≥ 1) (c2 : k ≤ 5) (c3 : a ≥ 1) (c4 : a ≤ 65536) : FSpec P 110 [I k, I a] h fun v h' => v = I (a * 8 + k) ∧ h' = h := by
  refine fspec_cwf hT H.f53 rfl ?_
  simp only [af110, cwf_seq, cwf_ops, andThen_normal, owf_nil, o_p, owf_call, bo_eq, optQ_some, pop, popQ, ev, evs, putA, putArgs, look_put, ite_true, ite_false, Nat.reduceEqDiff, Nat.zero_add]
  obtain ⟨v, h1, F, rfl, rfl⟩ := may_spec hT H k a h c1 c2 c3 c4
  refine ⟨_, _, F, ?_⟩
  have w : wrapF .i64 (a * 8) = a * 8 := wrapI (by omega) (by omega)
  simp only [cwf_seq, cwf_ops, cwf_ret, c_false, cwf_skip, andThen_normal, fnQ_ret, owf_nil, o_p, behind_eq, bo_eq, optQ_some, pop, popQ, ev, putA, look_put, isB_false, abinF_eq, abin, resAll, resA, mkRes1, Int.reduceLT, Int.reduceToNat, IntKind.bits, min364, Int.reducePow, decide_true, decide_false, cond_true, cond_false, ite_true, ite_false, Bool.not_true, Bool.not_false, Nat.reduceEqDiff, Option.some.injEq, exists_eq_left', and_true, w]
  exact congrArg (Value.int .i64) (of_or a k (by omega) c4 (by omega) (by omega))

theorem empty_spec (h : Heap) : FSpec P 111 [] h fun v h' => v = .slice (some ⟨h.next, 0, none⟩) 1 1 ∧ RdAt h' h.next 0 1 1 1 [I 0] ∧ Same h h' (fun _ => False) := by
  refine fspec_cwf hT H.f51 rfl ?_
  simp only [af111, cwf_seq, cwf_ops, cwf_ret, andThen_normal, fnQ_ret, owf_nil, o_p, o_e, behind_eq, bo_eq, optQ_some, opt2_some, pop, popQ, ev, putA, putArgs, look_put, resAll, resA, mkRes1, eop_buildS, bldS_some, evP_nil, evP_cons, fillA_nil, fillA_one, List.length_cons, List.length_nil, List.set_cons_zero, Nat.lt_add_one, Nat.mul_one, scalar_int, ite_true, ite_false, Nat.reduceEqDiff, Nat.zero_add, Option.some.injEq, exists_eq_left', true_and]
  exact ⟨RdAt.fresh h [I 0] 1 1 true false rfl, Same.new⟩

theorem leaf_spec (h : Heap) (k x : Int) : FSpec P 158 [I k, I x] h fun v h' => v = .slice (some ⟨h.next, 0, none⟩) 2 2 ∧ RdAt h' h.next 0 1 2 2 [I k, I x] ∧ Same h h' (fun _ => False) := by
  refine fspec_cwf hT H.f96 rfl ?_
  simp only [af158, cwf_seq, cwf_ops, cwf_ret, andThen_normal, fnQ_ret, owf_nil, o_p, o_e, behind_eq, bo_eq, optQ_some, opt2_some, pop, popQ, ev, putA, putArgs, look_put, resAll, resA, mkRes1, eop_buildS, bldS_some, evP_nil, evP_cons, fillA_nil, fillA_one, List.length_cons, List.length_nil, List.set_cons_zero, List.set_cons_succ, Nat.reduceLT, Nat.lt_add_one, Nat.mul_one, scalar_int, ite_true, ite_false, Nat.reduceEqDiff, Nat.reduceAdd, Nat.zero_add, Option.some.injEq, exists_eq_left', true_and]
  exact ⟨RdAt.fresh h [I k, I x] 2 1 true false rfl, Same.new⟩

theorem make_ok {h : Heap} {b : Nat} {u : Option Nat} {C : List Int} {z c o r : Int} (m : MemAt h b u C z c o r) {x p cap : Nat} {ws : List Int} (hw : RdAt h x p 1 ws.length cap (ws.map I)) (hx : x ≠ b) (n0 : ws ≠ []) (hn : (C.length : Int) + ws.length ≤ z) (hz : z ≤ 65536) (hc : 0 ≤ c ∧ c < 1000000000) :
    FSpec P 108 [.pointer (some ⟨b, 0, none⟩), .slice (some ⟨x, p, none⟩) ws.length cap] h fun v h' => v = .tuple #[I (C.length + 1), .bool true] ∧ (∃ u', MemAt h' b u' (C ++ ws) z (c + 1) o r ∧ (∀ x, u' = some x → u = some x ∨ h.next ≤ x)) ∧ Same h h' (fun j => j = b ∨ u = some j) := by
  refine fspec_cwf hT H.f35 rfl ?_
  have wc : wrapF .i64 (c + 1) = c + 1 := wrapI (by omega) (by omega)
  have wz : wrapF .i64 (z - C.length) = z - C.length := wrapI (by omega) (by omega)
  have wl : wrapF .i64 (C.length + 1) = C.length + 1 := wrapI (by omega) (by omega)
  have m1 := m.set z (c + 1) o r
  have s1 : Same h (h.setB b (memBlk (useSl u C) z (c + 1) o r)) (fun j => j = b ∨ u = some j) := Same.setB (.inl rfl)
  have hb : ((ws.length : Int) == 0) = false := by simp [n0]
  have hg : ((ws.length : Int) > z - C.length) = False := by simp; omega
  have hlt := m.lt
  obtain ⟨u', h2, ha, ho, hs, hu'⟩ := app_own (bytes := 8) m1.own (hw.same (S := fun j => j = b) (Same.setB rfl) hx).src (by simp) (by simp [scalar]) (Nat.le_refl _) (by omega) (by omega)
  have hb2 : h2.blks.get b = some (memBlk (useSl u C) z (c + 1) o r) := by
    rw [hs.get b m1.lt (fun hc => ((m1.use b hc).2.1 rfl))]; exact m1.blk
  have hu2 : ∀ y, u' = some y → y ≠ b := fun y hy => by
    rcases hu' y hy with e | e
    · exact (m.use y e).2.1
    · rw [e, setB_next]; omega
  have hw0 := mem_wr0 (v := ownSl u' (C.length + ws.length)) hb2 rfl
  simp only [af108, cwf_seq, cwf_ops, cwf_draw, andThen_normal, owf_nil, o_p, o_r, o_e, behind_eq, bo_eq, bd_eq, optQ_some, opt2_some, d_p, pop, popQ, rop_load1, ldV_ptr, ev, putA, putArgs, look_put, abinF_eq, abin, eop_store1, st1, scalar_int, decide_true, cond_true, cond_false, ite_true, ite_false, Nat.reduceEqDiff, Nat.zero_add, m.rd2, m.wr2, wc]
  refine ⟨cf00, cf00_ok, ?_⟩
  simp only [cwf_seq, cwf_ops, cwf_ret, c_false, cwf_skip, andThen_normal, fnQ_ret, owf_nil, o_p, o_r, o_e, behind_eq, bo_eq, bd_eq, optQ_some, opt2_some, dwf_nil, d_p, d_r, d_on, pop, popQ, rop_load1, ldV_ptr, ev, putA, look_put, isB_false, abinF_eq, abin, resAll, resA, mkRes2, eop_store1, eop_app, st1, Nat.add_zero, scalar_slice, decide_true, decide_false, cond_true, cond_false, ite_true, ite_false, Bool.not_false, Nat.reduceEqDiff, Nat.zero_add, Option.some.injEq, exists_eq_left', true_and, m1.rd0, m1.rd1, hb, wz, hg, wl, ha, hw0]
  refine ⟨⟨u', ?_, fun y hy => (hu' y hy).imp_right (fun e => by rw [e, setB_next]; exact Nat.le_refl _)⟩, ?_⟩
  · have hl : (C ++ ws).length = C.length + ws.length := by simp
    rw [← List.map_append, ← hl] at ho
    have := MemAt.of_own ho hu2 (Nat.lt_of_lt_of_le m1.lt hs.next) z (c + 1) o r
    have e : (h2.setB b (memBlk (useSl u' (C ++ ws)) z (c + 1) o r)).marks = h.marks := hs.marks
    rw [← tail_marks h _ e] at this
    rw [← hl]
    exact this
  · have s3 : Same h (h2.setB b (memBlk (ownSl u' (C.length + ws.length)) z (c + 1) o r)) (fun j => j = b ∨ u = some j) := (s1.trans (hs.mono (fun j hj => .inr hj)) (fun _ _ hj => hj)).trans (Same.setB (S := fun j => j = b ∨ u = some j) (.inl rfl)) (fun _ _ hj => hj)
    exact (tail_marks h (h2.setB b _) s3.marks) ▸ s3
end
end
end Go.Proofs.YtpeihcpclcibgaaGreat.Ai
/- What made, InnerWords, lay come to. -/
namespace Go.Proofs.YtpeihcpclcibgaaGreat.Ai
open Go.Proofs.YtpeihcpclcibgaaGreat
noncomputable section
open Go.RowKit
section
variable {P : Program} {tab : Nat → Option AFunc} (hT : TabOk P tab) (H : Has tab)
include hT H

theorem made_spec {h : Heap} {b : Nat} {u : Option Nat} {C : List Int} {z c o r k : Int} (m : MemAt h b u C z c o r) {x p cap : Nat} {ws : List Int} (hw : RdAt h x p 1 ws.length cap (ws.map I)) (hx : x ≠ b) (n0 : ws ≠ []) (hn : (C.length : Int) + ws.length ≤ z) (hz : z ≤ 65536) (hc : 0 ≤ c ∧ c < 1000000000) (k1 : k ≥ 1) (k2 : k ≤ 5) :
    FSpec P 157 [.pointer (some ⟨b, 0, none⟩), I k, .slice (some ⟨x, p, none⟩) ws.length cap] h fun v h' => v = I (((C.length : Int) + 1) * 8 + k) ∧ (∃ u', MemAt h' b u' (C ++ ws) z (c + 1) o r ∧ (∀ x, u' = some x → u = some x ∨ h.next ≤ x)) ∧ Same h h' (fun j => j = b ∨ u = some j) := by
  refine fspec_cwf hT H.f97 rfl ?_
  obtain ⟨v, h1, F, rfl, hm, hs⟩ := make_ok hT H m hw hx n0 hn hz hc
  have hpos : 0 < ws.length := List.length_pos_iff.2 n0
  obtain ⟨v2, h2, F2, rfl, rfl⟩ := of_spec hT H k ((C.length : Int) + 1) h1 k1 k2 (by omega) (by omega)
  simp only [af157, cwf_seq, cwf_ops, andThen_normal, owf_nil, o_p, owf_call, bo_eq, optQ_some, pop, popQ, ev, evs, putA, putArgs, look_put, ite_true, ite_false, Nat.reduceEqDiff, Nat.reduceAdd, Nat.zero_add]
  refine ⟨_, _, F, ?_⟩
  simp only [cwf_seq, cwf_ops, andThen_normal, owf_nil, o_p, owf_call, behind_eq, bo_eq, optQ_some, pop, popQ, ev, evs, putA, look_put, ite_true, ite_false, Nat.reduceEqDiff, List.getElem?_cons_zero, List.getElem?_cons_succ]
  refine ⟨_, _, F2, ?_⟩
  simp only [cwf_ret, andThen_normal, fnQ_ret, owf_nil, o_p, behind_eq, bo_eq, optQ_some, pop, popQ, ev, putA, look_put, resAll, resA, mkRes1, ite_true, ite_false, Nat.reduceEqDiff, Option.some.injEq, exists_eq_left', true_and]
  rw [tail_marks h h2 hs.marks]
  exact ⟨hm, hs⟩

theorem grow_spec (h : Heap) {n : Nat} (n0 : 0 < n) (hn : n < 1000000) : FSpec P 209 [.slice none 0 0, I n] h fun v h' => v = .slice (some ⟨h.next, 0, none⟩) 0 n ∧ h' = h.new ⟨rep [I 0] n, n, 1, true, true⟩ := by
  refine fspec_cwf hT H.f124 rfl ?_
  have c1 : ((n : Int) < 0) = False := by simp
  have c2 : ((n : Int) > 0) = True := by simp; omega
  have w1 : wrapF .i64 (n : Int) = n := by rw [wrapI] <;> omega
  have hrep : (rep [I 0] n).all scalar = true := by rw [rep_int]; simp [scalar]
  have a1 := appZ_nil (h := h) (s := 1) (bytes := 8) (zero := [I 0]) n0 (by omega) (by omega) (Nat.le_refl _) hrep
  have r1 : RdAt (h.new ⟨rep [I 0] n, n, 1, true, true⟩) h.next 0 1 n n (rep [I 0] n) := by
    have := RdAt.fresh h (rep [I 0] n) n 1 true true (by rw [rep_int]; simp)
    rwa [Nat.mul_one] at this
  have r2 : _ = _ := r1.to (hi := 0) (Nat.zero_le _) (by omega)
  rw [Int.natCast_zero] at r2
  rw [Nat.mul_one] at a1
  simp only [af209, cwf_seq, cwf_ops, cwf_ret, c_true, c_false, cwf_skip, andThen_normal, fnQ_ret, owf_nil, o_p, o_r, o_e, behind_eq, bo_eq, optQ_some, opt2_some, pop, popQ, rop_slice, rop_cap, capV_nil, slV_nil_to, eop_appZ, ev, evO, putA, putArgs, look_put, isB_true, isB_false, abinF_eq, abin, resAll, resA, mkRes1, Int.cast_ofNat_Int, Int.sub_zero, wrapF_zero, decide_true, decide_false, cond_true, cond_false, ite_true, ite_false, Bool.not_false, Nat.reduceEqDiff, Nat.zero_add, Option.some.injEq, exists_eq_left', true_and, c1, c2, w1, a1, r2]
  rfl
theorem concat_spec {h : Heap} {y : Nat} {A B C : List Int} {xa oa ca xb ob cb xc oc cc : Nat} (hy : RdAt h y 0 1 3 3 [.slice (some ⟨xa, oa, none⟩) A.length ca, .slice (some ⟨xb, ob, none⟩) B.length cb, .slice (some ⟨xc, oc, none⟩) C.length cc])
    (ha : RdAt h xa oa 1 A.length ca (A.map I)) (hb : RdAt h xb ob 1 B.length cb (B.map I)) (hc : RdAt h xc oc 1 C.length cc (C.map I)) (a0 : A ≠ []) (b0 : B ≠ []) (c0 : C ≠ []) (hl : A.length + B.length + C.length < 100000) :
    FSpec P 156 [.slice (some ⟨y, 0, none⟩) 3 3] h fun v h' => v = .slice (some ⟨h.next, 0, none⟩) (A ++ B ++ C).length (A ++ B ++ C).length ∧ RdAt h' h.next 0 1 (A ++ B ++ C).length (A ++ B ++ C).length ((A ++ B ++ C).map I) ∧ Same h h' (fun _ => False) := by
  refine fspec_cwf hT H.f106 rfl ?_
  have y0 : h.rd y 0 = _ := hy.rd (i := 0) (by omega)
  have y1 : h.rd y 1 = _ := hy.rd (i := 1) (by omega)
  have y2 : h.rd y 2 = _ := hy.rd (i := 2) (by omega)
  have pa := List.length_pos_iff.2 a0
  have pb := List.length_pos_iff.2 b0
  have pc := List.length_pos_iff.2 c0
  have w1 : wrapF .i64 (0 + (A.length : Int)) = A.length := by rw [wrapI] <;> omega
  have w2 : wrapF .i64 ((A.length : Int) + B.length) = ((A.length + B.length : Nat) : Int) := by rw [wrapI] <;> omega
  have w3 : wrapF .i64 (((A.length + B.length : Nat) : Int) + C.length) = ((A.length + B.length + C.length : Nat) : Int) := by rw [wrapI] <;> omega
  have w4 : wrapF .i64 1 = 1 := by decide
  have w5 : wrapF .i64 2 = 2 := by decide
  have w6 : wrapF .i64 3 = 3 := by decide
  have n1 : ((A.length : Int) < 0) = False := by simp
  have n2 : (((A.length + B.length : Nat) : Int) < 0) = False := by simp; omega
  have n3 : (((A.length + B.length + C.length : Nat) : Int) < 0) = False := by simp; omega
  obtain ⟨v, h1, F, rfl, rfl⟩ := grow_spec hT H h (n := A.length + B.length + C.length) (by omega) (by omega)
  simp only [af156, cwf_seq, cwf_ops, cwf_block, cwf_loop, andThen_normal, owf_nil, o_p, bo_eq, optQ_some, pop, popQ, ev, putA, putArgs, look_put, Int.cast_ofNat_Int, cond_false, ite_true, ite_false, Nat.reduceEqDiff]
  refine cw_lw (lw_step ?_)
  simp only [cwf_seq, cwf_ops, c_true, c_false, cwf_skip, cwf_block, andThen_normal, blockQ_normal, lwQ_normal, owf_nil, o_p, o_r, bo_eq, optQ_some, pop, popQ, rop_load1, ldV_ptr, ev, putA, look_put, isB_true, isB_false, abinF_eq, abin, Int.reduceLT, Int.reduceLE, Int.reduceToNat, Nat.mul_one, Nat.add_zero, Int.reduceAdd, Int.cast_ofNat_Int, inB_eq, decide_true, decide_false, cond_true, cond_false, ite_true, ite_false, Bool.and_true, Bool.not_false, Nat.reduceEqDiff, List.getElem?_cons_zero, y0, w1, w4, n1]
  refine lw_step ?_
  simp only [cwf_seq, cwf_ops, c_true, c_false, cwf_skip, cwf_block, andThen_normal, blockQ_normal, lwQ_normal, owf_nil, o_p, o_r, bo_eq, optQ_some, pop, popQ, rop_load1, ldV_ptr, ev, putA, look_put, isB_true, isB_false, abinF_eq, abin, Int.reduceLT, Int.reduceLE, Int.reduceToNat, Nat.mul_one, Int.reduceAdd, Int.cast_ofNat_Int, inB_eq, decide_true, decide_false, cond_true, cond_false, ite_true, ite_false, Bool.and_true, Bool.not_false, Nat.reduceEqDiff, Nat.zero_add, List.getElem?_cons_zero, List.getElem?_cons_succ, y1, w2, w5, n2]
  refine lw_step ?_
  simp only [cwf_seq, cwf_ops, c_true, c_false, cwf_skip, cwf_block, andThen_normal, blockQ_normal, lwQ_normal, owf_nil, o_p, o_r, bo_eq, optQ_some, pop, popQ, rop_load1, ldV_ptr, ev, putA, look_put, isB_true, isB_false, abinF_eq, abin, Int.reduceLT, Int.reduceLE, Int.reduceToNat, Nat.mul_one, Int.reduceAdd, Int.cast_ofNat_Int, inB_eq, decide_true, decide_false, cond_true, cond_false, ite_true, ite_false, Bool.and_true, Bool.not_false, Nat.reduceEqDiff, Nat.zero_add, List.getElem?_cons_zero, List.getElem?_cons_succ, y2, w3, w6, n3]
  refine lw_step ?_
  simp only [cwf_seq, cwf_ops, c_false, cwf_exit, andThen_normal, andThen_exit, blockQ_exit, lwQ_exit, owf_nil, o_p, owf_call, bo_eq, optQ_some, pop, popQ, ev, evs, putA, look_put, isB_false, abinF_eq, abin, Int.reduceLT, decide_true, decide_false, cond_true, ite_true, ite_false, Bool.not_false, Nat.reduceEqDiff]
  refine ⟨_, _, F, ?_⟩
  simp only [cwf_seq, cwf_ops, cwf_block, cwf_loop, andThen_normal, owf_nil, o_p, behind_eq, bo_eq, optQ_some, pop, popQ, ev, putA, look_put, Int.cast_ofNat_Int, cond_false, ite_true, ite_false, Nat.reduceEqDiff]
  -- the second time through: each behind what is there
  have e0 : (h.new ⟨rep [I 0] (A.length + B.length + C.length), A.length + B.length + C.length, 1, true, true⟩).blks.get h.next = some ⟨[] ++ rep [I 0] (A.length + B.length + C.length), A.length + B.length + C.length, 1, true, true⟩ := by rw [new_get]; exact if_pos rfl
  have lr : (rep [I 0] (A.length + B.length + C.length)).length = A.length + B.length + C.length := by rw [rep_int]; simp
  have s0 : Same h (h.new ⟨rep [I 0] (A.length + B.length + C.length), A.length + B.length + C.length, 1, true, true⟩) (fun _ => False) := Same.new
  have nx : ∀ j, j < h.next → j = h.next → False := fun j h1 h2 => by omega
  obtain ⟨k1, i1, e1, t1⟩ := app_in' (bytes := 8) (n := 0) (cap := A.length + B.length + C.length) e0 (by simp) ((ha.same s0 (fun x => x)).src) (by simp) (by simp [lr]; try omega) (by simp [scalar]) (Nat.le_refl _) (by omega) (by omega) (by omega) (by omega)
  have s1 : Same h k1 (fun _ => False) := s0.trans t1 nx
  obtain ⟨k2, i2, e2, t2⟩ := app_in' (bytes := 8) (n := 0 + A.length) (cap := A.length + B.length + C.length) e1 (by simp) ((hb.same s1 (fun x => x)).src) (by simp) (by simp [lr]; try omega) (by simp [scalar]) (Nat.le_refl _) (by omega) (by omega) (by omega) (by omega)
  have s2 : Same h k2 (fun _ => False) := s1.trans t2 nx
  obtain ⟨k3, i3, e3, t3⟩ := app_in' (bytes := 8) (n := 0 + A.length + B.length) (cap := A.length + B.length + C.length) e2 (by simp) ((hc.same s2 (fun x => x)).src) (by simp) (by simp [lr]; try omega) (by simp [scalar]) (Nat.le_refl _) (by omega) (by omega) (by omega) (by omega)
  have s3 : Same h k3 (fun _ => False) := s2.trans t3 nx
  have z0 : (h.new ⟨rep [I 0] (A.length + B.length + C.length), A.length + B.length + C.length, 1, true, true⟩).rd y 0 = _ := (hy.same s0 (fun x => x)).rd (i := 0) (by omega)
  have z1 : k1.rd y 1 = _ := (hy.same s1 (fun x => x)).rd (i := 1) (by omega)
  have z2 : k2.rd y 2 = _ := (hy.same s2 (fun x => x)).rd (i := 2) (by omega)
  simp only [Nat.zero_add] at i1 i2 i3
  refine cw_lw (lw_step ?_)
  simp only [cwf_seq, cwf_ops, c_true, cwf_skip, cwf_block, andThen_normal, blockQ_normal, lwQ_normal, owf_nil, o_p, o_r, o_e, behind_eq, bo_eq, optQ_some, opt2_some, pop, popQ, rop_load1, ldV_ptr, ev, putA, look_put, isB_true, abinF_eq, abin, eop_app, Int.reduceLT, Int.reduceLE, Int.reduceToNat, Nat.mul_one, Nat.add_zero, Int.reduceAdd, Int.cast_ofNat_Int, inB_eq, decide_true, cond_true, ite_true, ite_false, Bool.and_true, Nat.reduceEqDiff, List.getElem?_cons_zero, z0, i1, w4]
  refine lw_step ?_
  simp only [cwf_seq, cwf_ops, c_true, cwf_skip, cwf_block, andThen_normal, blockQ_normal, lwQ_normal, owf_nil, o_p, o_r, o_e, behind_eq, bo_eq, optQ_some, opt2_some, pop, popQ, rop_load1, ldV_ptr, ev, putA, look_put, isB_true, abinF_eq, abin, eop_app, Int.reduceLT, Int.reduceLE, Int.reduceToNat, Nat.mul_one, Int.reduceAdd, Int.cast_ofNat_Int, inB_eq, decide_true, cond_true, ite_true, ite_false, Bool.and_true, Nat.reduceEqDiff, Nat.zero_add, List.getElem?_cons_zero, List.getElem?_cons_succ, z1, i2, w5]
  refine lw_step ?_
  simp only [cwf_seq, cwf_ops, c_true, cwf_skip, cwf_block, andThen_normal, blockQ_normal, lwQ_normal, owf_nil, o_p, o_r, o_e, behind_eq, bo_eq, optQ_some, opt2_some, pop, popQ, rop_load1, ldV_ptr, ev, putA, look_put, isB_true, abinF_eq, abin, eop_app, Int.reduceLT, Int.reduceLE, Int.reduceToNat, Nat.mul_one, Int.reduceAdd, Int.cast_ofNat_Int, inB_eq, decide_true, cond_true, ite_true, ite_false, Bool.and_true, Nat.reduceEqDiff, Nat.zero_add, List.getElem?_cons_zero, List.getElem?_cons_succ, z2, i3, w6]
  refine lw_step ?_
  simp only [cwf_seq, cwf_ops, cwf_ret, c_false, cwf_exit, andThen_normal, andThen_exit, blockQ_exit, lwQ_exit, fnQ_ret, owf_nil, o_p, bo_eq, optQ_some, pop, popQ, ev, putA, look_put, isB_false, abinF_eq, abin, resAll, resA, mkRes1, Int.reduceLT, decide_true, decide_false, cond_true, ite_true, ite_false, Bool.not_false, Nat.reduceEqDiff, Option.some.injEq, exists_eq_left']
  have hL : (A ++ B ++ C).length = A.length + B.length + C.length := by simp; omega
  rw [tail_marks h k3 s3.marks, hL]
  refine ⟨rfl, ⟨⟨_, e3, rfl, ?_, ?_⟩, Nat.le_refl _, ?_⟩, s3⟩
  · rw [List.drop_zero, List.take_append_of_le_length (by simp; omega)]
    simp only [List.nil_append, List.map_append]
    rw [List.take_of_length_le (by simp; omega)]
  · simp; omega
  · have := t1.next; have := t2.next; have := t3.next
    rw [new_next] at *
    omega

theorem inner_spec {h : Heap} {n : Int} {uk uc : Nat} {K W : List Int} (hk : OwnAt h (some uk) 1 K.length (K.map I)) (hw : OwnAt h (some uc) 1 W.length (W.map I)) (k0 : K ≠ []) (hl : W.length = K.length + 1) (hb : W.length < 1000) :
    FSpec P 109 [I n, ownSl (some uk) K.length, ownSl (some uc) W.length] h fun v h' => ∃ x, h.next ≤ x ∧ v = .slice (some ⟨x, 0, none⟩) ([(W.length : Int), n, 0, 0, 0] ++ K ++ W).length ([(W.length : Int), n, 0, 0, 0] ++ K ++ W).length ∧ RdAt h' x 0 1 ([(W.length : Int), n, 0, 0, 0] ++ K ++ W).length ([(W.length : Int), n, 0, 0, 0] ++ K ++ W).length (([(W.length : Int), n, 0, 0, 0] ++ K ++ W).map I) ∧ Same h h' (fun _ => False) := by
  refine fspec_cwf hT H.f72 rfl ?_
  have w1 : wrapF .i64 ((K.length : Int) + 1) = W.length := by rw [hl, wrapI] <;> omega
  have c1 : ((W.length : Int) != W.length) = false := by simp
  have w0 : W ≠ [] := fun e => by rw [e] at hl; simp at hl
  simp only [af109, cwf_seq, cwf_ops, c_false, cwf_skip, andThen_normal, owf_nil, o_p, o_e, owf_call, behind_eq, bo_eq, optQ_some, opt2_some, pop, popQ, ev, evs, putA, putArgs, look_put, isB_false, abinF_eq, abin, eop_buildS, bldS_some, evP_nil, evP_cons, fillA_nil, fillA_one, List.length_cons, List.length_nil, List.set_cons_zero, List.set_cons_succ, Nat.reduceLT, Nat.lt_add_one, Nat.mul_one, scalar_slice, scalar_int, decide_true, cond_true, cond_false, ite_true, ite_false, Bool.not_false, Nat.reduceEqDiff, Nat.reduceAdd, Nat.zero_add, w1, c1]
  have r5 : RdAt (h.new ⟨[I W.length, I n, I 0, I 0, I 0], 5, 1, true, false⟩) h.next 0 1 5 5 [I W.length, I n, I 0, I 0, I 0] := RdAt.fresh h [I W.length, I n, I 0, I 0, I 0] 5 1 true false rfl
  generalize hk1 : h.new ⟨[I W.length, I n, I 0, I 0, I 0], 5, 1, true, false⟩ = k1 at r5
  have s1 : Same h k1 (fun _ => False) := hk1 ▸ Same.new
  have r3 : RdAt (k1.new ⟨[.slice (some ⟨h.next, 0, none⟩) 5 5, ownSl (some uk) K.length, ownSl (some uc) W.length], 3, 1, true, false⟩) k1.next 0 1 3 3 [.slice (some ⟨h.next, 0, none⟩) 5 5, ownSl (some uk) K.length, ownSl (some uc) W.length] := RdAt.fresh k1 _ 3 1 true false rfl
  have s2 : Same k1 (k1.new ⟨[.slice (some ⟨h.next, 0, none⟩) 5 5, ownSl (some uk) K.length, ownSl (some uc) W.length], 3, 1, true, false⟩) (fun _ => False) := Same.new
  have sA : Same h (k1.new ⟨[.slice (some ⟨h.next, 0, none⟩) 5 5, ownSl (some uk) K.length, ownSl (some uc) W.length], 3, 1, true, false⟩) (fun _ => False) := s1.trans s2 (fun _ _ x => x)
  obtain ⟨v, h3, F, rfl, q2, q3⟩ := concat_spec hT H (A := [(W.length : Int), n, 0, 0, 0]) (B := K) (C := W) r3 (r5.same s2 (fun x => x)) (hk.rd.same sA (fun x => x)) (hw.rd.same sA (fun x => x)) (by simp) k0 w0 (by simp; omega)
  refine ⟨_, _, F, ?_⟩
  simp only [cwf_ret, andThen_normal, fnQ_ret, owf_nil, o_p, behind_eq, bo_eq, optQ_some, pop, popQ, ev, putA, look_put, resAll, resA, mkRes1, ite_true, ite_false, Nat.reduceEqDiff, Option.some.injEq, exists_eq_left']
  have sB := sA.trans q3 (fun _ _ x => x)
  rw [tail_marks h h3 sB.marks]
  exact ⟨_, Nat.le_trans s1.next s2.next, rfl, q2, sB⟩
end
end
end Go.Proofs.YtpeihcpclcibgaaGreat.Ai
/- What lay comes to. -/
namespace Go.Proofs.YtpeihcpclcibgaaGreat.Ai
open Go.Proofs.YtpeihcpclcibgaaGreat
noncomputable section
open Go.RowKit

def flat : List Pr → List Value
  | [] => []
  | p :: l => I p.1 :: I p.2 :: flat l

theorem flat_len : ∀ l : List Pr, (flat l).length = l.length * 2
  | [] => rfl
  | p :: l => by simp [flat, flat_len l]; omega

theorem flat_key : ∀ (l : List Pr) (i : Nat) (hi : i < l.length), (flat l)[i * 2]? = some (I l[i].1)
  | p :: l, 0, _ => rfl
  | p :: l, i + 1, hi => by
    have := flat_key l i (by simpa using hi)
    rw [show (i + 1) * 2 = i * 2 + 1 + 1 by omega, flat, List.getElem?_cons_succ, List.getElem?_cons_succ, this]
    rfl

theorem flat_val : ∀ (l : List Pr) (i : Nat) (hi : i < l.length), (flat l)[i * 2 + 1]? = some (I l[i].2)
  | p :: l, 0, _ => rfl
  | p :: l, i + 1, hi => by
    have := flat_val l i (by simpa using hi)
    rw [show (i + 1) * 2 + 1 = i * 2 + 1 + 1 + 1 by omega, flat, List.getElem?_cons_succ, List.getElem?_cons_succ, this]
    rfl

theorem flat_drop : ∀ (l : List Pr) (i : Nat), flat (l.drop i) = (flat l).drop (i * 2)
  | l, 0 => by simp
  | [], i + 1 => by simp [flat]
  | p :: l, i + 1 => by
    rw [List.drop_succ_cons, flat_drop l i, show (i + 1) * 2 = i * 2 + 1 + 1 by omega, flat, List.drop_succ_cons, List.drop_succ_cons]

theorem flat_take : ∀ (l : List Pr) (i : Nat), flat (l.take i) = (flat l).take (i * 2)
  | l, 0 => by simp [flat]
  | [], i + 1 => by simp [flat]
  | p :: l, i + 1 => by
    rw [List.take_succ_cons, flat, flat_take l i, show (i + 1) * 2 = i * 2 + 1 + 1 by omega, flat, List.take_succ_cons, List.take_succ_cons]

/-- the numbers of the ideal shape, as the functions tell them -/
structure Num (P : Program) : Prop where
  deg : ∀ n : Nat, n ≤ 120 → ∀ h, Fact P 151 [I n] h (I (degN n)) h
  frm : ∀ n i : Nat, 2 ≤ n → n ≤ 120 → i < degN n → ∀ h, Fact P 159 [I n, I i] h (I (fromN n i)) h
  siz : ∀ n i : Nat, 2 ≤ n → n ≤ 120 → i < degN n → ∀ h, Fact P 160 [I n, I i] h (I (sizeN n i)) h
  cel : ∀ n : Nat, n ≤ 120 → ∀ h, Fact P 101 [I n] h (I (cellsN n)) h

theorem kids_mono (lay : List Pr → Nat → Int × List Int) (l : List Pr) (u : Nat) {i j : Nat} (h : i ≤ j) : (kidsF lay l u i).2.length ≤ (kidsF lay l u j).2.length := by
  induction h with
  | refl => exact Nat.le_refl _
  | step _ ih => refine Nat.le_trans ih ?_; simp [kidsF]

section
variable {P : Program} {tab : Nat → Option AFunc} (hT : TabOk P tab) (H : Has tab) (Nu : Num P)
include hT H

theorem lay_nil {h : Heap} {b : Nat} {u : Option Nat} {C : List Int} {z c o r : Int} (m : MemAt h b u C z c o r) {base : Option Addr} {cap : Nat} (hn : (C.length : Int) + 1 ≤ z) (hz : z ≤ 65536) (hc : 0 ≤ c ∧ c < 1000000000) :
    FSpec P 112 [.pointer (some ⟨b, 0, none⟩), .slice base 0 cap] h fun v h' => v = I (((C.length : Int) + 1) * 8 + 1) ∧ (∃ u', MemAt h' b u' (C ++ [0]) z (c + 1) o r ∧ (∀ x, u' = some x → u = some x ∨ h.next ≤ x)) ∧ Same h h' (fun j => j = b ∨ u = some j) := by
  refine fspec_cwf hT H.f63 rfl ?_
  simp only [af112, cwf_seq, cwf_ops, c_true, cwf_block, andThen_normal, owf_nil, o_p, owf_call, bo_eq, optQ_some, pop, popQ, ev, evs, putA, putArgs, look_put, isB_true, abinF_eq, abin, Int.cast_ofNat_Int, decide_true, cond_true, cond_false, ite_true, ite_false, Nat.reduceEqDiff, Nat.zero_add, beq_self_eq_true]
  obtain ⟨v, h1, F, rfl, hr, hs⟩ := empty_spec hT H h
  refine ⟨_, _, F, ?_⟩
  simp only [owf_call, behind_eq, ev, evs, putA, look_put, ite_true, ite_false, Nat.reduceEqDiff]
  obtain ⟨v2, h2, F2, rfl, hm, hs2⟩ := made_spec hT H (k := 1) (ws := [0]) (m.same hs (fun x => x) (fun _ _ x => x)) hr (fun e => absurd e.symm (Nat.ne_of_lt m.lt)) (by simp) hn hz hc (by omega) (by omega)
  refine ⟨_, _, F2, ?_⟩
  simp only [cwf_ret, andThen_normal, andThen_ret, blockQ_ret, fnQ_ret, owf_nil, o_p, behind_eq, bo_eq, optQ_some, pop, popQ, ev, putA, look_put, resAll, resA, mkRes1, ite_true, ite_false, Nat.reduceEqDiff, Option.some.injEq, exists_eq_left', true_and]
  have s3 : Same h h2 (fun j => j = b ∨ u = some j) := (hs.mono (T := fun j => j = b ∨ u = some j) (fun _ x => x.elim)).trans hs2 (fun _ _ x => x)
  rw [tail_marks h h2 s3.marks]
  obtain ⟨u', hm1, hm2⟩ := hm
  exact ⟨⟨u', hm1, fun y hy => (hm2 y hy).imp_right (fun e => Nat.le_trans hs.next e)⟩, s3⟩

theorem lay_one {h : Heap} {b : Nat} {u : Option Nat} {C : List Int} {z c o r : Int} (m : MemAt h b u C z c o r) {x p cap : Nat} {q : Pr} (hl : RdAt h x p 2 1 cap (flat [q])) (hn : (C.length : Int) + 2 ≤ z) (hz : z ≤ 65536) (hc : 0 ≤ c ∧ c < 1000000000) :
    FSpec P 112 [.pointer (some ⟨b, 0, none⟩), .slice (some ⟨x, p, none⟩) 1 cap] h fun v h' => v = I (((C.length : Int) + 1) * 8 + 2) ∧ (∃ u', MemAt h' b u' (C ++ [q.1, q.2]) z (c + 1) o r ∧ (∀ x, u' = some x → u = some x ∨ h.next ≤ x)) ∧ Same h h' (fun j => j = b ∨ u = some j) := by
  refine fspec_cwf hT H.f63 rfl ?_
  obtain ⟨v, h1, F, rfl, hr, hs⟩ := leaf_spec hT H h q.1 q.2
  obtain ⟨v2, h2, F2, rfl, hm, hs2⟩ := made_spec hT H (k := 2) (ws := [q.1, q.2]) (m.same hs (fun x => x) (fun _ _ x => x)) hr (fun e => absurd e.symm (Nat.ne_of_lt m.lt)) (by simp) hn hz hc (by omega) (by omega)
  have c0 : ((1 : Int) == 0) = false := rfl
  have c1 : ((1 : Int) == 1) = true := rfl
  have r0 : h.rd x p = some (I q.1) := hl.rd (i := 0) (by omega)
  have r1 : h.rd x (p + 1) = some (I q.2) := hl.rd (i := 1) (by omega)
  simp only [af112, cwf_seq, cwf_ops, c_true, c_false, cwf_block, cwf_draw, andThen_normal, owf_nil, o_p, bo_eq, bd_eq, optQ_some, d_p, d_r, pop, popQ, rop_load1, ldV_ptr, ev, putA, putArgs, look_put, isB_true, isB_false, abinF_eq, abin, Int.reduceLT, Int.reduceLE, Int.reduceToNat, Nat.zero_mul, Nat.add_zero, Int.cast_ofNat_Int, inB_eq, decide_true, cond_true, cond_false, ite_true, ite_false, Bool.and_true, Bool.not_false, Nat.reduceEqDiff, Nat.zero_add, c0, c1]
  refine ⟨cfOf 158 _ h _ h1 (cfOf 157 _ h1 _ h2 cf00), cfOf_ok F (cfOf_ok F2 cf00_ok), ?_⟩
  have g1 := @cfOf_eq 158 [I q.1, I q.2] h (.slice (some ⟨h.next, 0, none⟩) 2 2) h1 (cfOf 157 [.pointer (some ⟨b, 0, none⟩), I 2, .slice (some ⟨h.next, 0, none⟩) 2 2] h1 (I (((C.length : Int) + 1) * 8 + 2)) h2 cf00)
  have g2 : cfOf 158 [I q.1, I q.2] h (.slice (some ⟨h.next, 0, none⟩) 2 2) h1 (cfOf 157 [.pointer (some ⟨b, 0, none⟩), I 2, .slice (some ⟨h.next, 0, none⟩) 2 2] h1 (I (((C.length : Int) + 1) * 8 + 2)) h2 cf00) (.fn 157) [.pointer (some ⟨b, 0, none⟩), I 2, .slice (some ⟨h.next, 0, none⟩) 2 2] h1 = some (I (((C.length : Int) + 1) * 8 + 2), h2) := by rw [cfOf_ne (by decide)]; exact cfOf_eq
  simp only [cwf_ret, andThen_normal, andThen_ret, blockQ_ret, fnQ_ret, bd_eq, bd2_eq, optQ_some, opt2_some, dwf_nil, d_p, d_r, d_call, pop, popQ, rop_load1, ldV_ptr, ev, evs, putA, look_put, resAll, resA, mkRes1, List.length_cons, List.length_nil, Int.reduceLT, Int.reduceLE, Int.reduceToNat, Nat.zero_mul, Nat.add_zero, Int.cast_ofNat_Int, inB_eq, decide_true, cond_true, ite_true, ite_false, Bool.and_true, Nat.reduceEqDiff, Nat.reduceAdd, Nat.zero_add, Option.some.injEq, exists_eq_left', true_and, r0, r1, g1, g2]
  have s3 : Same h h2 (fun j => j = b ∨ u = some j) := (hs.mono (T := fun j => j = b ∨ u = some j) (fun _ x => x.elim)).trans hs2 (fun _ _ x => x)
  rw [tail_marks h h2 s3.marks]
  obtain ⟨u', hm1, hm2⟩ := hm
  exact ⟨⟨u', hm1, fun y hy => (hm2 y hy).imp_right (fun e => Nat.le_trans hs.next e)⟩, s3⟩

include Nu

/-- what is kept from child to child -/
structure LayI (h : Heap) (b x p cap : Nat) (u : Option Nat) (C : List Int) (z c o r : Int) (f : Nat) (l : List Pr) (i : Nat) (ts : T Value) (h' : Heap) : Prop where
  t0 : look ts 0 = .pointer (some ⟨b, 0, none⟩)
  t1 : look ts 1 = .slice (some ⟨x, p, none⟩) l.length cap
  t5 : look ts 5 = I l.length
  t32 : look ts 32 = I (degN l.length)
  t33 : look ts 33 = I i
  le : i ≤ degN l.length
  ex : ∃ uk uc u' c', look ts 6 = ownSl uk (i - 1) ∧ look ts 7 = ownSl uc i ∧ OwnAt h' uk 1 (i - 1) ((keysF l i).map I) ∧ OwnAt h' uc 1 i ((kidsF (layF f) l C.length i).1.map I) ∧
    MemAt h' b u' (C ++ (kidsF (layF f) l C.length i).2) z c' o r ∧ c ≤ c' ∧ c' ≤ c + (kidsF (layF f) l C.length i).2.length ∧ (∀ y, u' = some y → u = some y ∨ h.next ≤ y) ∧ (∀ y, uk = some y → h.next ≤ y ∧ u' ≠ some y) ∧ (∀ y, uc = some y → h.next ≤ y ∧ u' ≠ some y ∧ uk ≠ some y)
  same : Same h h' (fun j => j = b ∨ u = some j)

theorem lay_spec : ∀ (f : Nat) (l : List Pr) (h : Heap) (b x p cap : Nat) (u : Option Nat) (C : List Int) (z c o r : Int), l.length < f → l.length ≤ 120 → 1 ≤ l.length → MemAt h b u C z c o r → RdAt h x p 2 l.length cap (flat l) → x ≠ b → u ≠ some x → (C.length : Int) + cellsN l.length ≤ z → z ≤ 65536 → 0 ≤ c → c + cellsN l.length < 1000000000 →
    FSpec P 112 [.pointer (some ⟨b, 0, none⟩), .slice (some ⟨x, p, none⟩) l.length cap] h fun v h' => v = I (layF f l C.length).1 ∧ (∃ u' c', MemAt h' b u' (C ++ (layF f l C.length).2) z c' o r ∧ c ≤ c' ∧ c' ≤ c + cellsN l.length ∧ (∀ y, u' = some y → u = some y ∨ h.next ≤ y)) ∧ Same h h' (fun j => j = b ∨ u = some j) := by
  intro f
  induction f with
  | zero => intro l h b x p cap u C z c o r hf; omega
  | succ f ih =>
    intro l h b x p cap u C z c o r hf hl h1 m hr hxb hxu hroom hz hc0 hc1
    by_cases h2 : 2 ≤ l.length
    · have pn := partN h2 hl
      rw [layF_two h2]
      refine fspec_cwf hT H.f63 rfl ?_
      have c0 : ((l.length : Int) == 0) = false := by rw [beq_eq_false_iff_ne]; omega
      have c1 : ((l.length : Int) == 1) = false := by rw [beq_eq_false_iff_ne]; omega
      simp only [af112, cwf_seq, cwf_ops, c_false, cwf_skip, cwf_block, andThen_normal, blockQ_normal, owf_nil, o_p, owf_call, bo_eq, optQ_some, pop, popQ, ev, evs, putA, putArgs, look_put, isB_false, abinF_eq, abin, decide_true, cond_true, cond_false, ite_true, ite_false, Bool.not_false, Nat.reduceEqDiff, Nat.zero_add, c0, c1]
      refine ⟨_, _, Nu.deg l.length hl h, ?_⟩
      simp only [cwf_block, cwf_loop, andThen_normal, owf_nil, o_p, behind_eq, bo_eq, optQ_some, pop, popQ, ev, putA]
      refine cw_loop (fun k ts h' => ∃ i, k = degN l.length - i ∧ LayI h b x p cap u C z c o r f l i ts h') ?_ (n := degN l.length) ⟨0, rfl, ?_⟩
      · rintro k ts h' ⟨i, rfl, L⟩
        obtain ⟨uk, uc, u', c', t6, t7, ok, oc, mm, b1, b2, hu', gk, gc⟩ := L.ex
        have hb1 : b < h.next := m.lt
        have hlen := layF_len (f + 1) l C.length hf hl
        rw [layF_two h2] at hlen
        simp only [List.length_append, List.length_cons, List.length_nil, keysF_len, kidsF_one] at hlen
        by_cases hi : i < degN l.length
        · have hnext := pn.next i hi
          have hone := pn.one i hi
          have hless := pn.less i hi
          have htop := pn.top i hi
          have d11 := pn.deg11
          have hpl := partL_len h2 hl hi
          have ci : ((i : Int) < degN l.length) = True := by simp [hi]
          have wfs : wrapF .i64 ((fromN l.length i : Int) + sizeN l.length i) = ((fromN l.length i + sizeN l.length i : Nat) : Int) := by rw [wrapI] <;> omega
          have wi : wrapF .i64 ((i : Int) + 1) = ((i + 1 : Nat) : Int) := by rw [wrapI] <;> omega
          have hcap := hr.cap
          have hmono : (kidsF (layF f) l C.length i).2.length + cellsN (partL l i).length ≤ (kidsF (layF f) l C.length (degN l.length)).2.length := by
            have e : (kidsF (layF f) l C.length (i + 1)).2.length = (kidsF (layF f) l C.length i).2.length + cellsN (partL l i).length := by
              simp only [kidsF, List.length_append]
              rw [layF_len f (partL l i) _ (by omega) (by omega)]
            rw [← e]
            exact kids_mono _ _ _ (by omega)
          have hCi : (C ++ (kidsF (layF f) l C.length i).2).length = C.length + (kidsF (layF f) l C.length i).2.length := by simp
          have hCz : ((C ++ (kidsF (layF f) l C.length i).2).length : Int) = (C.length : Int) + (kidsF (layF f) l C.length i).2.length := by rw [hCi]; simp
          have hxu' : u' ≠ some x := fun e => by
            rcases hu' x e with e2 | e2
            · exact hxu e2
            · have := hr.lt; omega
          refine cwf_cw ?_
          simp only [cwf_seq, cwf_ops, c_true, cwf_skip, cwf_block, andThen_normal, owf_nil, o_p, owf_call, bo_eq, optQ_some, pop, popQ, ev, evs, putA, look_put, isB_true, abinF_eq, abin, decide_true, cond_true, ite_true, ite_false, Nat.reduceEqDiff, L.t33, L.t32, ci, L.t5]
          refine ⟨_, _, Nu.frm l.length i h2 hl hi _, ?_⟩
          have hrk := hr.same L.same (fun hs => hs.elim hxb hxu)
          have l5 := L.t5
          rcases Nat.eq_zero_or_pos i with i0 | ip
          · have k2e : ∃ k2, k2 = h' := ⟨_, rfl⟩
            obtain ⟨k2, k2e⟩ := k2e
            have uk2e : ∃ uk2, uk2 = uk := ⟨_, rfl⟩
            obtain ⟨uk2, uk2e⟩ := uk2e
            have i0 : ((i : Int) > 0) = False := by simp; omega
            have s12 : Same h' k2 (fun j => uk = some j) := k2e ▸ Same.refl _ _
            have s2 : Same h k2 (fun j => j = b ∨ u = some j) := k2e ▸ L.same
            have mk2 : MemAt k2 b u' (C ++ (kidsF (layF f) l C.length i).2) z c' o r := k2e ▸ mm
            have oc2 : OwnAt k2 uc 1 i ((kidsF (layF f) l C.length i).1.map I) := k2e ▸ oc
            have hsub' := (hr.same s2 (fun hs => hs.elim hxb hxu)).sub (lo := fromN l.length i) (hi := fromN l.length i + sizeN l.length i) (by omega) htop
            have hsub : RdAt k2 x (p + fromN l.length i * 2) 2 (partL l i).length (cap - fromN l.length i) (flat (partL l i)) := by
              rw [partL, flat_take, flat_drop]
              have e : fromN l.length i + sizeN l.length i - fromN l.length i = sizeN l.length i := by omega
              rw [e] at hsub'
              have e2 := hpl
              rw [partL] at e2
              rw [e2]; exact hsub'
            have sl2 := (hr.same s2 (fun hs => hs.elim hxb hxu)).cut (lo := fromN l.length i) (hi := fromN l.length i + sizeN l.length i) (by omega) htop (by omega)
            have e : fromN l.length i + sizeN l.length i - fromN l.length i = sizeN l.length i := by omega
            rw [e] at sl2
            have gk2 : ∀ y, uk2 = some y → h.next ≤ y ∧ u' ≠ some y := fun y hy => gk y (uk2e ▸ hy)
            have gck : ∀ y, uc = some y → ¬ uk2 = some y := fun y hy e => (gc y hy).2.2 (uk2e ▸ e)
            have ok2 : OwnAt k2 uk2 1 (i + 1 - 1) ((keysF l (i + 1)).map I) := by
              have e1 : keysF l (i + 1) = keysF l i := by
                have : i = 0 := by omega
                subst this; rfl
              have e2 : i + 1 - 1 = i - 1 := by omega
              rw [e1, e2, k2e, uk2e]; exact ok
            have t6 : look ts 6 = ownSl uk2 (i + 1 - 1) := by
              have e2 : i + 1 - 1 = i - 1 := by omega
              rw [e2, uk2e]; exact t6
            rw [← k2e]
            obtain ⟨v3, h3, F3, rfl, ⟨u3, c3, m3, b31, b32, n3⟩, s3⟩ := ih (partL l i) k2 b x (p + fromN l.length i * 2) (cap - fromN l.length i) u' _ z c' o r (by omega) (by omega) (by omega) mk2 hsub hxb hxu' (by omega) hz (by omega) (by omega)
            have sk3 : Same h h3 (fun j => j = b ∨ u = some j) := s2.trans s3 (fun j hj hs => hs.elim .inl (fun e => by
              rcases hu' j e with e2 | e2
              · exact .inr e2
              · omega))
            have hcell : RdAt (h3.new ⟨[I (layF f (partL l i) (C ++ (kidsF (layF f) l C.length i).2).length).1], 1, 1, true, false⟩) h3.next 0 1 1 1 [I (layF f (partL l i) (C ++ (kidsF (layF f) l C.length i).2).length).1] := RdAt.fresh h3 [I (layF f (partL l i) (C ++ (kidsF (layF f) l C.length i).2).length).1] 1 1 true false rfl
            have s4 : Same h3 (h3.new ⟨[I (layF f (partL l i) (C ++ (kidsF (layF f) l C.length i).2).length).1], 1, 1, true, false⟩) (fun _ => False) := Same.new
            have oc3 : OwnAt h3 uc 1 i ((kidsF (layF f) l C.length i).1.map I) := oc2.same s3 (fun y hy hs => hs.elim (fun e => by have := (gc y hy).1; omega) (fun e => (gc y hy).2.1 e))
            obtain ⟨uc', k5, ha5, oc5, s5, n5⟩ := app_own (bytes := 8) (oc3.same s4 (fun _ _ x => x)) hcell.src rfl rfl (Nat.le_refl _) (by omega) (by omega)
            have t5 : Same h3 k5 (fun j => uc = some j) := (s4.mono (T := fun j => uc = some j) (fun _ x => x.elim)).trans s5 (fun _ _ x => x)
            have sk5 : Same h k5 (fun j => j = b ∨ u = some j) := sk3.trans t5 (fun j hj e => by have := (gc j e).1; omega)
            have hpl' := hpl
            simp only [cwf_seq, cwf_ops, c_false, cwf_skip, andThen_normal, owf_nil, o_p, owf_call, behind_eq, bo_eq, optQ_some, pop, popQ, ev, evs, putA, look_put, isB_false, abinF_eq, abin, decide_true, decide_false, cond_true, ite_true, ite_false, Bool.not_false, Nat.reduceEqDiff, L.t0, L.t1, L.t5, t7, i0]
            refine ⟨_, _, Nu.siz l.length i h2 hl hi _, ?_⟩
            simp only [o_p, o_r, owf_call, behind_eq, bo_eq, optQ_some, pop, popQ, rop_slice, ev, evO, evs, putA, look_put, abinF_eq, abin, decide_true, cond_true, ite_true, ite_false, Nat.reduceEqDiff, wfs, sl2]
            rw [← hpl]
            refine ⟨_, _, F3, ?_⟩
            simp only [cwf_ops, andThen_normal, blockQ_normal, roundQ_normal, owf_nil, o_p, o_e, behind_eq, bo_eq, optQ_some, opt2_some, pop, popQ, ev, putA, look_put, abinF_eq, abin, eop_app, eop_buildS, bldS_some, evP_nil, evP_cons, fillA_nil, fillA_one, List.length_cons, List.length_nil, List.set_cons_zero, Nat.lt_add_one, Nat.mul_one, scalar_int, decide_true, cond_true, ite_true, ite_false, Nat.reduceEqDiff, Nat.zero_add, L.t33, ha5, wi]
            have un3 : ∀ y, u3 = some y → y < h3.next := fun y hy => (m3.use y hy).2.2.1
            have un : ∀ y, u' = some y → y < h'.next := fun y hy => (mm.use y hy).2.2.1
            have cn : ∀ y, uc = some y → y < h'.next := fun y hy => (oc.use y hy).2.1
            have kn : ∀ y, uk2 = some y → y < k2.next := fun y hy => (ok2.use y hy).2.1
            have nx1 := s12.next
            have nx3 := s3.next
            have nx4 := s4.next
            have nx5 := s5.next
            have nx0 := L.same.next
            have nn : (h3.new ⟨[I (layF f (partL l i) (C ++ (kidsF (layF f) l C.length i).2).length).1], 1, 1, true, false⟩).next = h3.next + 1 := rfl
            refine ⟨degN l.length - (i + 1), by omega, i + 1, rfl, ⟨by simp only [look_put, ite_false, Nat.reduceEqDiff, L.t0], by simp only [look_put, ite_false, Nat.reduceEqDiff, L.t1], by simp only [look_put, ite_false, Nat.reduceEqDiff, L.t5], by simp only [look_put, ite_false, Nat.reduceEqDiff, L.t32], by simp only [look_put, ite_true, ite_false, Nat.reduceEqDiff], by omega, ⟨uk2, uc', u3, c3, ?_, by simp only [look_put, ite_true, ite_false, Nat.reduceEqDiff], ?_, ?_, ?_, by omega, ?_, ?_, ?_, ?_⟩, sk5⟩⟩
            · simp only [look_put, ite_false, Nat.reduceEqDiff, t6] <;> rfl
            · refine (ok2.same s3 (fun y hy hs => hs.elim (fun e => ?_) (fun e => (gk2 y hy).2 e))).same t5 (fun y hy e => ?_)
              · have := (gk2 y hy).1; omega
              · exact (gck y e).elim hy
            · have e : (kidsF (layF f) l C.length (i + 1)).1.map I = (kidsF (layF f) l C.length i).1.map I ++ [I (layF f (partL l i) (C ++ (kidsF (layF f) l C.length i).2).length).1] := by
                simp only [kidsF, List.map_append, List.map_cons, List.map_nil, hCi]
              rw [e]; exact oc5
            · have e : C ++ (kidsF (layF f) l C.length (i + 1)).2 = C ++ (kidsF (layF f) l C.length i).2 ++ (layF f (partL l i) (C ++ (kidsF (layF f) l C.length i).2).length).2 := by
                simp only [kidsF, hCi, List.append_assoc]
              rw [e]
              exact m3.same t5 (fun e => by have := (gc b e).1; omega) (fun y hy e => by
                have h1 := gc y e
                rcases n3 y hy with e2 | e2
                · exact h1.2.1 e2
                · have := cn y e; omega)
            · simp only [kidsF, List.length_append]
              have e := layF_len f (partL l i) (C.length + (kidsF (layF f) l C.length i).2.length) (by omega) (by omega)
              rw [e]; omega
            · intro y hy
              rcases n3 y hy with e2 | e2
              · exact hu' y e2
              · exact .inr (by omega)
            · intro y hy
              refine ⟨(gk2 y hy).1, fun e => ?_⟩
              rcases n3 y e with e2 | e2
              · exact (gk2 y hy).2 e2
              · have := kn y hy; omega
            · intro y hy
              rcases n5 y hy with e | e
              · refine ⟨(gc y e).1, fun e1 => ?_, fun e1 => (gck y e).elim e1⟩
                rcases n3 y e1 with e2 | e2
                · exact (gc y e).2.1 e2
                · have := cn y e; omega
              · refine ⟨by omega, fun e1 => ?_, fun e1 => ?_⟩
                · have := un3 y e1; omega
                · have := kn y e1; omega
          · have i0 : ((i : Int) > 0) = True := by simp; omega
            have hfl : fromN l.length i < l.length := by omega
            have cg : ((fromN l.length i : Int) < (l.length : Int)) = True := by simp; omega
            have rk : h'.rd x (p + fromN l.length i * 2) = some (I l[fromN l.length i].1) := by
              rw [hrk.rd (by omega)]; exact flat_key l _ hfl
            have hkc : RdAt (h'.new ⟨[I l[fromN l.length i].1], 1, 1, true, false⟩) h'.next 0 1 1 1 [I l[fromN l.length i].1] := RdAt.fresh h' [I l[fromN l.length i].1] 1 1 true false rfl
            have s1 : Same h' (h'.new ⟨[I l[fromN l.length i].1], 1, 1, true, false⟩) (fun _ => False) := Same.new
            obtain ⟨uk2, k2, ha1, ok2', sa, na⟩ := app_own (bytes := 8) (ok.same s1 (fun _ _ x => x)) hkc.src rfl rfl (Nat.le_refl _) (by omega) (by omega)
            have s12 : Same h' k2 (fun j => uk = some j) := (s1.mono (T := fun j => uk = some j) (fun _ x => x.elim)).trans sa (fun _ _ x => x)
            have s2 : Same h k2 (fun j => j = b ∨ u = some j) := L.same.trans s12 (fun j hj e => by have := (gk j e).1; omega)
            have mk2 := mm.same s12 (fun e => by have := (gk b e).1; omega) (fun y hy e => (gk y e).2 hy)
            have oc2 := oc.same s12 (fun y hy e => (gc y hy).2.2 e)
            have hsub' := (hr.same s2 (fun hs => hs.elim hxb hxu)).sub (lo := fromN l.length i) (hi := fromN l.length i + sizeN l.length i) (by omega) htop
            have hsub : RdAt k2 x (p + fromN l.length i * 2) 2 (partL l i).length (cap - fromN l.length i) (flat (partL l i)) := by
              rw [partL, flat_take, flat_drop]
              have e : fromN l.length i + sizeN l.length i - fromN l.length i = sizeN l.length i := by omega
              rw [e] at hsub'
              have e2 := hpl
              rw [partL] at e2
              rw [e2]; exact hsub'
            have sl2 := (hr.same s2 (fun hs => hs.elim hxb hxu)).cut (lo := fromN l.length i) (hi := fromN l.length i + sizeN l.length i) (by omega) htop (by omega)
            have e : fromN l.length i + sizeN l.length i - fromN l.length i = sizeN l.length i := by omega
            rw [e] at sl2
            have gk2 : ∀ y, uk2 = some y → h.next ≤ y ∧ u' ≠ some y := fun y hy => by
              rcases na y hy with e | e
              · exact gk y e
              · have hq := L.same.next
                refine ⟨by rw [e, new_next]; omega, fun e2 => ?_⟩
                have := (mm.use y e2).2.2.1
                rw [e, new_next] at this; omega
            have gck : ∀ y, uc = some y → ¬ uk2 = some y := fun y hy e => by
              rcases na y e with e2 | e2
              · exact (gc y hy).2.2 e2
              · have := (oc.use y hy).2.1
                rw [e2, new_next] at this; omega
            have eki : (keysF l (i + 1)).map I = (keysF l i).map I ++ [I l[fromN l.length i].1] := by
              rw [keysF, if_neg (by omega)]
              simp [List.getElem?_eq_getElem hfl]
            have ei : i - 1 + 1 = i + 1 - 1 := by omega
            have ok2 : OwnAt k2 uk2 1 (i + 1 - 1) ((keysF l (i + 1)).map I) := by rw [eki, ← ei]; exact ok2'
            rw [ei] at ha1
            obtain ⟨v3, h3, F3, rfl, ⟨u3, c3, m3, b31, b32, n3⟩, s3⟩ := ih (partL l i) k2 b x (p + fromN l.length i * 2) (cap - fromN l.length i) u' _ z c' o r (by omega) (by omega) (by omega) mk2 hsub hxb hxu' (by omega) hz (by omega) (by omega)
            have sk3 : Same h h3 (fun j => j = b ∨ u = some j) := s2.trans s3 (fun j hj hs => hs.elim .inl (fun e => by
              rcases hu' j e with e2 | e2
              · exact .inr e2
              · omega))
            have hcell : RdAt (h3.new ⟨[I (layF f (partL l i) (C ++ (kidsF (layF f) l C.length i).2).length).1], 1, 1, true, false⟩) h3.next 0 1 1 1 [I (layF f (partL l i) (C ++ (kidsF (layF f) l C.length i).2).length).1] := RdAt.fresh h3 [I (layF f (partL l i) (C ++ (kidsF (layF f) l C.length i).2).length).1] 1 1 true false rfl
            have s4 : Same h3 (h3.new ⟨[I (layF f (partL l i) (C ++ (kidsF (layF f) l C.length i).2).length).1], 1, 1, true, false⟩) (fun _ => False) := Same.new
            have oc3 : OwnAt h3 uc 1 i ((kidsF (layF f) l C.length i).1.map I) := oc2.same s3 (fun y hy hs => hs.elim (fun e => by have := (gc y hy).1; omega) (fun e => (gc y hy).2.1 e))
            obtain ⟨uc', k5, ha5, oc5, s5, n5⟩ := app_own (bytes := 8) (oc3.same s4 (fun _ _ x => x)) hcell.src rfl rfl (Nat.le_refl _) (by omega) (by omega)
            have t5 : Same h3 k5 (fun j => uc = some j) := (s4.mono (T := fun j => uc = some j) (fun _ x => x.elim)).trans s5 (fun _ _ x => x)
            have sk5 : Same h k5 (fun j => j = b ∨ u = some j) := sk3.trans t5 (fun j hj e => by have := (gc j e).1; omega)
            have hpl' := hpl
            simp only [cwf_seq, cwf_ops, c_true, andThen_normal, owf_nil, o_p, o_r, o_e, owf_call, behind_eq, bo_eq, optQ_some, opt2_some, pop, popQ, rop_load1, ldV_ptr, ev, evs, putA, look_put, isB_true, abinF_eq, abin, eop_app, eop_buildS, bldS_some, evP_nil, evP_cons, fillA_nil, fillA_one, List.length_cons, List.length_nil, List.set_cons_zero, Nat.lt_add_one, Int.toNat_natCast, Int.natCast_nonneg, Nat.mul_one, Nat.add_zero, scalar_int, inB_eq, decide_true, cond_true, ite_true, ite_false, Bool.and_true, Nat.reduceEqDiff, Nat.zero_add, L.t0, L.t1, L.t5, t6, t7, i0, cg, rk, ha1]
            refine ⟨_, _, Nu.siz l.length i h2 hl hi _, ?_⟩
            simp only [o_p, o_r, owf_call, behind_eq, bo_eq, optQ_some, pop, popQ, rop_slice, ev, evO, evs, putA, look_put, abinF_eq, abin, decide_true, cond_true, ite_true, ite_false, Nat.reduceEqDiff, wfs, sl2]
            rw [← hpl]
            refine ⟨_, _, F3, ?_⟩
            simp only [cwf_ops, andThen_normal, blockQ_normal, roundQ_normal, owf_nil, o_p, o_e, behind_eq, bo_eq, optQ_some, opt2_some, pop, popQ, ev, putA, look_put, abinF_eq, abin, eop_app, eop_buildS, bldS_some, evP_nil, evP_cons, fillA_nil, fillA_one, List.length_cons, List.length_nil, List.set_cons_zero, Nat.lt_add_one, Nat.mul_one, scalar_int, decide_true, cond_true, ite_true, ite_false, Nat.reduceEqDiff, Nat.zero_add, L.t33, ha5, wi]
            have un3 : ∀ y, u3 = some y → y < h3.next := fun y hy => (m3.use y hy).2.2.1
            have un : ∀ y, u' = some y → y < h'.next := fun y hy => (mm.use y hy).2.2.1
            have cn : ∀ y, uc = some y → y < h'.next := fun y hy => (oc.use y hy).2.1
            have kn : ∀ y, uk2 = some y → y < k2.next := fun y hy => (ok2.use y hy).2.1
            have nx1 := s12.next
            have nx3 := s3.next
            have nx4 := s4.next
            have nx5 := s5.next
            have nx0 := L.same.next
            have nn : (h3.new ⟨[I (layF f (partL l i) (C ++ (kidsF (layF f) l C.length i).2).length).1], 1, 1, true, false⟩).next = h3.next + 1 := rfl
            refine ⟨degN l.length - (i + 1), by omega, i + 1, rfl, ⟨by simp only [look_put, ite_false, Nat.reduceEqDiff, L.t0], by simp only [look_put, ite_false, Nat.reduceEqDiff, L.t1], by simp only [look_put, ite_false, Nat.reduceEqDiff, L.t5], by simp only [look_put, ite_false, Nat.reduceEqDiff, L.t32], by simp only [look_put, ite_true, ite_false, Nat.reduceEqDiff], by omega, ⟨uk2, uc', u3, c3, ?_, by simp only [look_put, ite_true, ite_false, Nat.reduceEqDiff], ?_, ?_, ?_, by omega, ?_, ?_, ?_, ?_⟩, sk5⟩⟩
            · simp only [look_put, ite_true, ite_false, Nat.reduceEqDiff, t6] <;> rfl
            · refine (ok2.same s3 (fun y hy hs => hs.elim (fun e => ?_) (fun e => (gk2 y hy).2 e))).same t5 (fun y hy e => ?_)
              · have := (gk2 y hy).1; omega
              · exact (gck y e).elim hy
            · have e : (kidsF (layF f) l C.length (i + 1)).1.map I = (kidsF (layF f) l C.length i).1.map I ++ [I (layF f (partL l i) (C ++ (kidsF (layF f) l C.length i).2).length).1] := by
                simp only [kidsF, List.map_append, List.map_cons, List.map_nil, hCi]
              rw [e]; exact oc5
            · have e : C ++ (kidsF (layF f) l C.length (i + 1)).2 = C ++ (kidsF (layF f) l C.length i).2 ++ (layF f (partL l i) (C ++ (kidsF (layF f) l C.length i).2).length).2 := by
                simp only [kidsF, hCi, List.append_assoc]
              rw [e]
              exact m3.same t5 (fun e => by have := (gc b e).1; omega) (fun y hy e => by
                have h1 := gc y e
                rcases n3 y hy with e2 | e2
                · exact h1.2.1 e2
                · have := cn y e; omega)
            · simp only [kidsF, List.length_append]
              have e := layF_len f (partL l i) (C.length + (kidsF (layF f) l C.length i).2.length) (by omega) (by omega)
              rw [e]; omega
            · intro y hy
              rcases n3 y hy with e2 | e2
              · exact hu' y e2
              · exact .inr (by omega)
            · intro y hy
              refine ⟨(gk2 y hy).1, fun e => ?_⟩
              rcases n3 y e with e2 | e2
              · exact (gk2 y hy).2 e2
              · have := kn y hy; omega
            · intro y hy
              rcases n5 y hy with e | e
              · refine ⟨(gc y e).1, fun e1 => ?_, fun e1 => (gck y e).elim e1⟩
                rcases n3 y e1 with e2 | e2
                · exact (gc y e).2.1 e2
                · have := cn y e; omega
              · refine ⟨by omega, fun e1 => ?_, fun e1 => ?_⟩
                · have := un3 y e1; omega
                · have := kn y e1; omega
        · have hi : i = degN l.length := by have := L.le; omega
          subst hi
          have ci : ((degN l.length : Int) < degN l.length) = False := by simp
          have eK : (keysF l (degN l.length)).length = degN l.length - 1 := keysF_len l _
          have eW : (kidsF (layF f) l C.length (degN l.length)).1.length = degN l.length := kidsF_one _ _ _ _
          have d2 := pn.deg2
          have d11 := pn.deg11
          refine cwf_cw ?_
          simp only [cwf_seq, cwf_ops, c_false, cwf_exit, andThen_normal, andThen_exit, blockQ_exit, roundQ_exit, owf_nil, o_p, owf_call, bo_eq, optQ_some, pop, popQ, ev, evs, putA, look_put, isB_false, abinF_eq, abin, decide_true, decide_false, cond_true, ite_true, ite_false, Bool.not_false, Nat.reduceEqDiff, L.t33, L.t32, ci, L.t0, L.t5, t6, t7]
          obtain ⟨y, rfl⟩ : ∃ y, uk = some y := by
            cases hk : uk with
            | none => have := ok.non hk; omega
            | some y => exact ⟨y, rfl⟩
          obtain ⟨w, rfl⟩ : ∃ y, uc = some y := by
            cases hk : uc with
            | none => have := oc.non hk; omega
            | some y => exact ⟨y, rfl⟩
          obtain ⟨v1, k1, F1, x1, hx1, rfl, r1, s1⟩ := inner_spec hT H (h := h') (uk := y) (uc := w) (n := (l.length : Int)) (K := keysF l (degN l.length)) (W := (kidsF (layF f) l C.length (degN l.length)).1) (by rw [eK]; exact ok) (by rw [eW]; exact oc) (fun e => by rw [e] at eK; simp at eK; omega) (by omega) (by omega)
          rw [eK, eW] at F1
          refine ⟨_, _, F1, ?_⟩
          simp only [owf_call, behind_eq, ev, evs, putA, look_put, ite_true, ite_false, Nat.reduceEqDiff]
          have mm1 := mm.same s1 (fun x => x) (fun _ _ x => x)
          have hws : ([((kidsF (layF f) l C.length (degN l.length)).1.length : Int), (l.length : Int), 0, 0, 0] ++ keysF l (degN l.length) ++ (kidsF (layF f) l C.length (degN l.length)).1).length = 5 + (degN l.length - 1) + degN l.length := by simp only [List.length_append, List.length_cons, List.length_nil, keysF_len, kidsF_one]
          have hCl : (C ++ (kidsF (layF f) l C.length (degN l.length)).2).length = C.length + (kidsF (layF f) l C.length (degN l.length)).2.length := by simp
          have hlt := L.same.next
          obtain ⟨v2, k2, F2, rfl, ⟨u2, m2, n2⟩, s2⟩ := made_spec hT H (k := 3) mm1 r1 (fun e => by omega) (by simp) (by rw [hws, hCl]; omega) hz ⟨by omega, by omega⟩ (by omega) (by omega)
          refine ⟨_, _, F2, ?_⟩
          simp only [cwf_ret, andThen_normal, fnQ_ret, owf_nil, o_p, behind_eq, bo_eq, optQ_some, pop, popQ, ev, putA, look_put, resAll, resA, mkRes1, ite_true, ite_false, Nat.reduceEqDiff, Option.some.injEq, exists_eq_left']
          have s3 : Same h k2 (fun j => j = b ∨ u = some j) := (L.same.trans s1 (fun _ _ x => x.elim)).trans s2 (fun j hj hs => hs.elim .inl (fun e => by
            rcases hu' j e with e2 | e2
            · exact .inr e2
            · omega))
          rw [tail_marks h k2 s3.marks]
          refine ⟨by rw [hCl], ⟨u2, c' + 1, ?_, by omega, by omega, fun y hy => ?_⟩, s3⟩
          · rw [List.append_assoc] at m2
            rw [eW] at m2
            exact m2
          · rcases n2 y hy with e | e
            · exact hu' y e
            · exact .inr (Nat.le_trans L.same.next (Nat.le_trans s1.next e))
      · refine ⟨by simp only [look_put, ite_true, ite_false, Nat.reduceEqDiff], by simp only [look_put, ite_true, ite_false, Nat.reduceEqDiff], by simp only [look_put, ite_true, ite_false, Nat.reduceEqDiff], by simp only [look_put, ite_true, ite_false, Nat.reduceEqDiff], by simp only [look_put, Int.cast_ofNat_Int, ite_true, ite_false, Nat.reduceEqDiff] <;> rfl, Nat.zero_le _, ⟨none, none, u, c, by simp only [look_put, Nat.reduceSub, ite_true, ite_false, Nat.reduceEqDiff] <;> rfl, by simp only [look_put, ite_true, ite_false, Nat.reduceEqDiff] <;> rfl, OwnAt.nil _ _, OwnAt.nil _ _, by simpa [kidsF] using m, Int.le_refl _, by simp [kidsF], fun y hy => .inl hy, by simp, by simp⟩, Same.refl _ _⟩
    · match l, h1, h2 with
      | [q], _, _ =>
        obtain ⟨v, h', F, rfl, ⟨u', g1, g2⟩, g3⟩ := lay_one hT H m hr (by simpa [cellsN, cellsF] using hroom) hz ⟨hc0, by omega⟩
        exact ⟨_, _, F, rfl, ⟨u', c + 1, g1, by omega, by simp [cellsN, cellsF], g2⟩, g3⟩
      | _ :: _ :: _, _, h2 => simp at h2
end
end
end Go.Proofs.YtpeihcpclcibgaaGreat.Ai
/- What Right, Build, and a memory's questions come to. -/
namespace Go.Proofs.YtpeihcpclcibgaaGreat.Ai
open Go.Proofs.YtpeihcpclcibgaaGreat
noncomputable section
open Go.RowKit

def Asc (l : List Pr) : Prop := ∀ j (h : j + 1 < l.length), l[j].1 < l[j + 1].1

/-- a slice of pairs, to be read -/
def PrAt (h : Heap) (v : Value) (l : List Pr) (u : Option Nat) : Prop :=
  (l = [] ∧ ∃ base cap, v = .slice base 0 cap) ∨ ∃ x p cap, u = some x ∧ v = .slice (some ⟨x, p, none⟩) l.length cap ∧ 1 ≤ l.length ∧ RdAt h x p 2 l.length cap (flat l)

theorem PrAt.same {h h' : Heap} {v : Value} {l : List Pr} {u : Option Nat} {S : Nat → Prop} (a : PrAt h v l u) (s : Same h h' S) (hu : ∀ x, u = some x → ¬ S x) : PrAt h' v l u := by
  rcases a with a | ⟨x, p, cap, e1, e2, e3, e4⟩
  · exact .inl a
  · exact .inr ⟨x, p, cap, e1, e2, e3, e4.same s (hu x e1)⟩

section
variable {P : Program} {tab : Nat → Option AFunc} (hT : TabOk P tab) (H : Has tab)
include hT H

theorem used_spec {h : Heap} {b : Nat} {u : Option Nat} {C : List Int} {z c o r : Int} (m : MemAt h b u C z c o r) : FSpec P 47 [.pointer (some ⟨b, 0, none⟩)] h fun v h' => v = I C.length ∧ h' = h := by
  refine fspec_cwf hT H.f20 rfl ?_
  simp only [af47, cwf_seq, cwf_ops, cwf_ret, andThen_normal, fnQ_ret, owf_nil, o_p, o_r, bo_eq, optQ_some, pop, popQ, rop_load1, ldV_ptr, ev, putA, putArgs, look_put, resAll, resA, mkRes1, Nat.add_zero, cond_false, ite_true, ite_false, Nat.reduceEqDiff, Option.some.injEq, exists_eq_left', and_true, m.rd0]
theorem size_spec {h : Heap} {b : Nat} {u : Option Nat} {C : List Int} {z c o r : Int} (m : MemAt h b u C z c o r) : FSpec P 48 [.pointer (some ⟨b, 0, none⟩)] h fun v h' => v = I z ∧ h' = h := by
  refine fspec_cwf hT H.f62 rfl ?_
  simp only [af48, cwf_seq, cwf_ops, cwf_ret, andThen_normal, fnQ_ret, owf_nil, o_p, o_r, bo_eq, optQ_some, pop, popQ, rop_load1, ldV_ptr, ev, putA, putArgs, look_put, resAll, resA, mkRes1, ite_true, ite_false, Nat.reduceEqDiff, Nat.zero_add, Option.some.injEq, exists_eq_left', and_true, m.rd1]
theorem count_spec {h : Heap} {b : Nat} {u : Option Nat} {C : List Int} {z c o r : Int} (m : MemAt h b u C z c o r) : FSpec P 31 [.pointer (some ⟨b, 0, none⟩)] h fun v h' => v = I c ∧ h' = h := by
  refine fspec_cwf hT H.f38 rfl ?_
  simp only [af31, cwf_seq, cwf_ops, cwf_ret, andThen_normal, fnQ_ret, owf_nil, o_p, o_r, bo_eq, optQ_some, pop, popQ, rop_load1, ldV_ptr, ev, putA, putArgs, look_put, resAll, resA, mkRes1, ite_true, ite_false, Nat.reduceEqDiff, Nat.zero_add, Option.some.injEq, exists_eq_left', and_true, m.rd2]
theorem odd_spec {h : Heap} {b : Nat} {u : Option Nat} {C : List Int} {z c o r : Int} (m : MemAt h b u C z c o r) : FSpec P 28 [.pointer (some ⟨b, 0, none⟩)] h fun v h' => v = I o ∧ h' = h := by
  refine fspec_cwf hT H.f40 rfl ?_
  simp only [af28, cwf_seq, cwf_ops, cwf_ret, andThen_normal, fnQ_ret, owf_nil, o_p, o_r, bo_eq, optQ_some, pop, popQ, rop_load1, ldV_ptr, ev, putA, putArgs, look_put, resAll, resA, mkRes1, ite_true, ite_false, Nat.reduceEqDiff, Nat.zero_add, Option.some.injEq, exists_eq_left', and_true, m.rd3]
theorem refused_spec {h : Heap} {b : Nat} {u : Option Nat} {C : List Int} {z c o r : Int} (m : MemAt h b u C z c o r) : FSpec P 43 [.pointer (some ⟨b, 0, none⟩)] h fun v h' => v = I r ∧ h' = h := by
  refine fspec_cwf hT H.f37 rfl ?_
  simp only [af43, cwf_seq, cwf_ops, cwf_ret, andThen_normal, fnQ_ret, owf_nil, o_p, o_r, bo_eq, optQ_some, pop, popQ, rop_load1, ldV_ptr, ev, putA, putArgs, look_put, resAll, resA, mkRes1, ite_true, ite_false, Nat.reduceEqDiff, Nat.zero_add, Option.some.injEq, exists_eq_left', and_true, m.rd4]

theorem new_spec (h : Heap) (z : Int) (h1 : 1 ≤ z) (h2 : z ≤ 65536) : FSpec P 62 [I z] h fun v h' => v = .tuple #[.pointer (some ⟨h.next, 0, none⟩), I 0] ∧ MemAt h' h.next none [] z 0 0 0 ∧ Same h h' (fun _ => False) := by
  refine fspec_cwf hT H.f14 rfl ?_
  have c1 : (z < 1) = False := by simp; omega
  have c2 : (z > 65536) = False := by simp; omega
  simp only [af62, cwf_seq, cwf_ops, cwf_ret, c_false, cwf_skip, andThen_normal, fnQ_ret, owf_nil, o_p, o_e, o_on, behind_eq, bo_eq, optQ_some, opt2_some, pop, popQ, ev, putA, putArgs, look_put, isB_false, abinF_eq, abin, resAll, resA, mkRes2, eop_box, boxV5, evP_nil, evP_cons, fillA_nil, fillA_one, List.length_cons, List.length_nil, List.set_cons_zero, List.set_cons_succ, Nat.reduceLT, scalar_int, decide_true, decide_false, cond_true, cond_false, ite_true, ite_false, Bool.not_false, Nat.reduceEqDiff, Nat.reduceAdd, Nat.zero_add, Option.some.injEq, exists_eq_left', true_and, c1, c2]
  exact ⟨⟨by rw [new_get]; exact if_pos rfl, fun x hx => (by cases hx), fun _ => rfl, Nat.lt_succ_self _⟩, Same.new⟩

theorem cut_spec (h : Heap) (n k : Int) (k0 : 0 < k) (k1 : k < 1000000) : FSpec P 17 [I n, I k] h fun v h' => v = I (n % k) ∧ h' = h := by
  refine fspec_cwf hT H.f24 rfl ?_
  have ck : (k = 0) = False := by simp; omega
  have em := Int.emod_nonneg n (show k ≠ 0 by omega)
  have el := Int.emod_lt_of_pos n k0
  have hk := tmod_cases n k k0
  by_cases hm : n.tmod k < 0
  · have e : n.tmod k + k = n % k := by omega
    have w : wrapF .i64 (n % k) = n % k := wrapI (by omega) (by omega)
    simp only [af17, cwf_seq, cwf_ops, cwf_ret, c_true, andThen_normal, fnQ_ret, owf_nil, o_p, bo_eq, optQ_some, pop, popQ, ev, putA, putArgs, look_put, isB_true, abinF_eq, abin, resAll, resA, mkRes1, decide_true, decide_false, cond_true, cond_false, ite_true, ite_false, Nat.reduceEqDiff, Nat.zero_add, Option.some.injEq, exists_eq_left', and_true, ck, hm, e, w]
  · have e : n.tmod k = n % k := by omega
    simp only [af17, cwf_seq, cwf_ops, cwf_ret, c_false, cwf_skip, andThen_normal, fnQ_ret, owf_nil, o_p, bo_eq, optQ_some, pop, popQ, ev, putA, putArgs, look_put, isB_false, abinF_eq, abin, resAll, resA, mkRes1, decide_true, decide_false, cond_true, cond_false, ite_true, ite_false, Bool.not_false, Nat.reduceEqDiff, Nat.zero_add, Option.some.injEq, exists_eq_left', and_true, ck, hm]
    rw [e]

theorem right_spec {h : Heap} {v : Value} {l : List Pr} {u : Option Nat} (a : PrAt h v l u) (hl : l.length < 1000000) : FSpec P 99 [v] h fun v h' => (v = .bool true ∧ Asc l ∧ l.length ≤ 16384 ∨ v = .bool false ∧ ¬ (Asc l ∧ l.length ≤ 16384)) ∧ h' = h := by
  refine fspec_cwf hT H.f30 rfl ?_
  rcases a with ⟨rfl, base, cap, rfl⟩ | ⟨x, p, cap, rfl, rfl, hpos, hr⟩
  · simp only [af99, cwf_seq, cwf_ops, cwf_block, cwf_loop, andThen_normal, owf_nil, o_p, bo_eq, optQ_some, pop, popQ, ev, putA, putArgs, List.length_nil]
    refine cw_lw (lw_step ?_)
    simp only [cwf_seq, cwf_ops, cwf_ret, c_false, cwf_exit, andThen_normal, andThen_exit, blockQ_exit, lwQ_exit, fnQ_ret, owf_nil, o_p, bo_eq, optQ_some, pop, popQ, ev, putA, look_put, isB_false, abinF_eq, abin, resAll, resA, mkRes1, Int.reduceLT, Int.reduceLE, Int.cast_ofNat_Int, decide_true, decide_false, cond_true, cond_false, ite_true, ite_false, Bool.not_false, Nat.reduceEqDiff, Option.some.injEq, exists_eq_left', true_and, and_true]
    exact .inl ⟨fun j hj => by simp at hj, by simp⟩
  · simp only [af99, cwf_seq, cwf_ops, cwf_block, cwf_loop, andThen_normal, owf_nil, o_p, bo_eq, optQ_some, pop, popQ, ev, putA, putArgs]
    refine cw_loop (fun k ts h' => ∃ i : Nat, k = l.length - i ∧ 1 ≤ i ∧ i ≤ l.length ∧ h' = h ∧ look ts 0 = .slice (some ⟨x, p, none⟩) l.length cap ∧ look ts 3 = I i ∧ ∀ j (hj : j + 1 < l.length), j + 1 < i → l[j].1 < l[j + 1].1) ?_ (n := l.length - 1) ⟨1, rfl, Nat.le_refl _, hpos, rfl, by simp only [look_put, ite_true, ite_false, Nat.reduceEqDiff], by simp only [look_put, Int.cast_ofNat_Int, ite_true, ite_false, Nat.reduceEqDiff] <;> rfl, fun j hj h1 => by omega⟩
    rintro k ts h' ⟨i, rfl, i1, i2, rfl, t0, t3, hasc⟩
    refine cwf_cw ?_
    by_cases hi : i < l.length
    · have ci : ((i : Int) < l.length) = True := by simp [hi]
      have w1 : wrapF .i64 ((i : Int) - 1) = ((i - 1 : Nat) : Int) := by rw [wrapI] <;> omega
      have wi : wrapF .i64 ((i : Int) + 1) = ((i + 1 : Nat) : Int) := by rw [wrapI] <;> omega
      have c2 : (((i - 1 : Nat) : Int) < l.length) = True := by simp; omega
      have r1 : h'.rd x (p + i * 2) = some (I l[i].1) := by rw [hr.rd (by omega)]; exact flat_key l i hi
      have r2 : h'.rd x (p + (i - 1) * 2) = some (I l[i - 1].1) := by rw [hr.rd (by omega)]; exact flat_key l (i - 1) (by omega)
      simp only [cwf_seq, cwf_ops, c_true, cwf_skip, cwf_block, cwf_draw, andThen_normal, owf_nil, o_p, bo_eq, bd_eq, optQ_some, d_p, d_r, pop, popQ, rop_load1, ldV_ptr, ev, putA, look_put, isB_true, abinF_eq, abin, Int.toNat_natCast, Int.natCast_nonneg, Nat.add_zero, inB_eq, decide_true, cond_true, cond_false, ite_true, ite_false, Bool.and_true, Nat.reduceEqDiff, t0, t3, ci]
      refine ⟨cf00, cf00_ok, ?_⟩
      by_cases hc : l[i].1 ≤ l[i - 1].1
      · simp only [cwf_seq, cwf_ops, cwf_ret, c_true, andThen_normal, andThen_ret, blockQ_ret, roundQ_ret, fnQ_ret, owf_nil, o_p, bo_eq, bd_eq, optQ_some, dwf_nil, d_p, d_r, pop, popQ, rop_load1, ldV_ptr, ev, putA, look_put, isB_true, abinF_eq, abin, resAll, resA, mkRes1, Int.toNat_natCast, Int.natCast_nonneg, Nat.add_zero, inB_eq, decide_true, cond_true, ite_true, ite_false, Bool.and_true, Nat.reduceEqDiff, Option.some.injEq, exists_eq_left', true_and, and_true, t0, t3, w1, c2, r1, r2, hc]
        refine .inr (fun ha => ?_)
        have := ha.1 (i - 1) (by omega)
        have e : i - 1 + 1 = i := by omega
        simp only [e] at this
        omega
      · simp only [cwf_ops, c_false, cwf_skip, andThen_normal, blockQ_normal, roundQ_normal, owf_nil, o_p, bo_eq, bd_eq, optQ_some, dwf_nil, d_p, d_r, pop, popQ, rop_load1, ldV_ptr, ev, putA, look_put, isB_false, abinF_eq, abin, Int.toNat_natCast, Int.natCast_nonneg, Nat.add_zero, inB_eq, decide_true, decide_false, cond_true, ite_true, ite_false, Bool.and_true, Bool.not_false, Nat.reduceEqDiff, true_and, t0, t3, w1, c2, r1, r2, hc, wi]
        refine ⟨l.length - (i + 1), by omega, i + 1, rfl, by omega, by omega, rfl, fun j hj hji => ?_⟩
        by_cases hj2 : j + 1 < i
        · exact hasc j hj hj2
        · have e : j = i - 1 := by omega
          subst e
          have e : i - 1 + 1 = i := by omega
          simp only [e]
          omega
    · have ci : ((i : Int) < l.length) = False := by simp; omega
      have ha : Asc l := fun j hj => hasc j hj (by omega)
      by_cases hb : (l.length : Int) ≤ 16384
      · simp only [cwf_seq, cwf_ops, cwf_ret, c_false, cwf_exit, andThen_normal, andThen_exit, blockQ_exit, roundQ_exit, fnQ_ret, owf_nil, o_p, bo_eq, optQ_some, pop, popQ, ev, putA, look_put, isB_false, abinF_eq, abin, resAll, resA, mkRes1, decide_true, decide_false, cond_true, cond_false, ite_true, ite_false, Bool.not_false, Nat.reduceEqDiff, Option.some.injEq, exists_eq_left', true_and, and_true, t0, t3, ci, hb]
        exact .inl ⟨ha, by omega⟩
      · simp only [cwf_seq, cwf_ops, cwf_ret, c_false, cwf_exit, andThen_normal, andThen_exit, blockQ_exit, roundQ_exit, fnQ_ret, owf_nil, o_p, bo_eq, optQ_some, pop, popQ, ev, putA, look_put, isB_false, abinF_eq, abin, resAll, resA, mkRes1, decide_true, decide_false, cond_true, cond_false, ite_true, ite_false, Bool.not_false, Nat.reduceEqDiff, Option.some.injEq, exists_eq_left', true_and, and_true, t0, t3, ci, hb]
        exact .inr (fun hx => by omega)
end
end
end Go.Proofs.YtpeihcpclcibgaaGreat.Ai
/- What Build, Place, Put and Pairs come to. -/
namespace Go.Proofs.YtpeihcpclcibgaaGreat.Ai
open Go.Proofs.YtpeihcpclcibgaaGreat
noncomputable section
open Go.RowKit

theorem PrAt.len {h : Heap} {v : Value} {l : List Pr} {u : Option Nat} (a : PrAt h v l u) : ∃ base cap, v = .slice base l.length cap := by
  rcases a with ⟨rfl, base, cap, rfl⟩ | ⟨x, p, cap, _, rfl, _, _⟩
  · exact ⟨_, _, rfl⟩
  · exact ⟨_, _, rfl⟩

section
variable {P : Program} {tab : Nat → Option AFunc} (hT : TabOk P tab) (H : Has tab)
include hT H

theorem place_spec {h : Heap} {v : Value} {l : List Pr} {u : Option Nat} (a : PrAt h v l u) (hl : l.length < 1000000) (k : Int) : FSpec P 114 [v, I k] h fun v h' => (∃ n : Nat, v = I n ∧ n ≤ l.length ∧ (∀ j (hj : j < l.length), j < n → l[j].1 < k) ∧ ∀ hn : n < l.length, ¬ l[n].1 < k) ∧ h' = h := by
  refine fspec_cwf hT H.f104 rfl ?_
  rcases a with ⟨rfl, base, cap, rfl⟩ | ⟨x, p, cap, rfl, rfl, hpos, hr⟩
  · simp only [af114, cwf_seq, cwf_ops, cwf_block, cwf_loop, andThen_normal, owf_nil, o_p, bo_eq, optQ_some, pop, popQ, ev, putA, putArgs, List.length_nil, Nat.zero_add]
    refine cw_lw (lw_step ?_)
    simp only [cwf_seq, cwf_ops, cwf_ret, c_false, cwf_exit, andThen_normal, andThen_exit, blockQ_exit, lwQ_exit, fnQ_ret, owf_nil, o_p, o_off, bo_eq, optQ_some, pop, popQ, ev, putA, look_put, isB_true, isB_false, abinF_eq, abin, resAll, resA, mkRes1, Int.reduceLT, Int.cast_ofNat_Int, decide_true, decide_false, cond_true, cond_false, ite_true, ite_false, Bool.not_false, Nat.reduceEqDiff, Option.some.injEq, exists_eq_left', and_true]
    exact ⟨0, rfl, Nat.le_refl _, fun j hj => by simp at hj, fun hn => by simp at hn⟩
  · simp only [af114, cwf_seq, cwf_ops, cwf_block, cwf_loop, andThen_normal, owf_nil, o_p, bo_eq, optQ_some, pop, popQ, ev, putA, putArgs, Nat.zero_add]
    refine cw_loop (fun m ts h' => ∃ i : Nat, m = l.length - i ∧ i ≤ l.length ∧ h' = h ∧ look ts 0 = .slice (some ⟨x, p, none⟩) l.length cap ∧ look ts 1 = I k ∧ look ts 5 = I i ∧ ∀ j (hj : j < l.length), j < i → l[j].1 < k) ?_ (n := l.length) ⟨0, rfl, Nat.zero_le _, rfl, by simp only [look_put, ite_true, ite_false, Nat.reduceEqDiff], by simp only [look_put, ite_true, ite_false, Nat.reduceEqDiff], by simp only [look_put, Int.cast_ofNat_Int, ite_true, ite_false, Nat.reduceEqDiff] <;> rfl, fun j hj h1 => by omega⟩
    rintro m ts h' ⟨i, rfl, i2, rfl, t0, t1, t5, hk⟩
    refine cwf_cw ?_
    by_cases hi : i < l.length
    · have ci : ((i : Int) < l.length) = True := by simp [hi]
      have wi : wrapF .i64 ((i : Int) + 1) = ((i + 1 : Nat) : Int) := by rw [wrapI] <;> omega
      have r1 : h'.rd x (p + i * 2) = some (I l[i].1) := by rw [hr.rd (by omega)]; exact flat_key l i hi
      by_cases hc : l[i].1 < k
      · simp only [cwf_seq, cwf_ops, c_true, cwf_skip, cwf_block, andThen_normal, blockQ_normal, roundQ_normal, owf_nil, o_p, o_r, o_on, bo_eq, optQ_some, pop, popQ, rop_load1, ldV_ptr, ev, putA, look_put, isB_true, abinF_eq, abin, Int.toNat_natCast, Int.natCast_nonneg, Nat.add_zero, inB_eq, decide_true, cond_true, cond_false, ite_true, ite_false, Bool.and_true, Nat.reduceEqDiff, true_and, t0, t1, t5, ci, r1, hc, wi]
        refine ⟨l.length - (i + 1), by omega, i + 1, rfl, by omega, rfl, fun j hj hji => ?_⟩
        by_cases hj2 : j < i
        · exact hk j hj hj2
        · have e : j = i := by omega
          subst e; exact hc
      · simp only [cwf_seq, cwf_ops, cwf_ret, c_false, cwf_exit, andThen_normal, andThen_exit, blockQ_exit, roundQ_exit, fnQ_ret, owf_nil, o_p, o_r, o_on, bo_eq, optQ_some, pop, popQ, rop_load1, ldV_ptr, ev, putA, look_put, isB_true, isB_false, abinF_eq, abin, resAll, resA, mkRes1, Int.toNat_natCast, Int.natCast_nonneg, Nat.add_zero, inB_eq, decide_true, decide_false, cond_true, cond_false, ite_true, ite_false, Bool.and_true, Bool.not_false, Nat.reduceEqDiff, Option.some.injEq, exists_eq_left', and_true, t0, t1, t5, ci, r1, hc]
        exact ⟨i, rfl, i2, hk, fun _ => hc⟩
    · have ci : ((i : Int) < l.length) = False := by simp; omega
      simp only [cwf_seq, cwf_ops, cwf_ret, c_false, cwf_exit, andThen_normal, andThen_exit, blockQ_exit, roundQ_exit, fnQ_ret, owf_nil, o_p, o_off, bo_eq, optQ_some, pop, popQ, ev, putA, look_put, isB_true, isB_false, abinF_eq, abin, resAll, resA, mkRes1, decide_true, decide_false, cond_true, cond_false, ite_true, ite_false, Bool.not_false, Nat.reduceEqDiff, Option.some.injEq, exists_eq_left', and_true, t0, t5, ci]
      exact ⟨i, rfl, i2, hk, fun hn => absurd hn hi⟩

omit hT H in
/-- a list's parts, and one between -/
theorem put_asc {l : List Pr} {k x : Int} {n n' : Nat} (ha : Asc l) (h1 : ∀ j (hj : j < l.length), j < n → l[j].1 < k) (hn : n ≤ l.length) (h2 : ∀ j (hj : j < l.length), n' ≤ j → k < l[j].1) : Asc (l.take n ++ [(k, x)] ++ l.drop n') := by
  intro j hj
  have hlen : (l.take n ++ [(k, x)] ++ l.drop n').length = n + 1 + (l.length - n') := by simp; omega
  rw [hlen] at hj
  have key : ∀ i (hi : i < (l.take n ++ [(k, x)] ++ l.drop n').length), (l.take n ++ [(k, x)] ++ l.drop n')[i]? = if i < n then l[i]? else if i = n then some (k, x) else l[n' + (i - (n + 1))]? := by
    intro i hi
    rw [List.append_assoc, List.getElem?_append]
    have hm : (l.take n).length = n := by simp; omega
    rw [hm]
    by_cases c1 : i < n
    · rw [if_pos c1, if_pos c1, List.getElem?_take, if_pos c1]
    · rw [if_neg c1, if_neg c1]
      by_cases c2 : i = n
      · subst c2; simp
      · rw [if_neg c2, List.getElem?_append_right (by simp; omega), List.getElem?_drop]
        congr 1
  have e1 := key j (by rw [hlen]; omega)
  have e2 := key (j + 1) (by rw [hlen]; omega)
  rw [List.getElem?_eq_getElem (by rw [hlen]; omega)] at e1 e2
  by_cases c1 : j + 1 < n
  · rw [if_pos (by omega), List.getElem?_eq_getElem (by omega)] at e1
    rw [if_pos c1, List.getElem?_eq_getElem (by omega)] at e2
    rw [Option.some.inj e1, Option.some.inj e2]
    exact ha j (by omega)
  · by_cases c2 : j + 1 = n
    · rw [if_pos (by omega), List.getElem?_eq_getElem (by omega)] at e1
      rw [if_neg c1, if_pos c2] at e2
      rw [Option.some.inj e1, Option.some.inj e2]
      exact h1 j (by omega) (by omega)
    · by_cases c3 : j = n
      · rw [if_neg (by omega), if_pos c3] at e1
        rw [if_neg c1, if_neg c2, List.getElem?_eq_getElem (by omega)] at e2
        rw [Option.some.inj e1, Option.some.inj e2]
        exact h2 _ (by omega) (by omega)
      · rw [if_neg (by omega), if_neg c3, List.getElem?_eq_getElem (by omega)] at e1
        rw [if_neg c1, if_neg c2, List.getElem?_eq_getElem (by omega)] at e2
        rw [Option.some.inj e1, Option.some.inj e2]
        have e : n' + (j + 1 - (n + 1)) = n' + (j - (n + 1)) + 1 := by omega
        simp only [e]
        exact ha _ (by omega)

omit hT H in
theorem asc_lt {l : List Pr} (ha : Asc l) : ∀ (i j : Nat) (hi : i < j) (hj : j < l.length), l[i].1 < l[j].1 := by
  intro i j hi
  induction j with
  | zero => omega
  | succ j ih =>
    intro hj
    have h1 := ha j hj
    by_cases c : i = j
    · subst c; exact h1
    · have := ih (by omega) (by omega)
      omega

omit hT H in
theorem flat_app : ∀ (a b : List Pr), flat (a ++ b) = flat a ++ flat b
  | [], b => rfl
  | p :: a, b => by simp [flat, flat_app a b]

omit hT H in
theorem flat_scalar : ∀ (l : List Pr), (flat l).all scalar = true
  | [] => rfl
  | p :: l => by simp [flat, scalar, flat_scalar l]

theorem put_spec {h : Heap} {u : Option Nat} {l : List Pr} (o : OwnAt h u 2 l.length (flat l)) (ha : Asc l) (hl : l.length < 10000) (k x : Int) :
    FSpec P 66 [ownSl u l.length, I k, I x] h fun v h' => (∃ l' y, v = ownSl (some y) l'.length ∧ OwnAt h' (some y) 2 l'.length (flat l') ∧ Asc l' ∧ l'.length ≤ l.length + 1 ∧ h.next ≤ y) ∧ Same h h' (fun _ => False) := by
  refine fspec_cwf hT H.f67 rfl ?_
  have pa : PrAt h (ownSl u l.length) l u := by
    cases u with
    | none => have := o.non rfl; exact .inl ⟨List.eq_nil_of_length_eq_zero this, none, 0, by rw [this]; rfl⟩
    | some y => exact .inr ⟨y, 0, l.length, rfl, rfl, (o.use y rfl).2.2, o.rd⟩
  obtain ⟨v0, h0, F0, ⟨n, rfl, hn, hlt, hge⟩, rfl⟩ := place_spec hT H pa (by omega) k
  simp only [af66, cwf_seq, cwf_ops, andThen_normal, owf_nil, o_p, owf_call, bo_eq, optQ_some, pop, popQ, ev, evs, putA, putArgs, look_put, ite_true, ite_false, Nat.reduceEqDiff, Nat.reduceAdd, Nat.zero_add]
  refine ⟨_, _, F0, ?_⟩
  simp only [cwf_seq, cwf_ops, andThen_normal, owf_nil, o_p, o_r, o_e, behind_eq, bo_eq, optQ_some, opt2_some, pop, popQ, rop_slice, ev, evO, putA, look_put, eop_buildS, bldS_some, evP_nil, fillA_nil, Nat.zero_mul, ite_true, ite_false, Nat.reduceEqDiff]
  generalize hh1 : h0.new ⟨[], 0, 2, true, false⟩ = h1
  have s1 : Same h0 h1 (fun _ => False) := hh1 ▸ Same.new
  have e1 : h1.blks.get h0.next = some ⟨[], 0, 2, true, false⟩ := hh1 ▸ (by rw [new_get]; exact if_pos rfl)
  have l1 : h1.next = h0.next + 1 := hh1 ▸ rfl
  have o1 := o.same s1 (fun _ _ x => x)
  obtain ⟨v1, a1, b1⟩ := o1.to hn
  obtain ⟨v2, h2, z2, a2, m2, s2, z2e, _⟩ := app_empty (bytes := 16) e1 (by omega) b1 (by simp [flat_len]; omega) (List.all_eq_true.2 fun y hy => List.all_eq_true.1 (flat_scalar l) y (List.mem_of_mem_take hy)) (by omega) (by omega) (by omega)
  have hcell : RdAt (h2.new ⟨[I k, I x], 2, 2, true, false⟩) h2.next 0 2 1 1 [I k, I x] := RdAt.fresh h2 [I k, I x] 1 2 true false rfl
  generalize hh3 : h2.new ⟨[I k, I x], 2, 2, true, false⟩ = h3 at hcell
  have s3 : Same h2 h3 (fun _ => False) := hh3 ▸ Same.new
  obtain ⟨z4, h4, a4, o4, s4, z4e⟩ := app_mid (bytes := 16) (m2.same s3 (fun x => x)) hcell.src rfl rfl (by omega) (by omega) (by omega) (by omega)
  have n2 := s2.next
  have n3 := s3.next
  have n4 := s4.next
  have zf : h0.next ≤ z2 := by omega
  have zf4 : h0.next ≤ z4 := by omega
  have sa : Same h0 h3 (fun _ => False) := (s1.trans s2 (fun _ _ x => x)).trans s3 (fun _ _ x => x)
  have sb : Same h0 h4 (fun _ => False) := sa.trans s4 (fun j hj e => by omega)
  have ob := o.same sb (fun _ _ x => x)
  have fin : ∀ n', n ≤ n' → n' ≤ l.length → (∀ j (hj : j < l.length), n' ≤ j → k < l[j].1) → ∃ v5, slV h4 2 (ownSl u l.length) (some (I n')) none = some v5 ∧ ∃ u6 h6, appV h4 2 16 (ownSl (some z4) (n + 1)) v5 = some (ownSl u6 (n + 1 + (l.length - n')), h6) ∧
      (∃ l' y, ownSl u6 (n + 1 + (l.length - n')) = ownSl (some y) l'.length ∧ OwnAt h6 (some y) 2 l'.length (flat l') ∧ Asc l' ∧ l'.length ≤ l.length + 1 ∧ h0.next ≤ y) ∧ Same h0 h6 (fun _ => False) := by
    intro n' hn1 hn2 hgt
    obtain ⟨v5, a5, b5⟩ := ob.from hn2
    obtain ⟨u6, h6, a6, o6, s6, u6e⟩ := app_own (bytes := 16) o4 b5 (by simp [flat_len]; omega) (List.all_eq_true.2 fun y hy => List.all_eq_true.1 (flat_scalar l) y (List.mem_of_mem_drop hy)) (by omega) (by omega) (by omega)
    refine ⟨v5, a5, u6, h6, a6, ?_, sb.trans s6 (fun j hj e => by cases e; omega)⟩
    cases hu : u6 with
    | none => have := o6.non hu; omega
    | some y =>
      rw [hu] at o6
      have e : (l.take n ++ [(k, x)] ++ l.drop n').length = n + 1 + (l.length - n') := by simp; omega
      have ef : flat (l.take n ++ [(k, x)] ++ l.drop n') = (flat l).take (n * 2) ++ [I k, I x] ++ (flat l).drop (n' * 2) := by rw [flat_app, flat_app, flat_take, flat_drop]; rfl
      refine ⟨l.take n ++ [(k, x)] ++ l.drop n', y, by rw [e], by rw [e, ef]; exact o6, put_asc ha hlt hn hgt, by rw [e]; omega, ?_⟩
      rcases u6e y hu with e2 | e2
      · cases e2; omega
      · omega
  have wn : wrapF .i64 ((n : Int) + 1) = ((n + 1 : Nat) : Int) := by rw [wrapI] <;> omega
  simp only [cwf_seq, cwf_ops, andThen_normal, owf_nil, o_p, o_e, behind_eq, bo_eq, optQ_some, opt2_some, pop, popQ, ev, putA, look_put, abinF_eq, abin, eop_app, eop_buildS, bldS_some, evP_nil, evP_cons, fillA_nil, fillA_one, fillA_pair, List.length_cons, List.length_nil, List.set_cons_zero, List.set_cons_succ, Nat.reduceLT, Nat.lt_add_one, scalar_int, decide_true, cond_true, cond_false, ite_true, ite_false, Nat.reduceEqDiff, Nat.reduceAdd, Nat.zero_add, Nat.reduceMul, a1, a2, hh3, a4]
  by_cases c1 : n < l.length
  · have ci : ((n : Int) < l.length) = True := by simp [c1]
    obtain ⟨y, rfl⟩ : ∃ y, u = some y := by
      cases u with
      | none => have := o.non rfl; omega
      | some y => exact ⟨y, rfl⟩
    have rk : h4.rd y (n * 2) = some (I l[n].1) := by
      have := ob.rd.rd (i := n * 2) (by omega)
      rw [Nat.zero_add] at this
      rw [this]; exact flat_key l n c1
    by_cases c2 : l[n].1 = k
    · have c3 : (l[n].1 == k) = true := by rw [c2]; simp
      obtain ⟨v5, a5, u6, h6, a6, hp, s6⟩ := fin (n + 1) (by omega) (by omega) (fun j hj hj2 => by rw [← c2]; exact asc_lt ha n j (by omega) hj)
      simp only [ownSl, Option.map_some] at a5 a6
      simp only [cwf_seq, cwf_ops, cwf_ret, c_true, andThen_normal, fnQ_ret, owf_nil, o_p, o_r, o_e, o_on, behind_eq, bo_eq, optQ_some, opt2_some, pop, popQ, rop_load1, ldV_ptr, rop_slice, ev, evO, putA, look_put, isB_true, abinF_eq, abin, resAll, resA, mkRes1, eop_app, Int.toNat_natCast, Int.natCast_nonneg, Nat.add_zero, inB_eq, decide_true, cond_true, ite_true, ite_false, Bool.and_true, Nat.reduceEqDiff, Nat.zero_add, Option.some.injEq, exists_eq_left', ownSl, Option.map_some, ci, rk, c3, wn, a5, a6]
      rw [tail_marks h0 h6 s6.marks]
      exact ⟨hp, s6⟩
    · have c3 : (l[n].1 == k) = false := by simp [c2]
      have hgt : ∀ j (hj : j < l.length), n ≤ j → k < l[j].1 := fun j hj hj2 => by
        have h1 := hge c1
        by_cases e : j = n
        · subst e; omega
        · have := asc_lt ha n j (by omega) hj; omega
      obtain ⟨v5, a5, u6, h6, a6, hp, s6⟩ := fin n (Nat.le_refl _) hn hgt
      simp only [ownSl, Option.map_some] at a5 a6
      simp only [cwf_seq, cwf_ops, cwf_ret, c_false, cwf_skip, andThen_normal, fnQ_ret, owf_nil, o_p, o_r, o_e, o_on, behind_eq, bo_eq, optQ_some, opt2_some, pop, popQ, rop_load1, ldV_ptr, rop_slice, ev, evO, putA, look_put, isB_true, isB_false, abinF_eq, abin, resAll, resA, mkRes1, eop_app, Int.toNat_natCast, Int.natCast_nonneg, Nat.add_zero, inB_eq, decide_true, cond_true, ite_true, ite_false, Bool.and_true, Bool.not_false, Nat.reduceEqDiff, Nat.zero_add, Option.some.injEq, exists_eq_left', ownSl, Option.map_some, ci, rk, c3, a5, a6]
      rw [tail_marks h0 h6 s6.marks]
      exact ⟨hp, s6⟩
  · have ci : ((n : Int) < l.length) = False := by simp; omega
    obtain ⟨v5, a5, u6, h6, a6, hp, s6⟩ := fin n (Nat.le_refl _) hn (fun j hj hj2 => by omega)
    simp only [cwf_seq, cwf_ops, cwf_ret, c_false, cwf_skip, andThen_normal, fnQ_ret, owf_nil, o_p, o_r, o_e, o_off, behind_eq, bo_eq, optQ_some, opt2_some, pop, popQ, rop_slice, ev, evO, putA, look_put, isB_true, isB_false, resAll, resA, mkRes1, eop_app, decide_false, cond_false, ite_true, ite_false, Bool.not_false, Nat.reduceEqDiff, Option.some.injEq, exists_eq_left', ci, a5, a6]
    rw [tail_marks h0 h6 s6.marks]
    exact ⟨hp, s6⟩

end
end
end Go.Proofs.YtpeihcpclcibgaaGreat.Ai
/- What Pairs comes to. -/
namespace Go.Proofs.YtpeihcpclcibgaaGreat.Ai
open Go.Proofs.YtpeihcpclcibgaaGreat
noncomputable section
open Go.RowKit
section
variable {P : Program} {tab : Nat → Option AFunc} (hT : TabOk P tab) (H : Has tab)
include hT H

theorem pairs_spec {h : Heap} {v : Value} {L : List Int} (a : (L = [] ∧ ∃ base cap, v = .slice base 0 cap) ∨ ∃ x p cap, v = .slice (some ⟨x, p, none⟩) L.length cap ∧ RdAt h x p 1 L.length cap (L.map I)) :
    FSpec P 12 [v] h fun v h' => (∃ l u, v = ownSl u l.length ∧ OwnAt h' u 2 l.length (flat l) ∧ Asc l ∧ l.length ≤ 60 ∧ (∀ y, u = some y → h.next ≤ y)) ∧ Same h h' (fun _ => False) := by
  refine fspec_cwf hT H.f33 rfl ?_
  have hv : ∃ base cap, v = .slice base L.length cap := by
    rcases a with ⟨rfl, base, cap, rfl⟩ | ⟨x, p, cap, rfl, _⟩ <;> exact ⟨_, _, rfl⟩
  simp only [af12, cwf_seq, cwf_ops, cwf_block, cwf_loop, andThen_normal, owf_nil, o_p, bo_eq, optQ_some, pop, popQ, ev, putA, putArgs]
  refine cw_loop (fun m ts h' => ∃ (i : Nat) (l : List Pr) (u : Option Nat), m = 60 - i ∧ i ≤ 60 ∧ l.length ≤ i ∧ look ts 0 = v ∧ look ts 3 = ownSl u l.length ∧ look ts 4 = I i ∧ OwnAt h' u 2 l.length (flat l) ∧ Asc l ∧ (∀ y, u = some y → h.next ≤ y) ∧ Same h h' (fun _ => False)) ?_ (n := 60) ⟨0, [], none, rfl, by omega, by simp, by simp only [look_put, ite_true, ite_false, Nat.reduceEqDiff], by simp only [look_put, List.length_nil, ite_true, ite_false, Nat.reduceEqDiff] <;> rfl, by simp only [look_put, Int.cast_ofNat_Int, ite_true, ite_false, Nat.reduceEqDiff] <;> rfl, OwnAt.nil _ _, fun j hj => by simp at hj, by simp, Same.refl _ _⟩
  rintro m ts h' ⟨i, l, u, rfl, i60, hli, t0, t3, t4, o, hasc, hu, hs⟩
  obtain ⟨base, cap, hv⟩ := hv
  refine cwf_cw ?_
  by_cases c : i < L.length ∧ i < 60
  · obtain ⟨c1, c2⟩ := c
    rcases a with ⟨rfl, _⟩ | ⟨x, p, cap', rfl, hr⟩
    · simp at c1
    cases hv
    have ci : ((i : Int) < L.length) = True := by simp [c1]
    have ci2 : ((i : Int) < 60) = True := by simp; omega
    have rk : h'.rd x (p + i) = some (I L[i]) := by
      rw [(hr.same hs (fun x => x)).rd (by omega)]; simp [c1]
    obtain ⟨v1, h1, F1, rfl, rfl⟩ := cut_spec hT H h' L[i] 97 (by omega) (by omega)
    have em := Int.emod_nonneg L[i] (show (97 : Int) ≠ 0 by omega)
    have el := Int.emod_lt_of_pos L[i] (show (0 : Int) < 97 by omega)
    have w40 : wrapF .i64 (L[i] % 97 - 40) = L[i] % 97 - 40 := wrapI (by omega) (by omega)
    have wi : wrapF .i64 ((i : Int) + 1) = ((i + 1 : Nat) : Int) := by rw [wrapI] <;> omega
    simp only [cwf_seq, cwf_ops, c_true, cwf_skip, cwf_block, andThen_normal, owf_nil, o_p, o_r, owf_call, o_on, bo_eq, optQ_some, pop, popQ, rop_load1, ldV_ptr, ev, evs, putA, look_put, isB_true, abinF_eq, abin, Int.toNat_natCast, Int.natCast_nonneg, Nat.mul_one, inB_eq, decide_true, cond_true, cond_false, ite_true, ite_false, Bool.and_true, Nat.reduceEqDiff, t0, t4, ci, ci2, rk]
    refine ⟨_, _, F1, ?_⟩
    simp only [cwf_ops, andThen_normal, owf_nil, o_p, owf_call, behind_eq, bo_eq, optQ_some, pop, popQ, ev, evs, putA, look_put, abinF_eq, abin, decide_true, cond_true, ite_true, ite_false, Nat.reduceEqDiff, t3, t4, w40]
    obtain ⟨v2, h2, F2, ⟨l', y, rfl, o', hasc', hl', hy⟩, s2⟩ := put_spec hT H o hasc (by omega) (L[i] % 97 - 40) i
    refine ⟨_, _, F2, ?_⟩
    simp only [cwf_ops, andThen_normal, blockQ_normal, roundQ_normal, owf_nil, o_p, behind_eq, bo_eq, optQ_some, pop, popQ, ev, putA, look_put, abinF_eq, abin, decide_true, cond_true, ite_true, ite_false, Nat.reduceEqDiff, true_and, t0, t3, t4, wi]
    have n1 := hs.next
    refine ⟨60 - (i + 1), by omega, i + 1, l', some y, rfl, by omega, by omega, rfl, rfl, o', hasc', fun z hz => by cases hz; omega, hs.trans s2 (fun _ _ x => x)⟩
  · subst hv
    by_cases c1 : i < L.length
    · have ci : ((i : Int) < L.length) = True := by simp [c1]
      have ci2 : ((i : Int) < 60) = False := by simp; omega
      simp only [cwf_seq, cwf_ops, cwf_ret, c_false, cwf_exit, andThen_normal, andThen_exit, blockQ_exit, roundQ_exit, fnQ_ret, owf_nil, o_p, o_on, bo_eq, optQ_some, pop, popQ, ev, putA, look_put, isB_true, isB_false, abinF_eq, abin, resAll, resA, mkRes1, decide_true, decide_false, cond_true, cond_false, ite_true, ite_false, Bool.not_false, Nat.reduceEqDiff, Option.some.injEq, exists_eq_left', t0, t3, t4, ci, ci2]
      rw [tail_marks h h' hs.marks]
      exact ⟨⟨l, u, rfl, o, hasc, by omega, hu⟩, hs⟩
    · have ci : ((i : Int) < L.length) = False := by simp; omega
      simp only [cwf_seq, cwf_ops, cwf_ret, c_false, cwf_exit, andThen_normal, andThen_exit, blockQ_exit, roundQ_exit, fnQ_ret, owf_nil, o_p, o_off, bo_eq, optQ_some, pop, popQ, ev, putA, look_put, isB_true, isB_false, abinF_eq, abin, resAll, resA, mkRes1, decide_true, decide_false, cond_true, cond_false, ite_true, ite_false, Bool.not_false, Nat.reduceEqDiff, Option.some.injEq, exists_eq_left', t0, t3, t4, ci]
      rw [tail_marks h h' hs.marks]
      exact ⟨⟨l, u, rfl, o, hasc, by omega, hu⟩, hs⟩

end
end
end Go.Proofs.YtpeihcpclcibgaaGreat.Ai
/- What Build comes to. -/
namespace Go.Proofs.YtpeihcpclcibgaaGreat.Ai
open Go.Proofs.YtpeihcpclcibgaaGreat
noncomputable section
open Go.RowKit
section
variable {P : Program} {tab : Nat → Option AFunc} (hT : TabOk P tab) (H : Has tab)
include hT H

theorem build_spec (Nu : Num P) {h : Heap} {v : Value} {l : List Pr} {ul : Option Nat} (a : PrAt h v l ul) (hl : l.length ≤ 120) {b : Nat} {u : Option Nat} {C : List Int} {z c o r : Int} (m : MemAt h b u C z c o r) (hb : ul ≠ some b) (hu : ∀ y, ul = some y → u ≠ some y) (hC : (C.length : Int) ≤ z) (hz : z ≤ 65536) (hc0 : 0 ≤ c) (hc1 : c < 900000000) :
    FSpec P 64 [.pointer (some ⟨b, 0, none⟩), v] h fun v h' =>
      (v = .tuple #[I (layF (l.length + 1) l C.length).1, .bool true] ∧ Asc l ∧ (C.length : Int) + cellsN l.length ≤ z ∧ (∃ u' c', MemAt h' b u' (C ++ (layF (l.length + 1) l C.length).2) z c' o r ∧ c ≤ c' ∧ c' ≤ c + cellsN l.length ∧ (∀ y, u' = some y → u = some y ∨ h.next ≤ y)) ∧ Same h h' (fun j => j = b ∨ u = some j)) ∨
      (v = .tuple #[I 0, .bool false] ∧ ¬ (Asc l ∧ (C.length : Int) + cellsN l.length ≤ z) ∧ h' = h) := by
  generalize hW : layF (l.length + 1) l C.length = W
  refine fspec_cwf hT H.f27 rfl ?_
  obtain ⟨base, cap, hv⟩ := a.len
  have hcm : cellsN l.length ≤ 1100 := by
    by_cases h2 : 2 ≤ l.length
    · exact (partN h2 hl).most
    · have : l.length = 0 ∨ l.length = 1 := by omega
      rcases this with e | e
      · rw [e, cells0]; omega
      · rw [e, cells1]; omega
  obtain ⟨v1, h1, F1, hr, rfl⟩ := right_spec hT H a (by omega)
  obtain ⟨v3, h3, F3, rfl, rfl⟩ := size_spec hT H m
  obtain ⟨v4, h4, F4, rfl, rfl⟩ := used_spec hT H m
  have wz : wrapF .i64 (z - C.length) = z - C.length := wrapI (by omega) (by omega)
  simp only [af64, cwf_seq, cwf_ops, andThen_normal, owf_nil, o_p, owf_call, bo_eq, optQ_some, pop, popQ, ev, evs, putA, putArgs, look_put, ite_true, ite_false, Nat.reduceEqDiff, Nat.zero_add]
  refine ⟨_, _, F1, ?_⟩
  rcases hr with ⟨rfl, ha, hla⟩ | ⟨rfl, hn⟩
  · have e : evs ((T.nil.put 0 v)) [.t 0] = [v] := by simp only [ev, evs, look_put, ite_true]
    simp only [o_p, o_on, behind_eq, bo_eq, optQ_some, pop, popQ, ev, putA, look_put, isB_false, cond_false, ite_true, ite_false, Bool.not_true, Bool.not_false, Nat.reduceEqDiff]
    subst hv
    simp only [owf_call, o_on, bo_eq, optQ_some, ev, evs, putA, look_put, isB_false, ite_true, ite_false, Bool.not_false, Nat.reduceEqDiff]
    refine ⟨_, _, Nu.cel l.length hl _, ?_⟩
    simp only [o_p, owf_call, o_on, behind_eq, bo_eq, optQ_some, pop, popQ, ev, evs, putA, look_put, isB_false, ite_true, ite_false, Bool.not_false, Nat.reduceEqDiff]
    refine ⟨_, _, F3, ?_⟩
    simp only [o_p, owf_call, o_on, behind_eq, bo_eq, optQ_some, pop, popQ, ev, evs, putA, look_put, isB_false, ite_true, ite_false, Bool.not_false, Nat.reduceEqDiff]
    refine ⟨_, _, F4, ?_⟩
    by_cases hroom : (C.length : Int) + cellsN l.length ≤ z
    · have cr : ((cellsN l.length : Int) > z - C.length) = False := by simp; omega
      simp only [cwf_seq, cwf_ops, c_false, cwf_skip, andThen_normal, owf_nil, o_p, owf_call, o_on, behind_eq, bo_eq, optQ_some, pop, popQ, ev, evs, putA, look_put, isB_false, abinF_eq, abin, decide_true, decide_false, cond_true, cond_false, ite_true, ite_false, Bool.not_false, Nat.reduceEqDiff, wz, cr]
      rcases a with ⟨rfl, base', cap', hv'⟩ | ⟨x, p, cap', rfl, hv', hpos, hrd⟩
      · cases hv'
        obtain ⟨v5, h5, F5, rfl, ⟨u', m5, n5⟩, s5⟩ := lay_nil hT H m (base := base) (cap := cap) (by rw [List.length_nil, cells0] at hroom; exact hroom) hz ⟨hc0, by omega⟩
        refine ⟨_, _, F5, ?_⟩
        simp only [cwf_ret, andThen_normal, fnQ_ret, owf_nil, o_p, behind_eq, bo_eq, optQ_some, pop, popQ, ev, putA, look_put, resAll, resA, mkRes2, List.length_nil, Int.cast_ofNat_Int, ite_true, ite_false, Nat.reduceEqDiff, Option.some.injEq, exists_eq_left']
        rw [tail_marks h4 h5 s5.marks]
        subst hW
        exact .inl ⟨rfl, ha, hroom, ⟨u', c + 1, m5, by omega, by rw [cells0]; simp, n5⟩, s5⟩
      · cases hv'
        obtain ⟨v5, h5, F5, rfl, ⟨u', c', m5, b1, b2, n5⟩, s5⟩ := lay_spec hT H Nu (l.length + 1) l h4 b x p cap u C z c o r (by omega) hl hpos m hrd (fun e => hb (by rw [e])) (hu x rfl) hroom hz hc0 (by omega)
        rw [hW] at F5 m5
        refine ⟨_, _, F5, ?_⟩
        simp only [cwf_ret, andThen_normal, fnQ_ret, owf_nil, o_p, behind_eq, bo_eq, optQ_some, pop, popQ, ev, putA, look_put, resAll, resA, mkRes2, ite_true, ite_false, Nat.reduceEqDiff, Option.some.injEq, exists_eq_left', true_and]
        rw [tail_marks h4 h5 s5.marks]
        exact .inl ⟨ha, hroom, ⟨u', c', m5, b1, b2, n5⟩, s5⟩
    · have cr : ((cellsN l.length : Int) > z - C.length) = True := by simp; omega
      simp only [cwf_seq, cwf_ops, cwf_ret, c_true, andThen_normal, andThen_ret, fnQ_ret, owf_nil, o_p, o_on, behind_eq, bo_eq, optQ_some, pop, popQ, ev, putA, look_put, isB_true, isB_false, abinF_eq, abin, resAll, resA, mkRes2, decide_true, cond_true, cond_false, ite_true, ite_false, Bool.not_false, Nat.reduceEqDiff, Option.some.injEq, exists_eq_left', true_and, and_true, wz, cr]
      exact .inr (fun hx => hroom hx.2)
  · simp only [cwf_seq, cwf_ops, cwf_ret, c_true, andThen_normal, andThen_ret, fnQ_ret, owf_nil, o_p, o_off, behind_eq, bo_eq, optQ_some, pop, popQ, ev, putA, look_put, isB_true, isB_false, resAll, resA, mkRes2, cond_true, ite_true, ite_false, Bool.not_true, Bool.not_false, Nat.reduceEqDiff, Option.some.injEq, exists_eq_left', true_and, and_true]
    exact .inr (fun hx => hn ⟨hx.1, by omega⟩)
end
end
end Go.Proofs.YtpeihcpclcibgaaGreat.Ai
/- PlantRoom, for all arguments. -/
namespace Go.Proofs.YtpeihcpclcibgaaGreat.Ai
open Go.Proofs.YtpeihcpclcibgaaGreat
noncomputable section
open Go.RowKit

theorem own_pr {h : Heap} {u : Option Nat} {l : List Pr} (o : OwnAt h u 2 l.length (flat l)) : PrAt h (ownSl u l.length) l u := by
  cases u with
  | none => have := o.non rfl; exact .inl ⟨List.eq_nil_of_length_eq_zero this, none, 0, by rw [this]; rfl⟩
  | some y => exact .inr ⟨y, 0, l.length, rfl, rfl, (o.use y rfl).2.2, o.rd⟩

section
variable {P : Program} {tab : Nat → Option AFunc} (hT : TabOk P tab) (H : Has tab)
include hT H

end
end
end Go.Proofs.YtpeihcpclcibgaaGreat.Ai
/- What Cells and Words come to; where a tree's word lies. -/
namespace Go.Proofs.YtpeihcpclcibgaaGreat.Ai
open Go.Proofs.YtpeihcpclcibgaaGreat
noncomputable section
open Go.RowKit

theorem layF_word : ∀ (f : Nat) (l : List Pr) (u : Nat), l.length < f → ((u : Int) + 1) * 8 ≤ (layF f l u).1 ∧ (layF f l u).1 < ((u : Int) + (layF f l u).2.length + 1) * 8 ∧ (layF f l u).2 ≠ []
  | 0, l, u, hf => by omega
  | f + 1, l, u, _ => by
    by_cases h2 : 2 ≤ l.length
    · rw [layF_two h2]
      simp only [List.length_append, List.length_cons]
      refine ⟨by omega, by omega, by simp⟩
    · match l, h2 with
      | [], _ => simp [layF]; omega
      | [p], _ => simp [layF]; omega
      | _ :: _ :: _, h2 => simp at h2

theorem OwnAt.ints {h : Heap} {u : Option Nat} {C : List Int} (o : OwnAt h u 1 C.length (C.map I)) : IntsAt h (ownSl u C.length) C := by
  cases u with
  | none => have := o.non rfl; exact .inl ⟨List.eq_nil_of_length_eq_zero this, none, 0, by rw [this]; rfl⟩
  | some y => exact .inr ⟨y, 0, C.length, rfl, o.rd⟩

section
variable {P : Program} {tab : Nat → Option AFunc} (hT : TabOk P tab) (H : Has tab)
include hT H

theorem clone_spec {h : Heap} {u : Option Nat} {C : List Int} (o : OwnAt h u 1 C.length (C.map I)) (hl : C.length < 1000000) : FSpec P 69 [ownSl u C.length] h fun v h' => (∃ u', v = ownSl u' C.length ∧ OwnAt h' u' 1 C.length (C.map I) ∧ (∀ y, u' = some y → h.next ≤ y)) ∧ Same h h' (fun _ => False) := by
  refine fspec_cwf hT H.f68 rfl ?_
  cases u with
  | none =>
    have hn := o.non rfl
    have : C = [] := List.eq_nil_of_length_eq_zero hn
    subst this
    simp only [af69, cwf_seq, cwf_ops, cwf_ret, c_true, andThen_normal, andThen_ret, fnQ_ret, owf_nil, o_p, bo_eq, optQ_some, pop, popQ, ev, putA, putArgs, look_put, isB_true, resAll, resA, mkRes1, List.length_nil, isNilV, Option.isNone_none, cond_false, ite_true, ite_false, Bool.not_true, Nat.reduceEqDiff, Option.some.injEq, exists_eq_left', ownSl, Option.map_none]
    exact ⟨⟨none, rfl, OwnAt.nil h 1, fun y hy => by cases hy⟩, Same.refl _ _⟩
  | some y =>
    have h1 := (o.use y rfl).2.2
    have hs : Same h (h.new ⟨[], 0, 1, true, false⟩) (fun _ => False) := Same.new
    have e1 : (h.new ⟨[], 0, 1, true, false⟩).blks.get h.next = some ⟨[], 0, 1, true, false⟩ := by rw [new_get]; exact if_pos rfl
    obtain ⟨v2, h2, z, a2, _, s2, ze, ho⟩ := app_empty (bytes := 8) e1 (Nat.lt_succ_self _) (o.same hs (fun _ _ x => x)).rd.src (by simp) (by simp [scalar]) (Nat.le_refl _) (by omega) (by omega)
    obtain ⟨o2, rfl⟩ := ho (by omega)
    simp only [af69, cwf_seq, cwf_ops, cwf_ret, c_false, cwf_skip, andThen_normal, fnQ_ret, owf_nil, o_p, o_e, behind_eq, bo_eq, optQ_some, opt2_some, pop, popQ, ev, putA, putArgs, look_put, isB_false, resAll, resA, mkRes1, eop_app, eop_buildS, bldS_some, evP_nil, fillA_nil, Nat.mul_one, isNilV, Option.isNone_some, cond_false, ite_true, ite_false, Bool.not_false, Nat.reduceEqDiff, Option.some.injEq, exists_eq_left', ownSl, Option.map_some, a2]
    have sf := hs.trans s2 (fun _ _ x => x)
    rw [tail_marks h h2 sf.marks]
    refine ⟨⟨some z, rfl, o2, fun y hy => ?_⟩, sf⟩
    cases hy
    rcases ze with e | e
    · omega
    · rw [e, new_next]; omega

theorem cells_spec {h : Heap} {b : Nat} {u : Option Nat} {C : List Int} {z c o r : Int} (m : MemAt h b u C z c o r) (hl : C.length < 1000000) : FSpec P 18 [.pointer (some ⟨b, 0, none⟩)] h fun v h' => (∃ u', v = ownSl u' C.length ∧ OwnAt h' u' 1 C.length (C.map I) ∧ (∀ y, u' = some y → h.next ≤ y)) ∧ Same h h' (fun _ => False) := by
  refine fspec_cwf hT H.f34 rfl ?_
  obtain ⟨v1, h1, F1, ⟨u', rfl, o1, n1⟩, s1⟩ := clone_spec hT H m.own hl
  simp only [af18, cwf_seq, cwf_ops, andThen_normal, owf_nil, o_p, o_r, owf_call, bo_eq, optQ_some, pop, popQ, rop_load1, ldV_ptr, ev, evs, putA, putArgs, look_put, Nat.add_zero, ite_true, ite_false, Nat.reduceEqDiff, m.rd0]
  refine ⟨_, _, F1, ?_⟩
  simp only [cwf_ret, andThen_normal, fnQ_ret, owf_nil, o_p, behind_eq, bo_eq, optQ_some, pop, popQ, ev, putA, look_put, resAll, resA, mkRes1, ite_true, ite_false, Nat.reduceEqDiff, Option.some.injEq, exists_eq_left']
  rw [tail_marks h h1 s1.marks]
  exact ⟨⟨u', rfl, o1, n1⟩, s1⟩

theorem words_spec {h : Heap} {v v' : Value} {A B : List Int} (a : IntsAt h v A) (b : IntsAt h v' B) (hl : A.length < 1000000) (hl' : B.length < 1000000) : FSpec P 23 [v, v'] h fun w h' => (w = .bool true ∧ A = B ∨ w = .bool false ∧ A ≠ B) ∧ h' = h := by
  refine fspec_cwf hT H.f36 rfl ?_
  have hv : ∃ base cap, v = .slice base A.length cap := by rcases a with ⟨rfl, base, cap, rfl⟩ | ⟨x, p, cap, rfl, _⟩ <;> exact ⟨_, _, rfl⟩
  have hv' : ∃ base cap, v' = .slice base B.length cap := by rcases b with ⟨rfl, base, cap, rfl⟩ | ⟨x, p, cap, rfl, _⟩ <;> exact ⟨_, _, rfl⟩
  obtain ⟨b1, c1, hv⟩ := hv
  obtain ⟨b2, c2, hv'⟩ := hv'
  by_cases hlen : A.length = B.length
  · have e : ((A.length : Int) != B.length) = false := by rw [hlen]; simp
    have e1 : look ((T.nil.put 0 v).put 1 v') 0 = v := by simp only [look_put, ite_true, ite_false, Nat.reduceEqDiff]
    subst hv; subst hv'
    simp only [af23, cwf_seq, cwf_ops, c_false, cwf_skip, cwf_block, cwf_loop, andThen_normal, owf_nil, o_p, bo_eq, optQ_some, pop, popQ, ev, putA, putArgs, look_put, isB_false, abinF_eq, abin, decide_true, cond_true, cond_false, ite_true, ite_false, Bool.not_false, Nat.reduceEqDiff, Nat.zero_add, e]
    refine cw_loop (fun k ts h' => ∃ i : Nat, k = A.length - i ∧ i ≤ A.length ∧ h' = h ∧ look ts 0 = .slice b1 A.length c1 ∧ look ts 1 = .slice b2 B.length c2 ∧ look ts 5 = I i ∧ ∀ j, j < i → A[j]? = B[j]?) ?_ (n := A.length) ⟨0, rfl, Nat.zero_le _, rfl, by simp only [look_put, ite_true, ite_false, Nat.reduceEqDiff], by simp only [look_put, ite_true, ite_false, Nat.reduceEqDiff], by simp only [look_put, Int.cast_ofNat_Int, ite_true, ite_false, Nat.reduceEqDiff] <;> rfl, fun j hj => by omega⟩
    rintro k ts h' ⟨i, rfl, i2, rfl, t0, t1, t5, heq⟩
    refine cwf_cw ?_
    by_cases hi : i < A.length
    · have ci : ((i : Int) < A.length) = True := by simp [hi]
      have ci' : ((i : Int) < B.length) = True := by simp; omega
      have wi : wrapF .i64 ((i : Int) + 1) = ((i + 1 : Nat) : Int) := by rw [wrapI] <;> omega
      rcases a with ⟨rfl, _⟩ | ⟨x, p, cap, ha, ra⟩
      · simp at hi
      rcases b with ⟨rfl, _⟩ | ⟨y, q, cap', hb, rb⟩
      · rw [List.length_nil] at hlen; omega
      cases ha; cases hb
      have r1 : h'.rd x (p + i) = some (I A[i]) := by rw [ra.rd (by omega)]; simp [hi]
      have r2 : h'.rd y (q + i) = some (I (B[i]'(by omega))) := by rw [rb.rd (by omega)]; simp; try omega
      simp only [cwf_seq, cwf_ops, c_true, cwf_skip, cwf_block, cwf_draw, andThen_normal, owf_nil, o_p, bo_eq, bd_eq, optQ_some, d_p, d_r, pop, popQ, rop_load1, ldV_ptr, ev, putA, look_put, isB_true, abinF_eq, abin, Int.toNat_natCast, Int.natCast_nonneg, Nat.mul_one, inB_eq, decide_true, cond_true, cond_false, ite_true, ite_false, Bool.and_true, Nat.reduceEqDiff, t0, t5, ci]
      refine ⟨cf00, cf00_ok, ?_⟩
      by_cases hc : A[i] = B[i]'(by omega)
      · have e2 : (A[i] != B[i]'(by omega)) = false := by rw [hc]; simp
        simp only [cwf_ops, c_false, cwf_skip, andThen_normal, blockQ_normal, roundQ_normal, owf_nil, o_p, bo_eq, bd_eq, optQ_some, dwf_nil, d_p, d_r, pop, popQ, rop_load1, ldV_ptr, ev, putA, look_put, isB_false, abinF_eq, abin, Int.toNat_natCast, Int.natCast_nonneg, Nat.mul_one, inB_eq, decide_true, cond_true, ite_true, ite_false, Bool.and_true, Bool.not_false, Nat.reduceEqDiff, true_and, t0, t1, t5, ci', r1, r2, e2, wi]
        refine ⟨A.length - (i + 1), by omega, i + 1, rfl, by omega, rfl, fun j hj => ?_⟩
        by_cases hj2 : j < i
        · exact heq j hj2
        · have : j = i := by omega
          subst this
          rw [List.getElem?_eq_getElem hi, List.getElem?_eq_getElem (by omega), hc]
      · have e2 : (A[i] != B[i]'(by omega)) = true := by simp [hc]
        simp only [cwf_seq, cwf_ops, cwf_ret, c_true, andThen_normal, andThen_ret, blockQ_ret, roundQ_ret, fnQ_ret, owf_nil, o_p, bo_eq, bd_eq, optQ_some, dwf_nil, d_p, d_r, pop, popQ, rop_load1, ldV_ptr, ev, putA, look_put, isB_true, abinF_eq, abin, resAll, resA, mkRes1, Int.toNat_natCast, Int.natCast_nonneg, Nat.mul_one, inB_eq, decide_true, cond_true, ite_true, ite_false, Bool.and_true, Nat.reduceEqDiff, Option.some.injEq, exists_eq_left', true_and, and_true, t1, t5, ci', r1, r2, e2]
        refine .inr (fun hab => hc ?_)
        subst hab; rfl
    · have ci : ((i : Int) < A.length) = False := by simp; omega
      simp only [cwf_seq, cwf_ops, cwf_ret, c_false, cwf_exit, andThen_normal, andThen_exit, blockQ_exit, roundQ_exit, fnQ_ret, owf_nil, o_p, bo_eq, optQ_some, pop, popQ, ev, putA, look_put, isB_false, abinF_eq, abin, resAll, resA, mkRes1, decide_true, decide_false, cond_true, cond_false, ite_true, ite_false, Bool.not_false, Nat.reduceEqDiff, Option.some.injEq, exists_eq_left', true_and, and_true, t0, t5, ci]
      refine .inl (List.ext_getElem? fun j => ?_)
      by_cases hj : j < i
      · exact heq j hj
      · rw [List.getElem?_eq_none (by omega), List.getElem?_eq_none (by omega)]
  · have e : ((A.length : Int) != B.length) = true := by simp; omega
    subst hv; subst hv'
    simp only [af23, cwf_seq, cwf_ops, cwf_ret, c_true, andThen_normal, andThen_ret, fnQ_ret, owf_nil, o_p, bo_eq, optQ_some, pop, popQ, ev, putA, putArgs, look_put, isB_true, abinF_eq, abin, resAll, resA, mkRes1, decide_true, cond_true, cond_false, ite_true, ite_false, Nat.reduceEqDiff, Nat.zero_add, Option.some.injEq, exists_eq_left', true_and, and_true, e]
    exact .inr (fun hab => hlen (by rw [hab]))
end
end
end Go.Proofs.YtpeihcpclcibgaaGreat.Ai
/- PlantTwo, for all arguments. -/
namespace Go.Proofs.YtpeihcpclcibgaaGreat.Ai
open Go.Proofs.YtpeihcpclcibgaaGreat
noncomputable section
open Go.RowKit

theorem IntsAt.same {h h' : Heap} {v : Value} {L : List Int} (a : IntsAt h v L) (s : Same h h' (fun _ => False)) : IntsAt h' v L := by
  rcases a with a | ⟨x, p, cap, e, r⟩
  · exact .inl a
  · exact .inr ⟨x, p, cap, e, r.same s (fun x => x)⟩

theorem cells_most {n : Nat} (h : n ≤ 120) : cellsN n ≤ 1100 := by
  by_cases h2 : 2 ≤ n
  · exact (partN h2 h).most
  · have : n = 0 ∨ n = 1 := by omega
    rcases this with e | e
    · rw [e, cells0]; omega
    · rw [e, cells1]; omega

section
variable {P : Program} {tab : Nat → Option AFunc} (hT : TabOk P tab) (H : Has tab)
include hT H

end
end
end Go.Proofs.YtpeihcpclcibgaaGreat.Ai
/- Slices of pairs that come in. -/
namespace Go.Proofs.YtpeihcpclcibgaaGreat.Ai
open Go.Proofs.YtpeihcpclcibgaaGreat
noncomputable section
open Go.RowKit

def numV : Value → Int
  | .int _ z => z
  | _ => 0

theorem pairs_row {W : World} {a : Addr} {len cap : Nat} {V0 V1 : Nat → Value} (hl : len ≤ cap) (h : ∀ i, i < cap → W.cell? (a.add (i * 2)) = some (V0 i) ∧ W.cell? (a.add (i * 2 + 1)) = some (V1 i) ∧ (∃ z, V0 i = I z) ∧ ∃ z, V1 i = I z) :
    ∃ zs : List Pr, zs.length = cap ∧ InRow W (some a) 2 len cap (flat zs) := by
  refine ⟨(List.range cap).map fun i => (numV (V0 i), numV (V1 i)), by simp, .inr ⟨a, rfl, hl, by simp [flat_len], fun i v hv => ?_, ?_⟩⟩
  · have hi : i < (flat ((List.range cap).map fun i => (numV (V0 i), numV (V1 i)))).length := (List.getElem?_eq_some_iff.1 hv).1
    rw [flat_len] at hi
    have hi2 : i / 2 < cap := by simp at hi; omega
    have hlen : i / 2 < ((List.range cap).map fun i => (numV (V0 i), numV (V1 i))).length := by simpa using hi2
    obtain ⟨q0, q1, ⟨z0, e0⟩, ⟨z1, e1⟩⟩ := h (i / 2) hi2
    rcases Nat.mod_two_eq_zero_or_one i with e | e
    · have : i = i / 2 * 2 := by omega
      rw [this, flat_key _ _ hlen] at hv
      rw [this, q0, ← hv]
      simp [e0, numV]
    · have : i = i / 2 * 2 + 1 := by omega
      rw [this, flat_val _ _ hlen] at hv
      rw [this, q1, ← hv]
      simp [e1, numV]
  · generalize (List.range cap).map (fun i => (numV (V0 i), numV (V1 i))) = zs
    induction zs with
    | nil => rfl
    | cons p zs ih => simp [flat, plain, ih]

theorem ints_row {W : World} {k : IntKind} {x : Addr} {len cap : Nat} {zs : List Int} (hl : len ≤ cap) (hz : zs.length = cap) (h : ∀ i, i < zs.length → W.cell? (x.add i) = some (.int k (zs.getD i 0))) : InRow W (some x) 1 len cap (zs.map (.int k)) := by
  refine .inr ⟨x, rfl, hl, by simp [hz], fun i v hv => ?_, by simp [plain]⟩
  have hi : i < zs.length := by
    have := (List.getElem?_eq_some_iff.1 hv).1
    simpa using this
  rw [h i hi]
  simp only [List.getElem?_map, List.getElem?_eq_getElem hi, Option.map_some, Option.some.injEq] at hv
  rw [← hv]; simp [hi]

theorem RowAt.ints {h : Heap} {v : Value} {n : Nat} {L : List Int} {u : Option Nat} (a : RowAt h v 1 n (L.map I) u) (hn : L.length = n) : IntsAt h v L := by
  rcases a with ⟨rfl, hc, e⟩ | ⟨x, p, cap, _, e, r⟩
  · have : L = [] := List.eq_nil_of_length_eq_zero hn
    refine .inl ⟨this, ?_⟩
    rcases e with rfl | ⟨b, o, k, rfl⟩ <;> exact ⟨_, _, rfl⟩
  · rw [← hn] at e r
    exact .inr ⟨x, p, cap, e, r⟩

theorem flat_take' (l : List Pr) (n : Nat) : (flat l).take (n * 2) = flat (l.take n) := (flat_take l n).symm

theorem InRow.pairs_len {w : World} {a : Option Addr} {len cap : Nat} {z : List Pr} (r : InRow w a 2 len cap (flat z)) : len ≤ cap ∧ z.length = cap := by
  have hf := flat_len z
  rcases r with ⟨_, rfl, rfl, e⟩ | ⟨_, _, a, b, _⟩
  · rw [e, List.length_nil] at hf; omega
  · rw [hf] at b; omega

theorem InRow.ints_len {w : World} {a : Option Addr} {len cap : Nat} {k : IntKind} {z : List Int} (r : InRow w a 1 len cap (z.map (.int k))) : len ≤ cap ∧ z.length = cap := by
  rcases r with ⟨_, rfl, rfl, e⟩ | ⟨_, _, a, b, _⟩
  · have : (z.map (Value.int k)).length = 0 := by rw [e]; rfl
    rw [List.length_map] at this; omega
  · rw [List.length_map] at b; omega

/-- what came in, to be read -/
theorem RowAt.pairs {h : Heap} {v : Value} {len : Nat} {z : List Pr} {u : Option Nat} (a : RowAt h v 2 len ((flat z).take (len * 2)) u) (hl : len ≤ z.length) : RowAt h v 2 (z.take len).length (flat (z.take len)) u := by
  rw [flat_take'] at a
  rw [List.length_take, Nat.min_eq_left hl]
  exact a

theorem RowAt.ints' {h : Heap} {v : Value} {len : Nat} {z : List Int} {u : Option Nat} (a : RowAt h v 1 len ((z.map I).take (len * 1)) u) (hl : len ≤ z.length) : IntsAt h v (z.take len) := by
  rw [Nat.mul_one, ← List.map_take] at a
  exact RowAt.ints a (by rw [List.length_take]; omega)

end
end Go.Proofs.YtpeihcpclcibgaaGreat.Ai
