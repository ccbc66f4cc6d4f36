/- Texts put together: T0, ST, MA, T1, T2, TB, TC. -/
import Derived.Test.YtpeihcpclcibgaaGreatVY
import Derived.Test.YtpeihcpclcibgaaGreatTh2
import Derived.Test.YtpeihcpclcibgaaGreatQX
import Derived.Test.YtpeihcpclcibgaaGreatTabOk
/- A way down a tree, and changes counted on it: in plain lists and numbers. -/
namespace Go.Proofs.YtpeihcpclcibgaaGreat.Ai
open Go.Proofs.YtpeihcpclcibgaaGreat
noncomputable section
set_option linter.unusedVariables false

/-- each Inner of a way has one change more -/
def addC (C : List Int) (L : List Nat) : List Int := L.foldl (fun C a => C.set (a + 2) 1) C

theorem addC_snoc (C : List Int) (L : List Nat) (a : Nat) : addC C (L ++ [a]) = (addC C L).set (a + 2) 1 := by simp [addC]
theorem addC_len (C : List Int) (L : List Nat) : (addC C L).length = C.length := by
  induction L generalizing C with
  | nil => rfl
  | cons a L ih => show (addC (C.set (a + 2) 1) L).length = _; rw [ih, List.length_set]

/-- far from one another -/
def Far (a b : Nat) : Prop := a + 5 ≤ b ∨ b + 5 ≤ a

structure Way (C : List Int) (L : List Nat) : Prop where
  cell : ∀ a ∈ L, 1 ≤ a ∧ a + 4 ≤ C.length ∧ at0 C (a + 3) = 0 ∧ 0 ≤ at0 C (a + 1) ∧ at0 C (a + 1) ≤ 120
  dis : L.Pairwise Far

theorem at0_set {C : List Int} {x y : Nat} {v : Int} (hx : 1 ≤ x) (hy : 1 ≤ y) (hl : x ≤ C.length) : at0 (C.set (x - 1) v) y = if y = x then v else at0 C y := by
  have e1 : ∀ D : List Int, at0 D y = (D[y - 1]?).getD 0 := fun D => by unfold at0; rw [if_neg (by omega)]
  rw [e1, e1, List.getElem?_set]
  by_cases e : y = x
  · subst e
    rw [if_pos rfl, if_pos (by omega), if_pos rfl]; rfl
  · rw [if_neg (by omega), if_neg e]

theorem addC_at {C : List Int} : ∀ {L : List Nat} {y : Nat}, 1 ≤ y → (∀ a ∈ L, 1 ≤ a ∧ a + 4 ≤ C.length) → (∀ a ∈ L, y ≠ a + 3) → at0 (addC C L) y = at0 C y := by
  intro L
  induction L generalizing C with
  | nil => intro y _ _ _; rfl
  | cons a L ih =>
    intro y hy h1 h2
    have ha := h1 a (by simp)
    show at0 (addC (C.set (a + 2) 1) L) y = _
    rw [ih hy (fun b hb => by rw [List.length_set]; exact h1 b (List.mem_cons_of_mem _ hb)) (fun b hb => h2 b (List.mem_cons_of_mem _ hb))]
    rw [show a + 2 = (a + 3) - 1 by omega, at0_set (by omega) hy (by omega), if_neg (h2 a (by simp))]

/-- at an entry of a way: nothing was counted there yet, and its size is as it was -/
theorem Way.next {C : List Int} {A : List Nat} {a : Nat} {B : List Nat} (w : Way C (A ++ a :: B)) : 1 ≤ a ∧ a + 4 ≤ (addC C A).length ∧ at0 (addC C A) (a + 3) = 0 ∧ at0 (addC C A) (a + 1) = at0 C (a + 1) ∧ 0 ≤ at0 C (a + 1) ∧ at0 C (a + 1) ≤ 120 ∧ at0 ((addC C A).set (a + 2) 1) (a + 1) = at0 C (a + 1) := by
  obtain ⟨h1, h2, h3, h4, h5⟩ := w.cell a (by simp)
  have hA : ∀ b ∈ A, 1 ≤ b ∧ b + 4 ≤ C.length := fun b hb => by have := w.cell b (by simp [hb]); exact ⟨this.1, this.2.1⟩
  have hf : ∀ b ∈ A, Far b a := fun b hb => (List.pairwise_append.1 w.dis).2.2 b hb a (by simp)
  have e3 : at0 (addC C A) (a + 3) = 0 := by rw [addC_at (by omega) hA (fun b hb => by have := hf b hb; unfold Far at this; omega)]; exact h3
  have e1 : at0 (addC C A) (a + 1) = at0 C (a + 1) := addC_at (by omega) hA (fun b hb => by have := hf b hb; unfold Far at this; omega)
  refine ⟨h1, by rw [addC_len]; exact h2, e3, e1, h4, h5, ?_⟩
  rw [show a + 2 = (a + 3) - 1 by omega, at0_set (by omega) (by omega) (by rw [addC_len]; omega), if_neg (by omega), e1]

/-- where the way stands: this tree is next, far from what was met -/
structure WayAt (C : List Int) (L : List Nat) (t : Tr) (l : List Pr) : Prop where
  way : Way C L
  ok : t.ok C
  fits : t.fits l
  len : l.length ≤ 120
  nodup : t.adrs.Nodup
  far : ∀ a ∈ L, ∀ x ∈ t.adrs, x < a ∨ a + 5 ≤ x

theorem adrss_at : ∀ {cs : List Tr} {i : Nat} (h : i < cs.length) {x : Nat}, x ∈ cs[i].adrs → x ∈ adrss cs
  | t :: cs, 0, _, x, hx => by simp only [adrss, List.mem_append]; exact .inl hx
  | t :: cs, i + 1, h, x, hx => by simp only [adrss, List.mem_append]; exact .inr (adrss_at (by simpa using h) (by simpa using hx))
theorem adrss_nodup_at : ∀ {cs : List Tr} {i : Nat} (h : i < cs.length), (adrss cs).Nodup → cs[i].adrs.Nodup
  | t :: cs, 0, _, n => by
    simp only [adrss, List.nodup_append] at n
    exact n.1
  | t :: cs, i + 1, h, n => by
    simp only [adrss, List.nodup_append] at n
    have := adrss_nodup_at (by simpa using h) n.2.1
    simpa using this

/-- an Inner is met; this child is next -/
theorem WayAt.step {C : List Int} {L : List Nat} {a : Nat} {sz sh ch sm : Int} {ks : List Int} {cs : List Tr} {l : List Pr} (w : WayAt C L (.inner a sz sh ch sm ks cs) l) {k : Nat} (hk : k < cs.length) :
    WayAt C (L ++ [a]) cs[k] (partL l k) ∧ (1 ≤ a ∧ a + (2 * cs.length + 4) ≤ C.length + 1 ∧ 2 ≤ cs.length ∧ cs.length ≤ 11) ∧ at0 C a = cs.length ∧ at0 C (a + 4 + cs.length + k) = cs[k].word := by
  obtain ⟨⟨q1, q2, q3, q4⟩, ⟨p0, p1, p2, p3, p4⟩, hsh, hsz, hks, hcs, hoks⟩ := w.ok
  obtain ⟨⟨h2, h120⟩, ⟨e1, e2, e3, e4⟩, e5, e6, e7⟩ := w.fits
  have pn := partN h2 h120
  have d11 := pn.deg11
  have hnd := w.nodup
  simp only [Tr.adrs, List.nodup_append] at hnd
  obtain ⟨_, hn2, hn3⟩ := hnd
  have hless := pn.less k (by omega)
  have hp := partL_len h2 h120 (i := k) (by omega)
  have hin : ∀ y, a ≤ y → y < a + (2 * cs.length + 4) → y ∈ (Tr.inner a sz sh ch sm ks cs).adrs := fun y h1 h2 => by
    simp only [Tr.adrs, List.mem_append, List.mem_range'_1]; exact .inl ⟨h1, h2⟩
  have hfar : ∀ b ∈ L, Far b a := fun b hb => by
    have f1 := w.far b hb a (hin a (Nat.le_refl _) (by omega))
    have f2 := w.far b hb (a + 1) (hin _ (by omega) (by omega))
    have f3 := w.far b hb (a + 2) (hin _ (by omega) (by omega))
    have f4 := w.far b hb (a + 3) (hin _ (by omega) (by omega))
    have f5 := w.far b hb (a + 4) (hin _ (by omega) (by omega))
    unfold Far; omega
  refine ⟨⟨⟨fun b hb => ?_, ?_⟩, oks_mem hoks k hk, by simpa using fitss_at e7 k hk, by omega, adrss_nodup_at hk hn2, fun b hb x hx => ?_⟩, ⟨q1, q2, by omega, by omega⟩, p0, hcs k hk⟩
  · rcases List.mem_append.1 hb with hb | hb
    · exact w.way.cell b hb
    · have : b = a := by simpa using hb
      subst this
      exact ⟨q1, by omega, by rw [p3]; exact e3, by rw [p1, e1]; omega, by rw [p1, e1]; omega⟩
  · rw [List.pairwise_append]
    exact ⟨w.way.dis, by simp, fun b hb c hc => by
      have : c = a := by simpa using hc
      subst this; exact hfar b hb⟩
  · rcases List.mem_append.1 hb with hb | hb
    · refine w.far b hb x ?_
      simp only [Tr.adrs, List.mem_append]
      exact .inr (adrss_at hk hx)
    · have : b = a := by simpa using hb
      subst this
      have := hn3 x
      by_cases c : b ≤ x ∧ x < b + (2 * cs.length + 4)
      · exact (hn3 x (List.mem_range'_1.2 c) x (adrss_at hk hx) rfl).elim
      · omega

end
end Go.Proofs.YtpeihcpclcibgaaGreat.Ai
/- Cells of many values written at once. -/
namespace Go.Proofs.YtpeihcpclcibgaaGreat.Ai
open Go.Proofs.YtpeihcpclcibgaaGreat
noncomputable section
set_option linter.unusedVariables false
open Go.RowKit

def stNV (h : Heap) (n : Nat) (p v : Value) : Option (Value × Heap) := match p with
  | .pointer (some ⟨b, o, none⟩) => (let vs := v.cells.toList
      bif Nat.beq vs.length n && Nat.ble 1 n then (match h.wrs b o vs with
        | some h' => some (undef, h')
        | none => none) else none)
  | _ => none
theorem eop_store3 {ts : T Value} {h : Heap} {a x : Opd} : eop ts h (.store 3 a x) = stNV h 3 (ev ts a) (ev ts x) := (rfl)
theorem eop_store4 {ts : T Value} {h : Heap} {a x : Opd} : eop ts h (.store 4 a x) = stNV h 4 (ev ts a) (ev ts x) := (rfl)
theorem eop_store5 {ts : T Value} {h : Heap} {a x : Opd} : eop ts h (.store 5 a x) = stNV h 5 (ev ts a) (ev ts x) := (rfl)
theorem eop_store6 {ts : T Value} {h : Heap} {a x : Opd} : eop ts h (.store 6 a x) = stNV h 6 (ev ts a) (ev ts x) := (rfl)
theorem wrsN_of {h : Heap} {b o : Nat} {k : Blk} {vs : List Value} (hb : h.blks.get b = some k) (ho : k.own = true) (hl : o + vs.length ≤ k.cells.length) (hs : vs.all scalar = true) : h.wrs b o vs = some (h.setB b { k with cells := spl vs k.cells o }) := by
  unfold Heap.wrs; rw [hb]
  simp only [ho, leLen_le hl, hs, Bool.and_true, cond_true]
  rfl
theorem stNV_of {h h' : Heap} {b o n : Nat} {l : List Value} (hw : h.wrs b o l = some h') (hl : l.length = n) (h1 : 1 ≤ n) : stNV h n (.pointer (some ⟨b, o, none⟩)) (.agg l.toArray) = some (undef, h') := by
  have e : (Value.agg l.toArray).cells.toList = l := by simp [Value.cells]
  unfold stNV
  simp only [e, hl, nat_beq, nat_ble h1, hw, Bool.and_true, cond_true]

theorem putN {h : Heap} {n m : Nat} {L L' : List Value} (hb : h.blks.get n = some ⟨L, m, m, true, false⟩) (hl : L.length = m) (hl' : L'.length = m) (h1 : 1 ≤ m) (hs : L'.all scalar = true) : ∃ h', stNV h m (.pointer (some ⟨n, 0, none⟩)) (.agg L'.toArray) = some (undef, h') ∧ h'.blks.get n = some ⟨L', m, m, true, false⟩ ∧ Same h h' (· = n) ∧ h'.next = h.next ∧ h'.rds n 0 m = some L' := by
  have hw : h.wrs n 0 L' = some (h.setB n ⟨spl L' L 0, m, m, true, false⟩) := wrsN_of hb rfl (by simp only [hl, hl']; omega) hs
  have e : spl L' L 0 = L' := by
    rw [spl_eq]; simp only [splice]
    rw [List.take_zero, List.nil_append, Nat.zero_add, List.drop_of_length_le (by omega), List.append_nil]
  rw [e] at hw
  have hg : (h.setB n ⟨L', m, m, true, false⟩).blks.get n = some ⟨L', m, m, true, false⟩ := by rw [setB_get, if_pos rfl]
  refine ⟨_, stNV_of hw hl' h1, hg, Same.setB rfl, rfl, ?_⟩
  rw [rds_of hg (by simp only [hl']; omega)]
  simp only [List.drop_zero]
  rw [List.take_of_length_le (by omega)]

theorem setN {h : Heap} {n m : Nat} {L : List Value} (hb : h.blks.get n = some ⟨L, m, m, true, false⟩) (i : Nat) (v : Value) (hi : i < L.length) (hv : scalar v = true) : ∃ h', h.wrs n i [v] = some h' ∧ h'.blks.get n = some ⟨L.set i v, m, m, true, false⟩ ∧ Same h h' (· = n) ∧ h'.next = h.next :=
  ⟨_, wrs1_of hb rfl hi hv, by rw [setB_get, if_pos rfl], Same.setB rfl, rfl⟩

/-- a block allocated and written at once -/
theorem newPut {h : Heap} {m : Nat} {Z L : List Value} (hz : Z.length = m) (hl : L.length = m) (h1 : 1 ≤ m) (hs : L.all scalar = true) : ∃ h', stNV (h.new ⟨Z, m, m, true, false⟩) m (.pointer (some ⟨h.next, 0, none⟩)) (.agg L.toArray) = some (undef, h') ∧ h'.blks.get h.next = some ⟨L, m, m, true, false⟩ ∧ Same h h' (fun _ => False) ∧ h'.next = h.next + 1 ∧ h'.rds h.next 0 m = some L := by
  obtain ⟨h', e1, e2, e3, e4, e5⟩ := putN (h := h.new ⟨Z, m, m, true, false⟩) (n := h.next) (L := Z) (L' := L) (by rw [new_get]; exact if_pos rfl) hz hl h1 hs
  exact ⟨h', e1, e2, (Same.new (S := fun _ => False)).trans e3 (fun j hj e => by omega), e4, e5⟩
end
end Go.Proofs.YtpeihcpclcibgaaGreat.Ai
/- The program's memory, access by access, as a pure one. -/
namespace Go.Proofs.YtpeihcpclcibgaaGreat.Ai
open Go.Proofs.YtpeihcpclcibgaaGreat
noncomputable section
set_option linter.unusedVariables false
open Go.RowKit
structure HasM (tab : Nat → Option AFunc) : Prop where
  mread : tab 73 = some af73
  mcas : tab 174 = some af174
  madd : tab 71 = some af71

theorem hasM : HasM tabT.get := ⟨by kernel_rfl, by kernel_rfl, by kernel_rfl⟩

/-- a memory: its cells, how many there may be, how many accesses, odd ones, refused ones -/
structure PM where
  C : List Int
  z : Int
  c : Int
  o : Int
  r : Int

/-- is it a used cell? -/
def PM.isin (m : PM) (a : Int) : Prop := 1 ≤ a ∧ a ≤ m.C.length
instance (m : PM) (a : Int) : Decidable (m.isin a) := inferInstanceAs (Decidable (_ ∧ _))
def PM.get (m : PM) (a : Int) : Int := if m.isin a then (m.C[(a - 1).toNat]?).getD 0 else 0
def PM.tick (m : PM) (a : Int) : PM := { m with c := m.c + 1, o := if m.isin a then m.o else m.o + 1 }
def PM.put (m : PM) (a x : Int) : PM := if m.isin a then { m with C := m.C.set (a - 1).toNat x } else m
def PM.read (m : PM) (a : Int) : Int × PM := (m.get a, m.tick a)
def PM.write (m : PM) (a x : Int) : PM := (m.put a x).tick a
def PM.cas (m : PM) (a old x : Int) : Bool × PM := if m.isin a ∧ m.get a = old then (true, m.write a x) else (false, m.tick a)
def PM.add (m : PM) (a d : Int) : Int × PM := (m.get a, m.write a (wrapF .i64 (m.get a + d)))
def PM.make (m : PM) (ws : List Int) : (Int × Bool) × PM := if ws ≠ [] ∧ (m.C.length : Int) + ws.length ≤ m.z then (((m.C.length : Int) + 1, true), { m with C := m.C ++ ws, c := m.c + 1 }) else ((0, false), { m with c := m.c + 1, r := m.r + 1 })

/-- it lies there -/
def MemP (h : Heap) (b : Nat) (u : Option Nat) (m : PM) : Prop := MemAt h b u m.C m.z m.c m.o m.r
/-- as great as memories are -/
structure PM.fine (m : PM) : Prop where
  z0 : 0 ≤ m.z
  z1 : m.z ≤ 65536
  len : (m.C.length : Int) ≤ m.z
  c : 0 ≤ m.c ∧ m.c < 1000000000000000
  o : 0 ≤ m.o ∧ m.o < 1000000000000000
  r : 0 ≤ m.r ∧ m.r < 1000000000000000

/-- blocks of one owner -/
def cl (b : Nat) (u : Option Nat) (j : Nat) : Prop := j = b ∨ u = some j

theorem MemP.same {h h' : Heap} {b : Nat} {u : Option Nat} {m : PM} {S : Nat → Prop} (mm : MemP h b u m) (s : Same h h' S) (hS : ∀ j, cl b u j → ¬ S j) : MemP h' b u m := MemAt.same mm s (hS b (.inl rfl)) (fun y hy => hS y (.inr hy))
theorem MemP.lt {h : Heap} {b : Nat} {u : Option Nat} {m : PM} (mm : MemP h b u m) : ∀ j, cl b u j → j < h.next := fun j hj => hj.elim (fun e => by rw [e]; exact MemAt.lt mm) (fun e => (MemAt.use mm j e).2.2.1)

section
variable {P : Program} {tab : Nat → Option AFunc} (hT : TabOk P tab) (V9 : HasV9 tab) (HM : HasM tab)
include hT V9

/-- a cell that is asked for -/
theorem cellP_spec {h : Heap} {b : Nat} {u : Option Nat} {m : PM} (mm : MemP h b u m) (f : m.fine) (a : Int) (ha : -1000000000000000 ≤ a ∧ a ≤ 1000000000000000) :
    FSpec P 113 [.pointer (some ⟨b, 0, none⟩), I a] h fun v h' => (m.isin a ∧ (∃ x, u = some x ∧ v = .pointer (some ⟨x, (a - 1).toNat, none⟩)) ∨ ¬ m.isin a ∧ v = .pointer none) ∧ MemP h' b u (m.tick a) ∧ Same h h' (fun j => j = b) := by
  refine fspec_cwf hT V9.v73 rfl ?_
  have fc := f.c
  have fo := f.o
  have fl := f.len
  have fz := f.z1
  have wc : wrapF .i64 (m.c + 1) = m.c + 1 := wrapI (by omega) (by omega)
  have wo : wrapF .i64 (m.o + 1) = m.o + 1 := wrapI (by omega) (by omega)
  have m1 := MemAt.set mm m.z (m.c + 1) m.o m.r
  have s1 : Same h (h.setB b (memBlk (useSl u m.C) m.z (m.c + 1) m.o m.r)) (fun j => j = b) := Same.setB rfl
  have w2 := MemAt.wr2 mm (m.c + 1)
  have q2 := MemAt.rd2 mm
  generalize h.setB b (memBlk (useSl u m.C) m.z (m.c + 1) m.o m.r) = h1 at w2 m1 s1
  have r0 : h1.rd b 0 = some (useSl u m.C) := m1.rd0
  have m2 := m1.set m.z (m.c + 1) (m.o + 1) m.r
  have s2 : Same h1 (h1.setB b (memBlk (useSl u m.C) m.z (m.c + 1) (m.o + 1) m.r)) (fun j => j = b) := Same.setB rfl
  have w3 := m1.wr3 (m.o + 1)
  have r3 := m1.rd3
  generalize h1.setB b (memBlk (useSl u m.C) m.z (m.c + 1) (m.o + 1) m.r) = h2 at w3 m2 s2
  have sF : Same h h2 (fun j => j = b) := s1.trans s2 (fun _ _ x => x)
  by_cases c1 : a < 1
  · have c1' : (a < 1) = True := by simp [c1]
    have hn : ¬ m.isin a := fun e => by have := e.1; omega
    have et : m.tick a = { m with c := m.c + 1, o := m.o + 1 } := by unfold PM.tick; rw [if_neg hn]
    simp only [af113, cwf_seq, cwf_ops, cwf_ret, c_true, andThen_normal, andThen_ret, fnQ_ret, owf_nil, o_p, o_r, o_e, o_off, behind_eq, bo_eq, optQ_some, opt2_some, pop, popQ, rop_load1, ldV_ptr, ev, putA, putArgs, look_put, isB_true, isB_false, abinF_eq, abin, resAll, resA, mkRes1, eop_store1, st1, scalar_int, decide_true, cond_true, ite_true, ite_false, Bool.not_true, Nat.reduceEqDiff, Nat.zero_add, Option.some.injEq, exists_eq_left', and_true, q2, wc, w2, c1', r3, wo, w3]
    rw [tail_marks h h2 sF.marks]
    refine ⟨.inr hn, ?_, sF⟩
    rw [et]; exact m2
  · have c1' : (a < 1) = False := by simp; omega
    by_cases c2 : a > m.C.length
    · have c2' : (a > (m.C.length : Int)) = True := by simp; omega
      have hn : ¬ m.isin a := fun e => by have := e.2; omega
      have et : m.tick a = { m with c := m.c + 1, o := m.o + 1 } := by unfold PM.tick; rw [if_neg hn]
      simp only [useSl] at r0
      simp only [af113, cwf_seq, cwf_ops, cwf_ret, c_true, andThen_normal, andThen_ret, fnQ_ret, owf_nil, o_p, o_r, o_e, o_on, behind_eq, bo_eq, optQ_some, opt2_some, pop, popQ, rop_load1, ldV_ptr, ev, putA, putArgs, look_put, isB_true, isB_false, abinF_eq, abin, resAll, resA, mkRes1, eop_store1, st1, Nat.add_zero, scalar_int, decide_true, decide_false, cond_true, cond_false, ite_true, ite_false, Bool.not_false, Nat.reduceEqDiff, Nat.zero_add, Option.some.injEq, exists_eq_left', and_true, q2, wc, w2, c1', r0, c2', r3, wo, w3]
      rw [tail_marks h h2 sF.marks]
      refine ⟨.inr hn, ?_, sF⟩
      rw [et]; exact m2
    · have c2' : (a > (m.C.length : Int)) = False := by simp; omega
      have hy : m.isin a := ⟨by omega, by omega⟩
      have et : m.tick a = { m with c := m.c + 1 } := by unfold PM.tick; rw [if_pos hy]
      obtain ⟨x, rfl⟩ : ∃ x, u = some x := by
        cases u with
        | none => have e := MemAt.non mm rfl; have h1 := hy.1; have h2 := hy.2; rw [e] at h2; simp at h2; omega
        | some x => exact ⟨x, rfl⟩
      obtain ⟨k, hk⟩ := Int.eq_ofNat_of_zero_le (show 0 ≤ a - 1 by omega)
      have hk : a - 1 = (k : Int) := hk
      have wk : wrapF .i64 (a - 1) = (k : Int) := by rw [hk, wrapI] <;> omega
      have c3 : ((k : Int) < m.C.length) = True := by simp; omega
      have ek : (a - 1).toNat = k := by omega
      have r0' : h1.rd b 0 = some (.slice (some ⟨x, 0, none⟩) m.C.length m.C.length) := r0
      simp only [af113, cwf_seq, cwf_ops, cwf_ret, c_false, cwf_skip, andThen_normal, fnQ_ret, owf_nil, o_p, o_r, o_e, o_on, behind_eq, bo_eq, optQ_some, opt2_some, pop, popQ, rop_load1, ldV_ptr, ev, putA, putArgs, look_put, isB_false, abinF_eq, abin, resAll, resA, mkRes1, eop_store1, st1, Int.toNat_natCast, Int.natCast_nonneg, Nat.mul_one, Nat.add_zero, scalar_int, inB_eq, decide_true, decide_false, cond_true, cond_false, ite_true, ite_false, Bool.and_true, Bool.not_false, Nat.reduceEqDiff, Nat.zero_add, Option.some.injEq, exists_eq_left', q2, wc, w2, c1', r0', c2', wk, c3]
      rw [tail_marks h h1 s1.marks]
      refine ⟨.inl ⟨hy, ?_⟩, ?_, s1⟩
      · first | exact ⟨x, rfl, by rw [ek]⟩ | simp [ek]
      · rw [et]; exact m1

include HM
theorem readP_spec {h : Heap} {b : Nat} {u : Option Nat} {m : PM} (mm : MemP h b u m) (f : m.fine) (a : Int) (ha : -1000000000000000 ≤ a ∧ a ≤ 1000000000000000) :
    FSpec P 73 [.pointer (some ⟨b, 0, none⟩), I a] h fun v h' => v = I (m.read a).1 ∧ MemP h' b u (m.read a).2 ∧ Same h h' (fun j => j = b) := by
  refine fspec_cwf hT HM.mread rfl ?_
  obtain ⟨v1, h1, F1, hv, m1, s1⟩ := cellP_spec hT V9 mm f a ha
  rcases hv with ⟨hy, x, rfl, rfl⟩ | ⟨hn, rfl⟩
  · obtain ⟨q1, _, _, _⟩ := MemAt.use m1 x rfl
    have hk : (a - 1).toNat < m.C.length := by have h1 := hy.1; have h2 := hy.2; omega
    have rd : h1.rd x (a - 1).toNat = some (I (m.get a)) := by
      rw [rd_of q1]
      show (m.C.map I)[(a - 1).toNat]? = _
      rw [List.getElem?_map, PM.get, if_pos hy, List.getElem?_eq_getElem hk]; rfl
    simp only [af73, cwf_seq, cwf_ops, andThen_normal, owf_nil, o_p, owf_call, bo_eq, optQ_some, pop, popQ, ev, evs, putA, putArgs, look_put, ite_true, ite_false, Nat.reduceEqDiff, Nat.zero_add]
    refine ⟨_, _, F1, ?_⟩
    simp only [cwf_seq, cwf_ops, cwf_ret, c_false, cwf_skip, andThen_normal, fnQ_ret, owf_nil, o_p, o_r, behind_eq, bo_eq, optQ_some, pop, popQ, rop_load1, ldV_ptr, ev, putA, look_put, isB_false, resAll, resA, mkRes1, isNilV, Option.isNone_some, cond_false, ite_true, ite_false, Bool.not_false, Nat.reduceEqDiff, Option.some.injEq, exists_eq_left', rd]
    rw [tail_marks h h1 s1.marks]
    exact ⟨rfl, m1, s1⟩
  · simp only [af73, cwf_seq, cwf_ops, andThen_normal, owf_nil, o_p, owf_call, bo_eq, optQ_some, pop, popQ, ev, evs, putA, putArgs, look_put, ite_true, ite_false, Nat.reduceEqDiff, Nat.zero_add]
    refine ⟨_, _, F1, ?_⟩
    simp only [cwf_seq, cwf_ops, cwf_ret, c_true, andThen_normal, andThen_ret, fnQ_ret, owf_nil, o_p, behind_eq, bo_eq, optQ_some, pop, popQ, ev, putA, look_put, isB_true, resAll, resA, mkRes1, isNilV, Option.isNone_none, cond_false, ite_true, ite_false, Bool.not_true, Nat.reduceEqDiff, Option.some.injEq, exists_eq_left']
    rw [tail_marks h h1 s1.marks]
    exact ⟨by simp [PM.read, PM.get, hn], m1, s1⟩

omit hT V9 HM in
theorem PM.put_len (m : PM) (a x : Int) : (m.put a x).C.length = m.C.length := by
  unfold PM.put
  split
  · simp
  · rfl

omit hT V9 HM in
/-- a cell is written -/
theorem MemP.put {h : Heap} {b x : Nat} {m : PM} (mm : MemP h b (some x) m) {a : Int} (hy : m.isin a) (w : Int) :
    ∃ h', h.wrs x (a - 1).toNat [I w] = some h' ∧ MemP h' b (some x) (m.put a w) ∧ Same h h' (fun j => j = x) := by
  have hk : (a - 1).toNat < m.C.length := by have h1 := hy.1; have h2 := hy.2; omega
  obtain ⟨q1, q2, q3, q4⟩ := MemAt.use mm x rfl
  have ep : (m.put a w) = { m with C := m.C.set (a - 1).toNat w } := if_pos hy
  refine ⟨h.setB x (usedBlk (m.C.set (a - 1).toNat w)), ?_, ?_, Same.setB rfl⟩
  · rw [wrs1_of q1 rfl (by simp [usedBlk]; omega) rfl]
    simp [usedBlk, List.map_set]
  · rw [ep]
    refine ⟨?_, fun y hy => ?_, (fun e => by cases e), (show b < h.next from MemAt.lt mm)⟩
    · rw [setB_get, if_neg (Ne.symm q2), MemAt.blk mm]
      simp [useSl]
    · cases hy
      exact ⟨by rw [setB_get, if_pos rfl], q2, q3, fun e => by
        have := congrArg List.length e
        simp only [List.length_set, List.length_nil] at this
        omega⟩

omit hT V9 HM in
theorem PM.tick_put (m : PM) (a x : Int) : (m.tick a).put a x = (m.put a x).tick a := by
  have hi : (m.tick a).isin a ↔ m.isin a := Iff.rfl
  by_cases h : m.isin a
  · have e1 : (m.tick a).put a x = { m.tick a with C := m.C.set (a - 1).toNat x } := if_pos (hi.2 h)
    have e2 : m.put a x = { m with C := m.C.set (a - 1).toNat x } := if_pos h
    have h2 : (m.put a x).isin a := by rw [e2]; exact ⟨h.1, by simpa using h.2⟩
    rw [e1]
    have e3 : m.tick a = { m with c := m.c + 1, o := m.o } := by unfold PM.tick; rw [if_pos h]
    have e4 : (m.put a x).tick a = { m.put a x with c := (m.put a x).c + 1, o := (m.put a x).o } := by
      show ({ m.put a x with c := (m.put a x).c + 1, o := if (m.put a x).isin a then (m.put a x).o else (m.put a x).o + 1 } : PM) = _
      rw [if_pos h2]
    rw [e4, e3, e2]
  · have e1 : (m.tick a).put a x = m.tick a := if_neg (fun e => h (hi.1 e))
    have e2 : m.put a x = m := if_neg h
    rw [e1, e2]

theorem addP_spec {h : Heap} {b : Nat} {u : Option Nat} {m : PM} (mm : MemP h b u m) (f : m.fine) (a d : Int) (ha : -1000000000000000 ≤ a ∧ a ≤ 1000000000000000) :
    FSpec P 71 [.pointer (some ⟨b, 0, none⟩), I a, I d] h fun v h' => v = I (m.add a d).1 ∧ MemP h' b u (m.add a d).2 ∧ Same h h' (cl b u) := by
  refine fspec_cwf hT HM.madd rfl ?_
  obtain ⟨v1, h1, F1, hv, m1, s1⟩ := cellP_spec hT V9 mm f a ha
  rcases hv with ⟨hy, x, rfl, rfl⟩ | ⟨hn, rfl⟩
  · obtain ⟨q1, _, _, _⟩ := MemAt.use m1 x rfl
    have hk : (a - 1).toNat < m.C.length := by have h1 := hy.1; have h2 := hy.2; omega
    have rd : h1.rd x (a - 1).toNat = some (I (m.get a)) := by
      rw [rd_of q1]
      show (m.C.map I)[(a - 1).toNat]? = _
      rw [List.getElem?_map, PM.get, if_pos hy, List.getElem?_eq_getElem hk]; rfl
    obtain ⟨h2, w2, m2, s2⟩ := m1.put (a := a) hy (wrapF .i64 (m.get a + d))
    rw [PM.tick_put] at m2
    have sF : Same h h2 (cl b (some x)) := (s1.mono (fun j e => .inl e)).trans s2 (fun j hj e => .inr (by rw [e]))
    simp only [af71, cwf_seq, cwf_ops, andThen_normal, owf_nil, o_p, owf_call, bo_eq, optQ_some, pop, popQ, ev, evs, putA, putArgs, look_put, ite_true, ite_false, Nat.reduceEqDiff, Nat.reduceAdd, Nat.zero_add]
    refine ⟨_, _, F1, ?_⟩
    simp only [cwf_seq, cwf_ops, cwf_ret, c_false, cwf_skip, andThen_normal, fnQ_ret, owf_nil, o_p, o_r, o_e, behind_eq, bo_eq, optQ_some, opt2_some, pop, popQ, rop_load1, ldV_ptr, ev, putA, look_put, isB_false, abinF_eq, abin, resAll, resA, mkRes1, eop_store1, st1, scalar_int, isNilV, Option.isNone_some, decide_true, cond_true, cond_false, ite_true, ite_false, Bool.not_false, Nat.reduceEqDiff, Option.some.injEq, exists_eq_left', rd, w2]
    rw [tail_marks h h2 sF.marks]
    exact ⟨rfl, m2, sF⟩
  · simp only [af71, cwf_seq, cwf_ops, andThen_normal, owf_nil, o_p, owf_call, bo_eq, optQ_some, pop, popQ, ev, evs, putA, putArgs, look_put, ite_true, ite_false, Nat.reduceEqDiff, Nat.reduceAdd, Nat.zero_add]
    refine ⟨_, _, F1, ?_⟩
    simp only [cwf_seq, cwf_ops, cwf_ret, c_true, andThen_normal, andThen_ret, fnQ_ret, owf_nil, o_p, behind_eq, bo_eq, optQ_some, pop, popQ, ev, putA, look_put, isB_true, resAll, resA, mkRes1, isNilV, Option.isNone_none, cond_false, ite_true, ite_false, Bool.not_true, Nat.reduceEqDiff, Option.some.injEq, exists_eq_left']
    rw [tail_marks h h1 s1.marks]
    refine ⟨by simp [PM.add, PM.get, hn], ?_, s1.mono (fun j e => .inl e)⟩
    have : (m.add a d).2 = m.tick a := by simp [PM.add, PM.write, PM.put, hn]
    rw [this]; exact m1

theorem casP_spec {h : Heap} {b : Nat} {u : Option Nat} {m : PM} (mm : MemP h b u m) (f : m.fine) (a old w : Int) (ha : -1000000000000000 ≤ a ∧ a ≤ 1000000000000000) :
    FSpec P 174 [.pointer (some ⟨b, 0, none⟩), I a, I old, I w] h fun v h' => v = .bool (m.cas a old w).1 ∧ MemP h' b u (m.cas a old w).2 ∧ Same h h' (cl b u) := by
  refine fspec_cwf hT HM.mcas rfl ?_
  obtain ⟨v1, h1, F1, hv, m1, s1⟩ := cellP_spec hT V9 mm f a ha
  rcases hv with ⟨hy, x, rfl, rfl⟩ | ⟨hn, rfl⟩
  · obtain ⟨q1, _, _, _⟩ := MemAt.use m1 x rfl
    have hk : (a - 1).toNat < m.C.length := by have h1 := hy.1; have h2 := hy.2; omega
    have rd : h1.rd x (a - 1).toNat = some (I (m.get a)) := by
      rw [rd_of q1]
      show (m.C.map I)[(a - 1).toNat]? = _
      rw [List.getElem?_map, PM.get, if_pos hy, List.getElem?_eq_getElem hk]; rfl
    by_cases he : m.get a = old
    · obtain ⟨h2, w2, m2, s2⟩ := m1.put (a := a) hy w
      rw [PM.tick_put] at m2
      have sF : Same h h2 (cl b (some x)) := (s1.mono (fun j e => .inl e)).trans s2 (fun j hj e => .inr (by rw [e]))
      have ec : m.cas a old w = (true, m.write a w) := if_pos ⟨hy, he⟩
      simp only [af174, cwf_seq, cwf_ops, andThen_normal, owf_nil, o_p, owf_call, bo_eq, optQ_some, pop, popQ, ev, evs, putA, putArgs, look_put, ite_true, ite_false, Nat.reduceEqDiff, Nat.reduceAdd, Nat.zero_add]
      refine ⟨_, _, F1, ?_⟩
      have ce : (old != old) = false := by simp
      simp only [cwf_seq, cwf_ops, cwf_ret, c_false, cwf_skip, andThen_normal, fnQ_ret, owf_nil, o_p, o_r, o_e, o_on, behind_eq, bo_eq, optQ_some, opt2_some, pop, popQ, rop_load1, ldV_ptr, ev, putA, look_put, isB_false, abinF_eq, abin, resAll, resA, mkRes1, eop_store1, st1, scalar_int, isNilV, Option.isNone_some, decide_true, cond_true, cond_false, ite_true, ite_false, Bool.not_false, Nat.reduceEqDiff, Option.some.injEq, exists_eq_left', rd, he, ce, w2]
      rw [tail_marks h h2 sF.marks, ec]
      exact ⟨rfl, m2, sF⟩
    · have ce : (m.get a != old) = true := by simp [he]
      have ec : m.cas a old w = (false, m.tick a) := if_neg (fun e => he e.2)
      simp only [af174, cwf_seq, cwf_ops, andThen_normal, owf_nil, o_p, owf_call, bo_eq, optQ_some, pop, popQ, ev, evs, putA, putArgs, look_put, ite_true, ite_false, Nat.reduceEqDiff, Nat.reduceAdd, Nat.zero_add]
      refine ⟨_, _, F1, ?_⟩
      simp only [cwf_seq, cwf_ops, cwf_ret, c_true, andThen_normal, andThen_ret, fnQ_ret, owf_nil, o_p, o_r, o_on, behind_eq, bo_eq, optQ_some, pop, popQ, rop_load1, ldV_ptr, ev, putA, look_put, isB_true, isB_false, abinF_eq, abin, resAll, resA, mkRes1, isNilV, Option.isNone_some, decide_true, cond_true, cond_false, ite_true, ite_false, Bool.not_false, Nat.reduceEqDiff, Option.some.injEq, exists_eq_left', rd, ce]
      rw [tail_marks h h1 s1.marks, ec]
      exact ⟨rfl, m1, s1.mono (fun j e => .inl e)⟩
  · have ec : m.cas a old w = (false, m.tick a) := if_neg (fun e => hn e.1)
    simp only [af174, cwf_seq, cwf_ops, andThen_normal, owf_nil, o_p, owf_call, bo_eq, optQ_some, pop, popQ, ev, evs, putA, putArgs, look_put, ite_true, ite_false, Nat.reduceEqDiff, Nat.reduceAdd, Nat.zero_add]
    refine ⟨_, _, F1, ?_⟩
    simp only [cwf_seq, cwf_ops, cwf_ret, c_true, andThen_normal, andThen_ret, fnQ_ret, owf_nil, o_p, o_off, behind_eq, bo_eq, optQ_some, pop, popQ, ev, putA, look_put, isB_true, isB_false, resAll, resA, mkRes1, isNilV, Option.isNone_none, cond_true, cond_false, ite_true, ite_false, Bool.not_true, Nat.reduceEqDiff, Option.some.injEq, exists_eq_left']
    rw [tail_marks h h1 s1.marks, ec]
    exact ⟨rfl, m1, s1.mono (fun j e => .inl e)⟩
end
end
end Go.Proofs.YtpeihcpclcibgaaGreat.Ai
/- A memory with a tree below Root; what counting a change comes to. -/
namespace Go.Proofs.YtpeihcpclcibgaaGreat.Ai
open Go.Proofs.YtpeihcpclcibgaaGreat
noncomputable section
set_option linter.unusedVariables false
open Go.RowKit
structure HasT (tab : Nat → Option AFunc) : Prop where
  tsmall : tab 11 = some af11
  tnew : tab 19 = some af19
  tdone : tab 20 = some af20
  tstep : tab 21 = some af21
  tinner : tab 72 = some af72
  tonw : tab 74 = some af74
  tclone : tab 70 = some af70

theorem hasT : HasT tabT.get := ⟨by kernel_rfl, by kernel_rfl, by kernel_rfl, by kernel_rfl, by kernel_rfl, by kernel_rfl, by kernel_rfl⟩

/-- a step of a way down: the Inner that has the slot, the slot, the word -/
abbrev En := Int × Int × Int
def flat3 : List En → List Value
  | [] => []
  | e :: l => I e.1 :: I e.2.1 :: I e.2.2 :: flat3 l
theorem flat3_len : ∀ l : List En, (flat3 l).length = l.length * 3
  | [] => rfl
  | e :: l => by simp [flat3, flat3_len l]; omega
theorem flat3_scalar : ∀ l : List En, (flat3 l).all scalar = true
  | [] => rfl
  | e :: l => by simp [flat3, flat3_scalar l, scalar]
theorem flat3_app : ∀ a b : List En, flat3 (a ++ b) = flat3 a ++ flat3 b
  | [], b => rfl
  | e :: a, b => by simp [flat3, flat3_app a b]
theorem flat3_word : ∀ (l : List En) (i : Nat) (hi : i < l.length), (flat3 l)[i * 3 + 2]? = some (I l[i].2.2)
  | e :: l, 0, _ => rfl
  | e :: l, i + 1, hi => by
    have := flat3_word l i (by simpa using hi)
    rw [show (i + 1) * 3 + 2 = i * 3 + 2 + 1 + 1 + 1 by omega, flat3, List.getElem?_cons_succ, List.getElem?_cons_succ, List.getElem?_cons_succ, this]
    rfl

/-- the words of a way are Inners' -/
def wordsOf (E : List En) (L : List Nat) : Prop := E.length = L.length ∧ ∀ i (h : i < E.length) (h' : i < L.length), E[i].2.2 = (L[i] : Int) * 8 + 3

/-- counting, on its way -/
structure TyAt (h : Heap) (b : Nat) (E : List En) (uy : Option Nat) (nx : Int) (i : Nat) (was : Int) : Prop where
  blk : ∃ sl, h.blks.get b = some ⟨[I nx, sl, I i, I was, I (-1), .pointer none], 6, 6, true, false⟩ ∧ RowAt h sl 3 E.length (flat3 E) uy
  lt : b < h.next
  ub : uy ≠ some b
  ul : ∀ y, uy = some y → y < h.next

theorem TyAt.same {h h' : Heap} {b : Nat} {E : List En} {uy : Option Nat} {nx was : Int} {i : Nat} {S : Nat → Prop} (t : TyAt h b E uy nx i was) (s : Same h h' S) (hS : ∀ j, cl b uy j → ¬ S j) : TyAt h' b E uy nx i was := by
  obtain ⟨sl, e1, e2⟩ := t.blk
  exact ⟨⟨sl, by rw [s.get b t.lt (hS b (.inl rfl))]; exact e1, e2.same s (fun y hy => hS y (.inr hy))⟩, Nat.lt_of_lt_of_le t.lt s.next, t.ub, fun y hy => Nat.lt_of_lt_of_le (t.ul y hy) s.next⟩
theorem TyAt.cl_lt {h : Heap} {b : Nat} {E : List En} {uy : Option Nat} {nx was : Int} {i : Nat} (t : TyAt h b E uy nx i was) : ∀ j, cl b uy j → j < h.next := fun j hj => hj.elim (fun e => by rw [e]; exact t.lt) (fun e => t.ul j e)

theorem TyAt.set {h : Heap} {b : Nat} {E : List En} {uy : Option Nat} {nx was : Int} {i : Nat} (t : TyAt h b E uy nx i was) (nx' was' : Int) (i' : Nat) : ∃ sl, h.blks.get b = some ⟨[I nx, sl, I i, I was, I (-1), .pointer none], 6, 6, true, false⟩ ∧ TyAt (h.setB b ⟨[I nx', sl, I i', I was', I (-1), .pointer none], 6, 6, true, false⟩) b E uy nx' i' was' := by
  obtain ⟨sl, e1, e2⟩ := t.blk
  have s : Same h (h.setB b ⟨[I nx', sl, I i', I was', I (-1), .pointer none], 6, 6, true, false⟩) (· = b) := Same.setB rfl
  exact ⟨sl, e1, ⟨sl, by rw [setB_get, if_pos rfl], e2.same s (fun y hy e => t.ub (by rw [hy, e]))⟩, t.lt, t.ub, t.ul⟩

section
variable {P : Program} {tab : Nat → Option AFunc} (hT : TabOk P tab) (HT : HasT tab)
include hT HT

theorem clone3_spec {h : Heap} {v : Value} {l : List En} {u : Option Nat} (a : RowAt h v 3 l.length (flat3 l) u) (hl : l.length < 10000) : FSpec P 70 [v] h fun v' h' => (∃ u', RowAt h' v' 3 l.length (flat3 l) u' ∧ ∀ y, u' = some y → h.next ≤ y ∧ y < h'.next) ∧ Same h h' (fun _ => False) := by
  refine fspec_cwf hT HT.tclone rfl ?_
  have e1 : (h.new ⟨[], 0, 3, true, false⟩).blks.get h.next = some ⟨[], 0, 3, true, false⟩ := by rw [new_get]; exact if_pos rfl
  have s1 : Same h (h.new ⟨[], 0, 3, true, false⟩) (fun _ => False) := Same.new
  have l1 : (h.new ⟨[], 0, 3, true, false⟩).next = h.next + 1 := rfl
  have some_case : ∀ (base : Option Addr) (cap : Nat), v = .slice base l.length cap → base ≠ none → cwf P af70.n none af70.body (putArgs .nil 0 [v]) h (fnQ h af70.res fun v' h' => (∃ u', RowAt h' v' 3 l.length (flat3 l) u' ∧ ∀ y, u' = some y → h.next ≤ y ∧ y < h'.next) ∧ Same h h' (fun _ => False)) := by
    intro base cap hv hb
    have hs := (a.same s1 (fun _ _ x => x)).src
    obtain ⟨ba, rfl⟩ : ∃ ba, base = some ba := by
      cases base with
      | none => exact (hb rfl).elim
      | some ba => exact ⟨ba, rfl⟩
    generalize hh1 : h.new ⟨[], 0, 3, true, false⟩ = h1 at e1 s1 l1 hs
    obtain ⟨vi, h2, z, ap, mi, s2, ze, _⟩ := app_empty (bytes := 24) e1 (by omega) hs (by simp [flat3_len]) (flat3_scalar l) (by omega) (by omega) (by omega)
    subst hv
    simp only [af70, cwf_seq, cwf_ops, cwf_ret, c_false, cwf_skip, andThen_normal, fnQ_ret, owf_nil, o_p, o_e, behind_eq, bo_eq, optQ_some, opt2_some, pop, popQ, ev, putA, putArgs, look_put, isB_false, resAll, resA, mkRes1, eop_app, eop_buildS, bldS_some, evP_nil, fillA_nil, Nat.zero_mul, isNilV, Option.isNone_some, cond_false, ite_true, ite_false, Bool.not_false, Nat.reduceEqDiff, Option.some.injEq, exists_eq_left', hh1, ap]
    have sf : Same h h2 (fun _ => False) := s1.trans s2 (fun _ _ x => x)
    rw [tail_marks h h2 sf.marks]
    refine ⟨⟨some z, ?_, fun y hy => by cases hy; rcases mi with ⟨_, _, _, _, hz⟩ | ⟨_, o⟩ <;> refine ⟨by omega, ?_⟩ <;> first | exact hz | exact (o.use _ rfl).2.1⟩, sf⟩
    rcases mi with ⟨h0, hf, rfl, hz7, hz⟩ | ⟨rfl, o⟩
    · refine .inr ⟨z, 0, 0, rfl, by rw [h0], ⟨⟨_, hz7, rfl, by rw [hf, h0]; simp, by rw [h0]; simp⟩, by omega, hz⟩⟩
    · exact RowAt.of_own o
  rcases a with ⟨e, ef, rfl | ⟨b, o, k, rfl⟩⟩ | ⟨x, p, cap, e, rfl, r⟩
  · simp only [af70, cwf_seq, cwf_ops, cwf_ret, c_true, andThen_normal, andThen_ret, fnQ_ret, owf_nil, o_p, bo_eq, optQ_some, pop, popQ, ev, putA, putArgs, look_put, isB_true, resAll, resA, mkRes1, isNilV, Option.isNone_none, cond_false, ite_true, ite_false, Bool.not_true, Nat.reduceEqDiff, Option.some.injEq, exists_eq_left']
    exact ⟨⟨none, .inl ⟨e, ef, .inl rfl⟩, fun y hy => by cases hy⟩, Same.refl _ _⟩
  · exact some_case _ _ (by rw [e]) (by simp)
  · exact some_case _ _ rfl (by simp)

theorem tynew_spec {h : Heap} {v : Value} {E : List En} {u : Option Nat} (a : RowAt h v 3 E.length (flat3 E) u) (hl : E.length < 10000) :
    FSpec P 19 [v] h fun v' h' => ∃ b uy, v' = .pointer (some ⟨b, 0, none⟩) ∧ TyAt h' b E uy (if E = [] then 3 else 0) 0 0 ∧ (∀ j, cl b uy j → h.next ≤ j) ∧ Same h h' (fun _ => False) := by
  refine fspec_cwf hT HT.tnew rfl ?_
  obtain ⟨v1, h1, F1, ⟨u1, r1, hu1⟩, s1⟩ := clone3_spec hT HT a hl
  have x1 := s1.next
  obtain ⟨base1, cap1, hv1⟩ := r1.len
  have vsc : scalar v1 = true := by rw [hv1]; exact scalar_slice _ _ _
  have bx : boxV h1 6 (.agg (List.toArray [.int .i64 0, v1, .int .i64 0, .int .i64 0, I (-1), .pointer none])) = some (.pointer (some ⟨h1.next, 0, none⟩), h1.new ⟨[.int .i64 0, v1, .int .i64 0, .int .i64 0, I (-1), .pointer none], 6, 6, true, false⟩) := rfl
  have s2 : Same h1 (h1.new ⟨[.int .i64 0, v1, .int .i64 0, .int .i64 0, I (-1), .pointer none], 6, 6, true, false⟩) (fun _ => False) := Same.new
  have n2 : (h1.new ⟨[.int .i64 0, v1, .int .i64 0, .int .i64 0, I (-1), .pointer none], 6, 6, true, false⟩).next = h1.next + 1 := rfl
  have t2 : TyAt (h1.new ⟨[.int .i64 0, v1, .int .i64 0, .int .i64 0, I (-1), .pointer none], 6, 6, true, false⟩) h1.next E u1 0 0 0 :=
    ⟨⟨v1, by rw [new_get]; exact if_pos rfl, r1.same s2 (fun _ _ x => x)⟩, Nat.lt_succ_self _, fun e => by have := (hu1 _ e).2; omega, fun y hy => by have := (hu1 y hy).2; rw [n2]; omega⟩
  generalize h1.new ⟨[.int .i64 0, v1, .int .i64 0, .int .i64 0, I (-1), .pointer none], 6, 6, true, false⟩ = h2 at bx s2 n2 t2
  obtain ⟨base, cap, hv⟩ := a.len
  have kk : ∀ j, cl h1.next u1 j → h.next ≤ j := fun j hj => hj.elim (fun e => by omega) (fun e => (hu1 j e).1)
  cases E with
  | nil =>
    obtain ⟨sl, q1, q2⟩ := t2.set 3 0 0
    have w3 : h2.wrs h1.next 0 [I 3] = some (h2.setB h1.next ⟨[I 3, sl, I (0 : Nat), I 0, I (-1), .pointer none], 6, 6, true, false⟩) := wrs1_of q1 rfl (by simp) rfl
    have s3 : Same h2 (h2.setB h1.next ⟨[I 3, sl, I (0 : Nat), I 0, I (-1), .pointer none], 6, 6, true, false⟩) (· = h1.next) := Same.setB rfl
    generalize h2.setB h1.next ⟨[I 3, sl, I (0 : Nat), I 0, I (-1), .pointer none], 6, 6, true, false⟩ = h3 at w3 s3 q2
    have sf : Same h h3 (fun _ => False) := (s1.trans s2 (fun _ _ x => x)).trans s3 (fun j hj e => by omega)
    subst hv
    simp only [af19, cwf_seq, cwf_ops, andThen_normal, owf_nil, o_p, owf_call, bo_eq, optQ_some, pop, popQ, ev, evs, putA, putArgs, look_put, List.length_nil, Int.reduceNeg, ite_true, ite_false, Nat.reduceEqDiff]
    refine ⟨_, _, F1, ?_⟩
    simp only [cwf_seq, cwf_ops, cwf_ret, c_true, andThen_normal, fnQ_ret, owf_nil, o_p, o_e, behind_eq, bo_eq, optQ_some, opt2_some, pop, popQ, ev, putA, look_put, isB_true, abinF_eq, abin, resAll, resA, mkRes1, eop_store1, eop_box, st1, evP_nil, evP_cons, fillA_nil, fillA_one, List.length_cons, List.length_nil, List.set_cons_zero, List.set_cons_succ, Nat.reduceLT, Nat.add_zero, Int.cast_ofNat_Int, Int.reduceNeg, scalar_int, decide_true, cond_true, cond_false, ite_true, ite_false, Nat.reduceEqDiff, Nat.reduceAdd, Nat.zero_add, Option.some.injEq, exists_eq_left', vsc, bx, beq_self_eq_true, w3]
    rw [tail_marks h h3 sf.marks]
    exact ⟨h1.next, u1, rfl, q2, kk, sf⟩
  | cons e E =>
    have sf : Same h h2 (fun _ => False) := s1.trans s2 (fun _ _ x => x)
    have c0 : (((E.length + 1 : Nat) : Int) == 0) = false := by rw [beq_eq_false_iff_ne]; omega
    subst hv
    simp only [af19, cwf_seq, cwf_ops, andThen_normal, owf_nil, o_p, owf_call, bo_eq, optQ_some, pop, popQ, ev, evs, putA, putArgs, look_put, List.length_cons, Int.reduceNeg, ite_true, ite_false, Nat.reduceEqDiff]
    refine ⟨_, _, F1, ?_⟩
    simp only [cwf_seq, cwf_ops, cwf_ret, c_false, cwf_skip, andThen_normal, fnQ_ret, owf_nil, o_p, o_e, behind_eq, bo_eq, optQ_some, opt2_some, pop, popQ, ev, putA, look_put, isB_false, abinF_eq, abin, resAll, resA, mkRes1, eop_box, evP_nil, evP_cons, fillA_nil, fillA_one, List.length_cons, List.length_nil, List.set_cons_zero, List.set_cons_succ, Nat.reduceLT, Int.reduceNeg, scalar_int, decide_true, cond_true, cond_false, ite_true, ite_false, Bool.not_false, Nat.reduceEqDiff, Nat.reduceAdd, Nat.zero_add, Option.some.injEq, exists_eq_left', vsc, bx, c0]
    rw [tail_marks h h2 sf.marks]
    exact ⟨h1.next, u1, rfl, t2, kk, sf⟩

theorem tydone_spec {h : Heap} {b : Nat} {E : List En} {uy : Option Nat} {nx was : Int} {i : Nat} (t : TyAt h b E uy nx i was) : FSpec P 20 [.pointer (some ⟨b, 0, none⟩)] h fun v h' => v = .bool (nx == 3) ∧ h' = h := by
  refine fspec_cwf hT HT.tdone rfl ?_
  obtain ⟨sl, e1, e2⟩ := t.blk
  have r0 : h.rd b 0 = some (I nx) := rd_of e1
  simp only [af20, cwf_seq, cwf_ops, cwf_ret, andThen_normal, fnQ_ret, owf_nil, o_p, o_r, bo_eq, optQ_some, pop, popQ, rop_load1, ldV_ptr, ev, putA, putArgs, look_put, abinF_eq, abin, resAll, resA, mkRes1, Nat.add_zero, decide_true, cond_true, ite_true, ite_false, Nat.reduceEqDiff, Option.some.injEq, exists_eq_left', and_true, r0]

theorem tyinner_spec (V : HasV tab) (H : Has tab) {h : Heap} {b : Nat} {E : List En} {uy : Option Nat} {nx was : Int} {i : Nat} (t : TyAt h b E uy nx i was) (hi : i < E.length) {a : Nat} (a1 : 1 ≤ a) (a2 : a ≤ 65536) (ha : E[i].2.2 = (a : Int) * 8 + 3) :
    FSpec P 72 [.pointer (some ⟨b, 0, none⟩)] h fun v h' => v = I a ∧ h' = h := by
  refine fspec_cwf hT HT.tinner rfl ?_
  obtain ⟨sl, e1, e2⟩ := t.blk
  rcases e2 with ⟨e, _⟩ | ⟨x, p, cap, _, rfl, r⟩
  · omega
  have r1 : h.rd b 1 = some (.slice (some ⟨x, p, none⟩) E.length cap) := rd_of e1
  have r2 : h.rd b 2 = some (I i) := rd_of e1
  have ci : ((i : Int) < E.length) = True := by simp [hi]
  have rk : h.rd x (p + i * 3 + 2) = some (I ((a : Int) * 8 + 3)) := by
    rw [Nat.add_assoc, r.rd (by omega), flat3_word E i hi, ha]
  obtain ⟨_, h1, F, rfl, e1⟩ := refat_spec hT V H h a 3 a1 a2 (by omega) (by omega)
  rw [e1] at F
  have F' : Fact P 15 [I ((a : Int) * 8 + 3)] h (I a) h := F
  simp only [af72, cwf_seq, cwf_ops, cwf_draw, andThen_normal, owf_nil, o_p, bo_eq, bd_eq, optQ_some, d_p, d_r, pop, popQ, rop_load1, ldV_ptr, ev, putA, putArgs, look_put, ite_true, ite_false, Nat.reduceEqDiff, Nat.zero_add]
  refine ⟨cfOf 15 _ h _ h cf00, cfOf_ok F' cf00_ok, ?_⟩
  have g := @cfOf_eq 15 [I ((a : Int) * 8 + 3)] h (I a) h cf00
  simp only [cwf_ret, andThen_normal, fnQ_ret, bd_eq, bd2_eq, optQ_some, opt2_some, dwf_nil, d_p, d_r, d_call, pop, popQ, rop_load1, ldV_ptr, ev, evs, putA, look_put, resAll, resA, mkRes1, Int.toNat_natCast, Int.natCast_nonneg, inB_eq, decide_true, cond_true, ite_true, ite_false, Bool.and_true, Nat.reduceEqDiff, Nat.zero_add, Option.some.injEq, exists_eq_left', and_true, r1, r2, ci, rk, g]
end
end
end Go.Proofs.YtpeihcpclcibgaaGreat.Ai
/- A step of counting; a memory with a tree below Root. -/
namespace Go.Proofs.YtpeihcpclcibgaaGreat.Ai
open Go.Proofs.YtpeihcpclcibgaaGreat
noncomputable section
set_option linter.unusedVariables false
open Go.RowKit

section
variable {P : Program} {tab : Nat → Option AFunc} (hT : TabOk P tab) (HT : HasT tab)
include hT HT

theorem tyonw_spec {h : Heap} {b : Nat} {E : List En} {uy : Option Nat} {nx was : Int} {i : Nat} (t : TyAt h b E uy nx i was) (hi : i < E.length) (hl : E.length < 10000) :
    FSpec P 74 [.pointer (some ⟨b, 0, none⟩)] h fun v h' => TyAt h' b E uy (if i + 1 < E.length then 0 else 3) (i + 1) was ∧ Same h h' (· = b) := by
  refine fspec_cwf hT HT.tonw rfl ?_
  have wi : wrapF .i64 ((i : Int) + 1) = ((i + 1 : Nat) : Int) := by rw [wrapI] <;> omega
  obtain ⟨sl, e1, t1⟩ := t.set nx was (i + 1)
  have r2 : h.rd b 2 = some (I i) := rd_of e1
  have w1 : h.wrs b 2 [I (i + 1 : Nat)] = some (h.setB b ⟨[I nx, sl, I (i + 1 : Nat), I was, I (-1), .pointer none], 6, 6, true, false⟩) := wrs1_of e1 rfl (by simp) rfl
  have s1 : Same h (h.setB b ⟨[I nx, sl, I (i + 1 : Nat), I was, I (-1), .pointer none], 6, 6, true, false⟩) (· = b) := Same.setB rfl
  generalize h.setB b ⟨[I nx, sl, I (i + 1 : Nat), I was, I (-1), .pointer none], 6, 6, true, false⟩ = h1 at w1 s1 t1
  have fin : ∀ nx', ∃ h2, h1.wrs b 0 [I nx'] = some h2 ∧ TyAt h2 b E uy nx' (i + 1) was ∧ Same h h2 (· = b) := by
    intro nx'
    obtain ⟨sl1, e2, t2⟩ := t1.set nx' was (i + 1)
    exact ⟨_, wrs1_of e2 rfl (by simp) rfl, t2, s1.trans (Same.setB (S := (· = b)) rfl) (fun _ _ x => x)⟩
  obtain ⟨sl1, e2, _⟩ := t1.set 0 0 0
  obtain ⟨sl0, q1, q2⟩ := t1.blk
  have esl : sl1 = sl0 := by
    have := e2.symm.trans q1
    simpa using this
  subst esl
  obtain ⟨base, cap, hsl⟩ := q2.len
  subst hsl
  have r12 : h1.rd b 2 = some (I (i + 1 : Nat)) := rd_of e2
  have r11 : h1.rd b 1 = some (.slice base E.length cap) := rd_of e2
  have r14 : h1.rd b 4 = some (I (-1)) := rd_of e2
  by_cases hn : i + 1 < E.length
  · have c1 : (((i + 1 : Nat) : Int) < E.length) = True := by simp; omega
    obtain ⟨h2, w2, t2, s2⟩ := fin 0
    rw [if_pos hn]
    simp only [af74, cwf_seq, cwf_ops, cwf_block, cwf_draw, andThen_normal, owf_nil, o_p, o_r, o_e, behind_eq, bo_eq, bd_eq, optQ_some, opt2_some, d_p, d_r, pop, popQ, rop_load1, ldV_ptr, ev, putA, putArgs, look_put, abinF_eq, abin, eop_store1, st1, scalar_int, decide_true, cond_true, ite_true, ite_false, Nat.reduceEqDiff, Nat.zero_add, r2, wi, w1]
    refine ⟨cf00, cf00_ok, ?_⟩
    simp only [cwf_ops, c_true, andThen_normal, blockQ_normal, fnQ_normal, owf_nil, o_p, o_e, behind_eq, bo_eq, bd_eq, optQ_some, opt2_some, dwf_nil, d_p, d_r, pop, popQ, rop_load1, ldV_ptr, ev, putA, look_put, isB_true, abinF_eq, abin, resAll, eop_store1, st1, Nat.add_zero, scalar_int, decide_true, cond_true, cond_false, ite_true, ite_false, Nat.reduceEqDiff, Nat.zero_add, Option.some.injEq, exists_eq_left', r12, r11, c1, w2]
    rw [tail_marks h h2 s2.marks]
    exact ⟨t2, s2⟩
  · have c1 : (((i + 1 : Nat) : Int) < E.length) = False := by simp; omega
    have c2 : ((-1 : Int) ≥ 0) = False := by simp
    obtain ⟨h2, w2, t2, s2⟩ := fin 3
    rw [if_neg hn]
    simp only [af74, cwf_seq, cwf_ops, cwf_block, cwf_draw, andThen_normal, owf_nil, o_p, o_r, o_e, behind_eq, bo_eq, bd_eq, optQ_some, opt2_some, d_p, d_r, pop, popQ, rop_load1, ldV_ptr, ev, putA, putArgs, look_put, abinF_eq, abin, eop_store1, st1, scalar_int, decide_true, cond_true, ite_true, ite_false, Nat.reduceEqDiff, Nat.zero_add, r2, wi, w1]
    refine ⟨cf00, cf00_ok, ?_⟩
    simp only [cwf_seq, cwf_ops, c_false, andThen_normal, blockQ_normal, fnQ_normal, owf_nil, o_p, o_r, o_e, behind_eq, bo_eq, bd_eq, optQ_some, opt2_some, dwf_nil, d_p, d_r, pop, popQ, rop_load1, ldV_ptr, ev, putA, look_put, isB_false, abinF_eq, abin, resAll, eop_store1, st1, Nat.add_zero, Int.reduceNeg, scalar_int, decide_true, decide_false, cond_true, cond_false, ite_true, ite_false, Bool.not_false, Nat.reduceEqDiff, Nat.zero_add, Option.some.injEq, exists_eq_left', r12, r11, c1, r14, c2, w2]
    rw [tail_marks h h2 s2.marks]
    exact ⟨t2, s2⟩

variable (V : HasV tab) (H : Has tab) (V9 : HasV9 tab) (HM : HasM tab)
include V H V9 HM

/-- what a step of counting turns -/
abbrev TyS (b : Nat) (uy : Option Nat) (bm : Nat) (um : Option Nat) (j : Nat) : Prop := cl b uy j ∨ cl bm um j

theorem tystep0_spec {h : Heap} {b bm : Nat} {E : List En} {uy um : Option Nat} {was : Int} {i : Nat} {m : PM} (t : TyAt h b E uy 0 i was) (mm : MemP h bm um m) (f : m.fine) (dis : ∀ j, cl b uy j → ¬ cl bm um j) (hi : i < E.length) {a : Nat} (a1 : 1 ≤ a) (a2 : a ≤ 65536) (ha : E[i].2.2 = (a : Int) * 8 + 3) :
    FSpec P 21 [.pointer (some ⟨b, 0, none⟩), .pointer (some ⟨bm, 0, none⟩)] h fun v h' => v = .bool false ∧ TyAt h' b E uy 1 i (m.get ((a : Int) + 3)) ∧ MemP h' bm um (m.add ((a : Int) + 3) 1).2 ∧ Same h h' (TyS b uy bm um) := by
  refine fspec_cwf hT HT.tstep rfl ?_
  have w3 : wrapF .i64 ((a : Int) + 3) = (a : Int) + 3 := by rw [wrapI] <;> omega
  obtain ⟨_, h0, F1, rfl, e01⟩ := tyinner_spec hT HT V H t hi a1 a2 ha
  rw [e01] at F1
  obtain ⟨_, h1, F2, rfl, m1, s1⟩ := addP_spec hT V9 HM mm f ((a : Int) + 3) 1 (by omega)
  have t1 := t.same s1 (fun j hj => dis j hj)
  obtain ⟨sl, e2, t2⟩ := t1.set 0 (m.get ((a : Int) + 3)) i
  have wb : h1.wrs b 3 [I (m.get ((a : Int) + 3))] = some (h1.setB b ⟨[I 0, sl, I i, I (m.get ((a : Int) + 3)), I (-1), .pointer none], 6, 6, true, false⟩) := wrs1_of e2 rfl (by simp) rfl
  have s2 : Same h1 (h1.setB b ⟨[I 0, sl, I i, I (m.get ((a : Int) + 3)), I (-1), .pointer none], 6, 6, true, false⟩) (· = b) := Same.setB rfl
  generalize h1.setB b ⟨[I 0, sl, I i, I (m.get ((a : Int) + 3)), I (-1), .pointer none], 6, 6, true, false⟩ = h2 at wb s2 t2
  obtain ⟨sl2, e3, t3⟩ := t2.set 1 (m.get ((a : Int) + 3)) i
  have wc : h2.wrs b 0 [I 1] = some (h2.setB b ⟨[I 1, sl2, I i, I (m.get ((a : Int) + 3)), I (-1), .pointer none], 6, 6, true, false⟩) := wrs1_of e3 rfl (by simp) rfl
  have s3 : Same h2 (h2.setB b ⟨[I 1, sl2, I i, I (m.get ((a : Int) + 3)), I (-1), .pointer none], 6, 6, true, false⟩) (· = b) := Same.setB rfl
  generalize h2.setB b ⟨[I 1, sl2, I i, I (m.get ((a : Int) + 3)), I (-1), .pointer none], 6, 6, true, false⟩ = h3 at wc s3 t3
  have m3 := (m1.same s2 (fun j hj e => dis j (.inl e) hj)).same s3 (fun j hj e => dis j (.inl e) hj)
  have sF : Same h h3 (TyS b uy bm um) := ((s1.mono (T := TyS b uy bm um) (fun j e => .inr e)).trans s2 (fun j _ e => .inl (.inl e))).trans s3 (fun j _ e => .inl (.inl e))
  obtain ⟨_, h4, F4, rfl, e4⟩ := tydone_spec hT HT t3
  rw [e4] at F4
  have F4' : Fact P 20 [.pointer (some ⟨b, 0, none⟩)] h3 (.bool false) h3 := F4
  obtain ⟨sl0, e0, _⟩ := t.set 0 0 0
  have r0 : h.rd b 0 = some (I 0) := rd_of e0
  have k0 : ((0 : Int) == 0) = true := rfl
  simp only [af21, cwf_seq, cwf_ops, c_true, cwf_block, andThen_normal, owf_nil, o_p, o_r, owf_call, bo_eq, optQ_some, pop, popQ, rop_load1, ldV_ptr, ev, evs, putA, putArgs, look_put, isB_true, abinF_eq, abin, Nat.add_zero, decide_true, cond_true, ite_true, ite_false, Nat.reduceEqDiff, Nat.zero_add, r0, k0]
  refine ⟨_, _, F1, ?_⟩
  simp only [o_p, owf_call, behind_eq, bo_eq, optQ_some, pop, popQ, ev, evs, putA, look_put, abinF_eq, abin, decide_true, cond_true, ite_true, ite_false, Nat.reduceEqDiff, w3]
  refine ⟨_, _, F2, ?_⟩
  simp only [cwf_seq, cwf_ops, andThen_normal, blockQ_normal, owf_nil, o_p, o_e, owf_call, behind_eq, bo_eq, optQ_some, opt2_some, pop, popQ, ev, evs, putA, look_put, eop_store1, st1, Nat.add_zero, scalar_int, ite_true, ite_false, Nat.reduceEqDiff, Nat.zero_add, PM.add, wb, wc]
  refine ⟨_, _, F4', ?_⟩
  simp only [cwf_ret, andThen_normal, fnQ_ret, owf_nil, o_p, behind_eq, bo_eq, optQ_some, pop, popQ, ev, putA, look_put, resAll, resA, mkRes1, ite_true, ite_false, Nat.reduceEqDiff, Option.some.injEq, exists_eq_left', true_and]
  rw [tail_marks h h3 sF.marks]
  exact ⟨t3, m3, sF⟩

theorem tystep1_spec {h : Heap} {b bm : Nat} {E : List En} {uy um : Option Nat} {was : Int} {i : Nat} {m : PM} (t : TyAt h b E uy 1 i was) (mm : MemP h bm um m) (f : m.fine) (dis : ∀ j, cl b uy j → ¬ cl bm um j) (hi : i < E.length) (hl : E.length < 10000) {a : Nat} (a1 : 1 ≤ a) (a2 : a ≤ 65536) (ha : E[i].2.2 = (a : Int) * 8 + 3)
    (hz : 0 ≤ m.get ((a : Int) + 1) ∧ m.get ((a : Int) + 1) ≤ 16384) (hw : was < limN (m.get ((a : Int) + 1)) - 1) :
    FSpec P 21 [.pointer (some ⟨b, 0, none⟩), .pointer (some ⟨bm, 0, none⟩)] h fun v h' => v = .bool (!decide (i + 1 < E.length)) ∧ TyAt h' b E uy (if i + 1 < E.length then 0 else 3) (i + 1) was ∧ MemP h' bm um (m.tick ((a : Int) + 1)) ∧ Same h h' (TyS b uy bm um) := by
  refine fspec_cwf hT HT.tstep rfl ?_
  have w1 : wrapF .i64 ((a : Int) + 1) = (a : Int) + 1 := by rw [wrapI] <;> omega
  obtain ⟨_, h0, F1, rfl, e01⟩ := tyinner_spec hT HT V H t hi a1 a2 ha
  rw [e01] at F1
  obtain ⟨_, h1, F2, rfl, m1, s1⟩ := readP_spec hT V9 HM mm f ((a : Int) + 1) (by omega)
  have F2' : Fact P 73 [.pointer (some ⟨bm, 0, none⟩), I ((a : Int) + 1)] h (I (m.get ((a : Int) + 1))) h1 := F2
  have t1 := t.same s1 (fun j hj e => dis j hj (.inl e))
  obtain ⟨_, h2, F3, rfl, e2⟩ := limit_spec hT V h1 (m.get ((a : Int) + 1)) (by omega) (by omega)
  rw [e2] at F3
  have lz : limN (m.get ((a : Int) + 1)) = m.get ((a : Int) + 1) / 4 + 2 := if_pos hz
  have wl : wrapF .i64 (limN (m.get ((a : Int) + 1)) - 1) = limN (m.get ((a : Int) + 1)) - 1 := by rw [lz, wrapI] <;> omega
  obtain ⟨sl, e3, _⟩ := t1.set 0 0 0
  have r4 : h1.rd b 4 = some (I (-1)) := rd_of e3
  have r3 : h1.rd b 3 = some (I was) := rd_of e3
  have c1 : ((-1 : Int) < 0) = True := by simp
  have c2 : (was ≥ limN (m.get ((a : Int) + 1)) - 1) = False := by simp; omega
  obtain ⟨v4, h4, F4, t4, s4⟩ := tyonw_spec hT HT t1 hi hl
  have m4 := MemP.same m1 s4 (fun j hj e => dis j (.inl e) hj)
  have sF : Same h h4 (TyS b uy bm um) := (s1.mono (T := TyS b uy bm um) (fun j e => .inr (.inl e))).trans s4 (fun j _ e => .inl (.inl e))
  obtain ⟨_, h5, F5, e50, e5⟩ := tydone_spec hT HT t4
  rw [e5, e50] at F5
  obtain ⟨sl0, e0, _⟩ := t.set 0 0 0
  have r0 : h.rd b 0 = some (I 1) := rd_of e0
  have k0 : ((1 : Int) == 0) = false := rfl
  have k1 : ((1 : Int) == 1) = true := rfl
  have ed : ((if i + 1 < E.length then (0 : Int) else 3) == 3) = !decide (i + 1 < E.length) := by
    by_cases hn : i + 1 < E.length
    · rw [if_pos hn]; simp [hn]
    · rw [if_neg hn]; simp [hn]
  rw [ed] at F5
  simp only [af21, cwf_seq, cwf_ops, c_true, c_false, cwf_block, andThen_normal, owf_nil, o_p, o_r, owf_call, bo_eq, optQ_some, pop, popQ, rop_load1, ldV_ptr, ev, evs, putA, putArgs, look_put, isB_true, isB_false, abinF_eq, abin, Nat.add_zero, decide_true, cond_true, ite_true, ite_false, Bool.not_false, Nat.reduceEqDiff, Nat.zero_add, r0, k0, k1]
  refine ⟨_, _, F1, ?_⟩
  simp only [o_p, owf_call, behind_eq, bo_eq, optQ_some, pop, popQ, ev, evs, putA, look_put, abinF_eq, abin, decide_true, cond_true, ite_true, ite_false, Nat.reduceEqDiff, w1]
  refine ⟨_, _, F2', ?_⟩
  simp only [owf_call, behind_eq, ev, evs, putA, look_put, ite_true, ite_false, Nat.reduceEqDiff]
  refine ⟨_, _, F3, ?_⟩
  simp only [cwf_seq, cwf_ops, c_false, cwf_skip, andThen_normal, owf_nil, o_p, o_r, owf_call, o_on, behind_eq, bo_eq, optQ_some, pop, popQ, rop_load1, ldV_ptr, ev, evs, putA, look_put, isB_true, isB_false, abinF_eq, abin, Int.reduceNeg, decide_true, decide_false, cond_true, ite_true, ite_false, Bool.not_false, Nat.reduceEqDiff, Nat.zero_add, o_on, r4, c1, r3, wl, c2]
  refine ⟨_, _, F4, ?_⟩
  simp only [cwf_seq, cwf_ops, andThen_normal, blockQ_normal, owf_nil, o_p, owf_call, behind_eq, bo_eq, optQ_some, pop, popQ, ev, evs, putA, look_put, Int.reduceNeg, ite_true, ite_false, Nat.reduceEqDiff]
  refine ⟨_, _, F5, ?_⟩
  simp only [cwf_ret, andThen_normal, fnQ_ret, owf_nil, o_p, behind_eq, bo_eq, optQ_some, pop, popQ, ev, putA, look_put, resAll, resA, mkRes1, Int.reduceNeg, ite_true, ite_false, Nat.reduceEqDiff, Option.some.injEq, exists_eq_left', true_and]
  rw [tail_marks h h4 sF.marks]
  exact ⟨t4, m4, sF⟩
end
end
end Go.Proofs.YtpeihcpclcibgaaGreat.Ai
/- A memory with a tree below Root; changes counted along a way. -/
namespace Go.Proofs.YtpeihcpclcibgaaGreat.Ai
open Go.Proofs.YtpeihcpclcibgaaGreat
noncomputable section
set_option linter.unusedVariables false
open Go.RowKit

theorem PM.get_at0 (m : PM) (k : Nat) : m.get (k : Int) = at0 m.C k := by
  unfold PM.get at0
  by_cases h0 : k = 0
  · subst h0
    rw [if_pos rfl, if_neg (fun e => by have := e.1; omega)]
  · rw [if_neg h0]
    by_cases h1 : m.isin (k : Int)
    · rw [if_pos h1, show ((k : Int) - 1).toNat = k - 1 by omega]
    · rw [if_neg h1]
      have : m.C.length ≤ k - 1 := by
        rcases Nat.lt_or_ge (k - 1) m.C.length with h | h
        · exact (h1 ⟨by omega, by omega⟩).elim
        · exact h
      rw [List.getElem?_eq_none this]; rfl

theorem PM.add_at {m : PM} {a : Nat} (h : a + 3 ≤ m.C.length) (h0 : at0 m.C (a + 3) = 0) : m.get ((a : Int) + 3) = 0 ∧ (m.add ((a : Int) + 3) 1).2 = { m with C := m.C.set (a + 2) 1, c := m.c + 1 } := by
  have e : ((a : Int) + 3) = ((a + 3 : Nat) : Int) := by omega
  have hg : m.get ((a : Int) + 3) = 0 := by rw [e, PM.get_at0, h0]
  have hi : m.isin ((a : Int) + 3) := ⟨by omega, by omega⟩
  refine ⟨hg, ?_⟩
  have e1 : m.put ((a : Int) + 3) 1 = { m with C := m.C.set (a + 2) 1 } := by
    unfold PM.put; rw [if_pos hi, show ((a : Int) + 3 - 1).toNat = a + 2 by omega]
  show (m.put ((a : Int) + 3) (wrapF .i64 (m.get ((a : Int) + 3) + 1))).tick ((a : Int) + 3) = _
  rw [hg, show wrapF .i64 (0 + 1) = 1 from by decide, e1]
  show ({ m with C := m.C.set (a + 2) 1, c := m.c + 1, o := if (PM.isin { m with C := m.C.set (a + 2) 1 } ((a : Int) + 3)) then m.o else m.o + 1 } : PM) = _
  rw [if_pos ⟨hi.1, by simpa using hi.2⟩]

theorem PM.tick_in {m : PM} {a : Int} (h : m.isin a) : m.tick a = { m with c := m.c + 1 } := by
  unfold PM.tick; rw [if_pos h]

theorem fine_of {C : List Int} {z c o r : Int} (h1 : (C.length : Int) ≤ z) (h2 : z ≤ 65536) (hc : 0 ≤ c ∧ c < 1000000000) (ho : 0 ≤ o ∧ o < 1000000000) (hr : 0 ≤ r ∧ r < 1000000000) : PM.fine ⟨C, z, c, o, r⟩ := ⟨by show 0 ≤ z; omega, h2, h1, by show 0 ≤ c ∧ c < _; omega, by show 0 ≤ o ∧ o < _; omega, by show 0 ≤ r ∧ r < _; omega⟩

theorem takeS {α : Type} {L : List α} {j : Nat} (h : j < L.length) : L.take (j + 1) = L.take j ++ [L[j]] := by
  rw [List.take_add_one, List.getElem?_eq_getElem h]; rfl

theorem cells_few {n : Nat} (h : n ≤ 60) : cellsN n ≤ 1100 := by
  by_cases h2 : 2 ≤ n
  · exact (partN h2 (by omega)).most
  · have : n = 0 ∨ n = 1 := by omega
    rcases this with e | e
    · rw [e, cells0]; omega
    · rw [e, cells1]; omega

section
variable {P : Program} {tab : Nat → Option AFunc} (hT : TabOk P tab) (HT : HasT tab)
include hT HT

/-- a memory whose Root leads to an ideal tree -/
theorem small_spec (H : Has tab) (V9 : HasV9 tab) (Nu : Num P) {h : Heap} {v : Value} {l : List Pr} {u : Option Nat} (z : Nat) (hz1 : 1200 ≤ z) (hz2 : z ≤ 65536) (a : PrAt h v l u) (hasc : Asc l) (hl : l.length ≤ 60) (ul : ∀ y, u = some y → y < h.next) :
    FSpec P 11 [I z, v] h fun v' h' => ∃ (t : Tr) (L : List Int) (b x : Nat) (c : Int), v' = .tuple #[.pointer (some ⟨b, 0, none⟩), I t.word] ∧ LaidAt t t.word L l 7 ∧ L.length ≤ 1100 ∧ MemP h' b (some x) ⟨[1, 0, 0, 0, 0, t.word, 0] ++ L, z, c, 0, 0⟩ ∧ (0 ≤ c ∧ c ≤ 1200) ∧ (∀ j, cl b (some x) j → h.next ≤ j) ∧ Same h h' (fun _ => False) := by
  refine fspec_cwf hT HT.tsmall rfl ?_
  obtain ⟨_, h2, F2, rfl, m2, s2⟩ := new_spec hT H h z (by omega) (by omega)
  have x2 := s2.next
  have hb1 := m2.lt
  obtain ⟨_, h3, F3, rfl, ⟨u3, m3, n3⟩, s3⟩ := begin_spec hT H V9 m2 (by omega) (by omega) ⟨by omega, by omega⟩
  have x3 := s3.next
  have s13 : Same h h3 (fun _ => False) := s2.trans s3 (fun j hj e => by omega)
  have hcm := cells_few hl
  have hu3 : ∀ y, u3 = some y → h.next ≤ y := fun y hy => by have := n3 y hy; omega
  obtain ⟨v4, h4, F4, hb⟩ := build_spec hT H Nu (a.same s13 (fun _ _ x => x)) (by omega) m3 (fun e => by have := ul _ e; omega) (fun y hy e => by have := ul y hy; have := hu3 y e; omega) (by simp; omega) (by omega) (by omega) (by omega)
  have S := treeF_spec (l.length + 1) l 7 (by omega) (by omega)
  have hLl : (layF (l.length + 1) l 7).2.length = cellsN l.length := layF_len _ _ _ (by omega) (by omega)
  have e7 : ([1, 0, 0, 0, 0, 57, 0] : List Int).length = 7 := rfl
  rw [e7] at hb
  rcases hb with ⟨rfl, _, hroom, ⟨u4, c4, m4, c41, c42, n4⟩, s4⟩ | ⟨rfl, hno, rfl⟩
  rotate_left
  · exact (hno ⟨hasc, by simp; omega⟩).elim
  generalize (layF (l.length + 1) l 7).1 = w at S F4
  generalize (layF (l.length + 1) l 7).2 = LL at S m4 hLl
  generalize treeF (l.length + 1) l 7 = t at S
  obtain rfl := S.word
  have x4 := s4.next
  obtain ⟨x, rfl⟩ : ∃ y, u4 = some y := by
    cases u4 with
    | none => have := m4.non rfl; simp at this
    | some y => exact ⟨y, rfl⟩
  have hxx : h.next ≤ x := by
    rcases n4 x rfl with e | e
    · exact hu3 x e
    · omega
  have s14 : Same h h4 (fun _ => False) := s13.trans s4 (fun j hj e => by
    rcases e with e | e
    · omega
    · have := hu3 _ e; omega)
  have hC4 : ([1, 0, 0, 0, 0, 57, 0] ++ LL).length = 7 + cellsN l.length := by simp [hLl]; omega
  obtain ⟨_, h5, F5, m5, s5⟩ := write_spec hT V9 m4 ⟨by omega, by omega⟩ (a := 6) (by omega) (by omega) (by omega) t.word
  have eset : ([1, 0, 0, 0, 0, 57, 0] ++ LL).set (6 - 1) t.word = [1, 0, 0, 0, 0, t.word, 0] ++ LL := rfl
  rw [eset] at m5
  have s15 : Same h h5 (fun _ => False) := s14.trans s5 (fun j hj e => by omega)
  simp only [af11, cwf_seq, cwf_ops, andThen_normal, owf_nil, o_p, owf_call, bo_eq, optQ_some, pop, popQ, ev, evs, putA, putArgs, look_put, ite_true, ite_false, Nat.reduceEqDiff, Nat.zero_add, List.nil_append, List.cons_append]
  refine ⟨_, _, F2, ?_⟩
  simp only [cwf_seq, cwf_ops, c_false, cwf_skip, andThen_normal, owf_nil, o_p, owf_call, behind_eq, bo_eq, optQ_some, pop, popQ, ev, evs, putA, look_put, isB_false, isNilV, Option.isNone_some, cond_false, ite_true, ite_false, Bool.not_false, Nat.reduceEqDiff, List.getElem?_cons_zero, List.getElem?_cons_succ]
  refine ⟨_, _, F3, ?_⟩
  simp only [cwf_seq, cwf_ops, andThen_normal, owf_nil, o_p, owf_call, behind_eq, bo_eq, optQ_some, pop, popQ, ev, evs, putA, look_put, ite_true, ite_false, Nat.reduceEqDiff]
  refine ⟨_, _, F4, ?_⟩
  simp only [cwf_seq, cwf_ops, andThen_normal, owf_nil, o_p, owf_call, behind_eq, bo_eq, optQ_some, pop, popQ, ev, evs, putA, look_put, ite_true, ite_false, Nat.reduceEqDiff, List.getElem?_cons_zero, List.getElem?_cons_succ]
  refine ⟨_, _, F5, ?_⟩
  simp only [cwf_seq, cwf_ops, cwf_ret, andThen_normal, fnQ_ret, owf_nil, o_p, behind_eq, bo_eq, optQ_some, pop, popQ, ev, putA, look_put, resAll, resA, mkRes2, ite_true, ite_false, Nat.reduceEqDiff, Option.some.injEq, exists_eq_left']
  rw [tail_marks h h5 s15.marks]
  exact ⟨t, LL, h.next, x, c4 + 1, rfl, S, by omega, m5, ⟨by omega, by omega⟩, fun j hj => hj.elim (fun e => by omega) (fun e => by cases e; exact hxx), s15⟩
end

/-- counting along a way: this entry is next, or its size is read next -/
structure TyI (h1 h : Heap) (bm xm bf : Nat) (E : List En) (L : List Nat) (C : List Int) (z : Int) (j : Nat) (mid : Bool) : Prop where
  ex : ∃ (uy : Option Nat) (was c : Int), TyAt h bf E uy (if mid then 1 else if j < E.length then 0 else 3) j was ∧ (mid = true → was = 0 ∧ j < E.length) ∧ MemP h bm (some xm) ⟨addC C (L.take (if mid then j + 1 else j)), z, c, 0, 0⟩ ∧ (0 ≤ c ∧ c ≤ 2000 + 2 * j + (if mid then 1 else 0)) ∧ (∀ y, cl bf uy y → ¬ cl bm (some xm) y) ∧ (∀ y, cl bf uy y → h1.next ≤ y)
  le : j ≤ E.length
  same : Same h1 h (cl bm (some xm))

section
variable {P : Program} {tab : Nat → Option AFunc} (hT : TabOk P tab) (HT : HasT tab) (V : HasV tab) (H : Has tab) (V9 : HasV9 tab) (HM : HasM tab)
include hT HT V H V9 HM

theorem tyI_step {h1 h : Heap} {bm xm bf : Nat} {E : List En} {L : List Nat} {C : List Int} {z : Int} {j : Nat} {mid : Bool} (g : TyI h1 h bm xm bf E L C z j mid) (hE : wordsOf E L) (w : Way C L) (hz : (C.length : Int) ≤ z ∧ z ≤ 65536) (hlen : E.length ≤ 9) (hj : j < E.length) :
    ∃ v h', Fact P 21 [.pointer (some ⟨bf, 0, none⟩), .pointer (some ⟨bm, 0, none⟩)] h v h' ∧ TyI h1 h' bm xm bf E L C z (if mid then j + 1 else j) (!mid) := by
  obtain ⟨uy, was, c, t, hmid, mm, hc, dis, lo⟩ := g.ex
  have hjL : j < L.length := by rw [← hE.1]; exact hj
  have hdrop : L.take j ++ L[j] :: L.drop (j + 1) = L := by
    rw [← List.drop_eq_getElem_cons hjL, List.take_append_drop]
  have wn : Way C (L.take j ++ L[j] :: L.drop (j + 1)) := by rw [hdrop]; exact w
  obtain ⟨a1, a2, a3, a4, a5, a6, a7⟩ := wn.next
  have hw := hE.2 j hj hjL
  rw [addC_len] at a2
  have nx := g.same.next
  cases mid with
  | false =>
    have t : TyAt h bf E uy (if j < E.length then 0 else 3) j was := t
    rw [if_pos hj] at t
    have mm : MemP h bm (some xm) ⟨addC C (L.take j), z, c, 0, 0⟩ := mm
    have ff : PM.fine ⟨addC C (L.take j), z, c, 0, 0⟩ := fine_of (by rw [addC_len]; omega) (by omega) (by simp at hc; omega) (by omega) (by omega)
    obtain ⟨_, h', F, rfl, t', m', s'⟩ := tystep0_spec hT HT V H V9 HM t mm ff dis hj a1 (by omega) hw
    obtain ⟨e1, e2⟩ := PM.add_at (m := ⟨addC C (L.take j), z, c, 0, 0⟩) (a := L[j]) (by simp only [addC_len]; omega) a3
    rw [e1] at t'
    rw [e2, ← addC_snoc, ← takeS hjL] at m'
    exact ⟨_, h', F, ⟨⟨uy, 0, c + 1, t', fun _ => ⟨rfl, hj⟩, m', by simp at hc ⊢; omega, dis, lo⟩, g.le, g.same.trans s' (fun y hy e => e.elim (fun e => by have := lo y e; omega) id)⟩⟩
  | true =>
    obtain ⟨rfl, _⟩ := hmid rfl
    have t : TyAt h bf E uy 1 j 0 := t
    have mm : MemP h bm (some xm) ⟨addC C (L.take (j + 1)), z, c, 0, 0⟩ := mm
    have ff : PM.fine ⟨addC C (L.take (j + 1)), z, c, 0, 0⟩ := fine_of (by rw [addC_len]; omega) (by omega) (by simp at hc; omega) (by omega) (by omega)
    have eg : PM.get ⟨addC C (L.take (j + 1)), z, c, 0, 0⟩ ((L[j] : Int) + 1) = at0 C (L[j] + 1) := by
      rw [show ((L[j] : Int) + 1) = ((L[j] + 1 : Nat) : Int) by omega, PM.get_at0]
      show at0 (addC C (L.take (j + 1))) _ = _
      rw [takeS hjL, addC_snoc]; exact a7
    have lz : limN (at0 C (L[j] + 1)) = at0 C (L[j] + 1) / 4 + 2 := if_pos ⟨a5, by omega⟩
    obtain ⟨v, h', F, _, t', m', s'⟩ := tystep1_spec hT HT V H V9 HM t mm ff dis hj (by omega) a1 (by omega) hw (by rw [eg]; omega) (by rw [eg, lz]; omega)
    rw [PM.tick_in ⟨by omega, by simp only [addC_len]; omega⟩] at m'
    exact ⟨_, h', F, ⟨⟨uy, 0, c + 1, t', (fun e => absurd e (by simp)), m', by simp at hc ⊢; omega, dis, lo⟩, hj, g.same.trans s' (fun y hy e => e.elim (fun e => by have := lo y e; omega) id)⟩⟩

omit HM V V9 H in
theorem tyI_done {h1 h : Heap} {bm xm bf : Nat} {E : List En} {L : List Nat} {C : List Int} {z : Int} {j : Nat} {mid : Bool} (g : TyI h1 h bm xm bf E L C z j mid) : Fact P 20 [.pointer (some ⟨bf, 0, none⟩)] h (.bool (!mid && !decide (j < E.length))) h := by
  obtain ⟨uy, was, c, t, hmid, _⟩ := g.ex
  obtain ⟨_, h', F, rfl, e⟩ := tydone_spec hT HT t
  rw [e] at F
  have : ((if mid = true then (1 : Int) else if j < E.length then 0 else 3) == 3) = (!mid && !decide (j < E.length)) := by
    cases mid with
    | true => rfl
    | false =>
      by_cases hn : j < E.length
      · simp [hn]
      · simp [hn]
  rw [this] at F
  exact F
end
end
end Go.Proofs.YtpeihcpclcibgaaGreat.Ai
/- TallyAdds, for all arguments. -/
namespace Go.Proofs.YtpeihcpclcibgaaGreat.Ai
open Go.Proofs.YtpeihcpclcibgaaGreat
noncomputable section
set_option linter.unusedVariables false
open Go.RowKit
def pre3_6 (x : ACode) : ACode := (.seq (.ops [⟨(some 4), .p (.mov (.c (.bool false))), none⟩]) (.seq (.ops [⟨(some 20), .p (.mov (.t 0)), none⟩, ⟨(some 21), .call 12 [(.t 20)], none⟩, ⟨(some 22), .call 11 [(.c (.int .i64 2000)), (.t 21)], none⟩, ⟨(some 19), .p (.mov (.t 22)), none⟩, ⟨(some 23), .p (.ext 0 (.t 19)), none⟩, ⟨(some 24), .p (.ext 1 (.t 19)), none⟩, ⟨(some 5), .p (.mov (.t 23)), none⟩, ⟨(some 6), .p (.mov (.t 24)), none⟩]) (.seq (.seq (.ops [⟨(some 25), .p (.mov (.t 5)), none⟩, ⟨(some 26), .p (.eqNil 0 false (.t 25)), none⟩]) (.cond (.t 26) (.seq (.ops [⟨(some 4), .p (.mov (.c (.bool false))), none⟩]) .ret) .skip)) (.seq (.ops [⟨(some 7), .p (.mov (.c (.slice none 0 0))), none⟩]) (.seq (.ops [⟨(some 8), .p (.mov (.c (.int .i64 1))), none⟩, ⟨(some 9), .p (.mov (.c (.int .i64 6))), none⟩]) (.seq (.seq (.ops [⟨(some 10), .p (.mov (.c (.int .i64 0))), none⟩]) (.block 0 (.loop (.seq (.seq (.ops [⟨(some 27), .p (.mov (.t 10)), none⟩, ⟨(some 28), .p (.bin .lss false (.t 27) (.c (.int .i64 9))), none⟩, ⟨(some 29), .p (.mov (.t 28)), none⟩, ⟨(some 30), .p (.mov (.t 5)), some (29, true)⟩, ⟨(some 31), .p (.mov (.t 9)), some (29, true)⟩, ⟨(some 32), .call 14 [(.t 30), (.t 31)], some (29, true)⟩, ⟨(some 33), .call 13 [(.t 32)], some (29, true)⟩, ⟨(some 34), .p (.bin .eql false (.t 33) (.c (.int .i64 3))), some (29, true)⟩, ⟨(some 35), .p (.pick (.t 29) (.t 34) (.c (.bool false))), none⟩]) (.cond (.t 35) .skip (.exit 0))) (.seq (.block 1 (.seq (.ops [⟨(some 38), .p (.mov (.t 7)), none⟩, ⟨(some 39), .p (.mov (.t 8)), none⟩, ⟨(some 40), .p (.mov (.t 9)), none⟩, ⟨(some 41), .p (.mov (.t 5)), none⟩, ⟨(some 42), .p (.mov (.t 9)), none⟩, ⟨(some 43), .call 14 [(.t 41), (.t 42)], none⟩, ⟨(some 44), .p (.build [(.int .i64 0), (.int .i64 0), (.int .i64 0)] [(0, 1, (.t 39)), (1, 1, (.t 40)), (2, 1, (.t 43))]), none⟩, ⟨(some 45), .e (.buildS 3 1 [(.int .i64 0), (.int .i64 0), (.int .i64 0)] [(0, 3, (.t 44))]), none⟩, ⟨(some 46), .e (.app 3 24 (.t 38) (.t 45)), none⟩, ⟨(some 7), .p (.mov (.t 46)), none⟩]) (.seq (.ops [⟨(some 47), .p (.mov (.t 5)), none⟩, ⟨(some 48), .p (.mov (.t 9)), none⟩, ⟨(some 49), .call 14 [(.t 47), (.t 48)], none⟩, ⟨(some 50), .call 15 [(.t 49)], none⟩, ⟨(some 8), .p (.mov (.t 50)), none⟩]) (.seq (.ops [⟨(some 11), .p (.mov (.c (.int .i64 0))), none⟩]) (.seq (.seq (.ops [⟨(some 51), .p (.mov (.t 10)), none⟩, ⟨(some 52), .p (.mov (.t 1)), none⟩, ⟨(some 53), .p (.len false (.t 52)), none⟩, ⟨(some 54), .p (.bin .lss false (.t 51) (.t 53)), none⟩]) (.cond (.t 54) (.ops [⟨(some 55), .p (.mov (.t 1)), none⟩, ⟨(some 56), .p (.mov (.t 10)), none⟩, ⟨(some 57), .p (.idxS 1 (.t 55) (.t 56)), none⟩, ⟨(some 58), .r (.load1 (.t 57)), none⟩, ⟨(some 11), .p (.mov (.t 58)), none⟩]) .skip)) (.ops [⟨(some 59), .p (.mov (.t 8)), none⟩, ⟨(some 60), .p (.mov (.t 5)), none⟩, ⟨(some 61), .p (.mov (.t 8)), none⟩, ⟨(some 62), .call 14 [(.t 60), (.t 61)], none⟩, ⟨(some 63), .p (.mov (.t 11)), none⟩, ⟨(some 64), .p (.mov (.t 5)), none⟩, ⟨(some 65), .p (.mov (.t 8)), none⟩, ⟨(some 66), .call 14 [(.t 64), (.t 65)], none⟩, ⟨(some 67), .call 17 [(.t 63), (.t 66)], none⟩, ⟨(some 68), .call 16 [(.t 59), (.t 62), (.t 67)], none⟩, ⟨(some 9), .p (.mov (.t 68)), none⟩])))))) (.ops [⟨(some 36), .p (.mov (.t 10)), none⟩, ⟨(some 37), .p (.bin .add false (.t 36) (.c (.int .i64 1))), none⟩, ⟨(some 10), .p (.mov (.t 37)), none⟩])))))) x))))))
def rest3_6 : ACode := (.seq (.ops [⟨(some 69), .p (.mov (.t 5)), none⟩, ⟨(some 70), .call 18 [(.t 69)], none⟩, ⟨(some 12), .p (.mov (.t 70)), none⟩]) (.seq (.ops [⟨(some 71), .p (.mov (.t 7)), none⟩, ⟨(some 72), .call 19 [(.t 71)], none⟩, ⟨(some 13), .p (.mov (.t 72)), none⟩]) (.seq (.ops [⟨(some 14), .p (.mov (.c (.int .i64 0))), none⟩]) (.seq (.block 2 (.loop (.seq (.seq (.ops [⟨(some 73), .p (.mov (.t 14)), none⟩, ⟨(some 74), .p (.bin .lss false (.t 73) (.c (.int .i64 100))), none⟩, ⟨(some 75), .p (.mov (.t 74)), none⟩, ⟨(some 76), .p (.mov (.t 13)), some (75, true)⟩, ⟨(some 77), .call 20 [(.t 76)], some (75, true)⟩, ⟨(some 78), .p (.not (.t 77)), some (75, true)⟩, ⟨(some 79), .p (.pick (.t 75) (.t 78) (.c (.bool false))), none⟩]) (.cond (.t 79) .skip (.exit 2))) (.block 3 (.seq (.ops [⟨(some 80), .p (.mov (.t 13)), none⟩, ⟨(some 81), .p (.mov (.t 5)), none⟩, ⟨(some 82), .call 21 [(.t 80), (.t 81)], none⟩]) (.ops [⟨(some 83), .p (.mov (.t 14)), none⟩, ⟨(some 84), .p (.bin .add false (.t 83) (.c (.int .i64 1))), none⟩, ⟨(some 14), .p (.mov (.t 84)), none⟩])))))) (.seq (.ops [⟨(some 85), .p (.mov (.t 5)), none⟩, ⟨(some 86), .call 18 [(.t 85)], none⟩, ⟨(some 15), .p (.mov (.t 86)), none⟩]) (.seq (.seq (.ops [⟨(some 87), .p (.mov (.t 7)), none⟩, ⟨(some 88), .p (.len false (.t 87)), none⟩, ⟨(some 89), .p (.mov (.c (.int .i64 0))), none⟩]) (.block 4 (.loop (.seq (.ops [⟨(some 90), .p (.bin .lss false (.t 89) (.t 88)), none⟩]) (.seq (.cond (.t 90) .skip (.exit 4)) (.seq (.block 5 (.seq (.ops [⟨(some 91), .p (.idxS 3 (.t 87) (.t 89)), none⟩, ⟨(some 92), .r (.loadN 3 (.t 91)), none⟩, ⟨(some 17), .e (.alloc [(.int .i64 0), (.int .i64 0), (.int .i64 0)]), none⟩, ⟨none, .e (.store 3 (.t 17) (.t 92)), none⟩]) (.seq (.ops [⟨(some 93), .p (.fieldAddr 2 (.t 17)), none⟩, ⟨(some 94), .r (.load1 (.t 93)), none⟩, ⟨(some 95), .call 15 [(.t 94)], none⟩, ⟨(some 96), .p (.bin .add false (.t 95) (.c (.int .i64 3))), none⟩, ⟨(some 97), .p (.bin .sub false (.t 96) (.c (.int .i64 1))), none⟩, ⟨(some 18), .p (.mov (.t 97)), none⟩]) (.seq (.seq (.draw [⟨(some 98), .p (.mov (.t 15)), none⟩, ⟨(some 99), .p (.mov (.t 18)), none⟩, ⟨(some 100), .p (.idxS 1 (.t 98) (.t 99)), none⟩, ⟨(some 101), .r (.load1 (.t 100)), none⟩, ⟨(some 102), .p (.mov (.t 12)), none⟩, ⟨(some 103), .p (.mov (.t 18)), none⟩, ⟨(some 104), .p (.idxS 1 (.t 102) (.t 103)), none⟩, ⟨(some 105), .r (.load1 (.t 104)), none⟩, ⟨(some 106), .p (.bin .add false (.t 105) (.c (.int .i64 1))), none⟩, ⟨(some 107), .p (.bin .neq false (.t 101) (.t 106)), none⟩] []) (.cond (.t 107) (.seq (.ops [⟨(some 4), .p (.mov (.c (.bool false))), none⟩]) .ret) .skip)) (.ops [⟨(some 108), .p (.mov (.t 12)), none⟩, ⟨(some 109), .p (.mov (.t 18)), none⟩, ⟨(some 110), .p (.mov (.t 15)), none⟩, ⟨(some 111), .p (.mov (.t 18)), none⟩, ⟨(some 112), .p (.idxS 1 (.t 110) (.t 111)), none⟩, ⟨(some 113), .r (.load1 (.t 112)), none⟩, ⟨(some 114), .p (.idxS 1 (.t 108) (.t 109)), none⟩, ⟨none, .e (.store 1 (.t 114) (.t 113)), none⟩]))))) (.ops [⟨(some 115), .p (.bin .add false (.t 89) (.c (.int .i64 1))), none⟩, ⟨(some 89), .p (.mov (.t 115)), none⟩]))))))) (.seq (.ops [⟨(some 116), .call 22 [], none⟩, ⟨(some 117), .p (.mov (.t 116)), none⟩, ⟨(some 118), .p (.mov (.t 13)), some (117, true)⟩, ⟨(some 119), .call 20 [(.t 118)], some (117, true)⟩, ⟨(some 120), .p (.pick (.t 117) (.t 119) (.c (.bool false))), none⟩, ⟨(some 121), .p (.mov (.t 120)), none⟩, ⟨(some 122), .p (.mov (.t 14)), some (121, true)⟩, ⟨(some 123), .p (.mov (.t 7)), some (121, true)⟩, ⟨(some 124), .p (.len false (.t 123)), some (121, true)⟩, ⟨(some 125), .p (.bin .mul false (.c (.int .i64 2)) (.t 124)), some (121, true)⟩, ⟨(some 126), .p (.bin .eql false (.t 122) (.t 125)), some (121, true)⟩, ⟨(some 127), .p (.pick (.t 121) (.t 126) (.c (.bool false))), none⟩, ⟨(some 128), .p (.mov (.t 127)), none⟩, ⟨(some 129), .p (.mov (.t 12)), some (128, true)⟩, ⟨(some 130), .p (.mov (.t 15)), some (128, true)⟩, ⟨(some 131), .call 23 [(.t 129), (.t 130)], some (128, true)⟩, ⟨(some 132), .p (.pick (.t 128) (.t 131) (.c (.bool false))), none⟩, ⟨(some 133), .p (.mov (.t 132)), none⟩, ⟨(some 134), .p (.mov (.t 6)), some (133, true)⟩, ⟨(some 135), .p (.bin .neq false (.t 134) (.c (.int .i64 0))), some (133, true)⟩, ⟨(some 136), .p (.mov (.t 135)), some (133, true)⟩, ⟨(some 137), .p (.mov (.t 7)), some (136, false)⟩, ⟨(some 138), .p (.len false (.t 137)), some (136, false)⟩, ⟨(some 139), .p (.bin .eql false (.t 138) (.c (.int .i64 0))), some (136, false)⟩, ⟨(some 140), .p (.pick (.t 136) (.c (.bool true)) (.t 139)), some (133, true)⟩, ⟨(some 141), .p (.pick (.t 133) (.t 140) (.c (.bool false))), none⟩, ⟨(some 4), .p (.mov (.t 141)), none⟩]) .ret)))))))
theorem cut3_6 : af3.body = pre3_6 rest3_6 := (rfl)
structure HasTA (tab : Nat → Option AFunc) : Prop where
  tadds : tab 3 = some af3

theorem hasTA : HasTA tabT.get := ⟨by kernel_rfl⟩

theorem fillA_trip {v u w x y z : Value} : fillA [v, u, w] [(0, 3, .agg #[x, y, z])] = some [x, y, z] := (rfl)
theorem fillA_trip' {v u w x y z : Value} : fillA [v, u, w] [(0, 3, .agg (List.toArray [x, y, z]))] = some [x, y, z] := (rfl)

theorem flat3_cut : ∀ (l : List En) (i : Nat) (hi : i < l.length), ((flat3 l).drop (i * 3)).take 3 = [I l[i].1, I l[i].2.1, I l[i].2.2]
  | e :: l, 0, _ => rfl
  | e :: l, i + 1, hi => by
    have := flat3_cut l i (by simpa using hi)
    rw [show (i + 1) * 3 = i * 3 + 1 + 1 + 1 by omega, flat3, List.drop_succ_cons, List.drop_succ_cons, List.drop_succ_cons, this]
    rfl

theorem OwnAt.mapset {h : Heap} {y n : Nat} {C : List Int} (o : OwnAt h (some y) 1 n (C.map I)) (hn : C.length = n) {k : Nat} (hk : k < n) (x : Int) : ∃ h', h.wrs y k [I x] = some h' ∧ OwnAt h' (some y) 1 n ((C.set k x).map I) ∧ Same h h' (· = y) := by
  obtain ⟨q1, q2, q3⟩ := o.use y rfl
  refine ⟨_, wrs1_of q1 rfl (by rw [List.length_map]; omega) (scalar_int _ _), { use := fun z hz => ?_, non := (fun e => by cases e), len := (by simp [hn]), sc := (by rw [List.all_eq_true]; intro x hx; obtain ⟨y, _, rfl⟩ := List.mem_map.1 hx; rfl) }, Same.setB rfl⟩
  cases hz
  refine ⟨by rw [setB_get, if_pos rfl]; simp [List.map_set], q2, q3⟩

/-- the way so far -/
structure WyI (h1 h : Heap) (C : List Int) (i : Nat) (n s : Int) (E : List En) (L : List Nat) (t : Tr) (lt : List Pr) (up : Option Nat) : Prop where
  way : WayAt C L t lt
  wd : wordsOf E L
  len : E.length = i
  own : OwnAt h up 3 E.length (flat3 E)
  up : ∀ y, up = some y → h1.next ≤ y
  slot : ∃ k : Nat, s = (k : Int) ∧ k < 1000000 ∧ at0 C k = t.word
  same : Same h1 h (fun _ => False)

theorem WyI.step {h1 h : Heap} {C : List Int} {i : Nat} {n s : Int} {E : List En} {L : List Nat} {a : Nat} {sz sh ch sm : Int} {ks : List Int} {cs : List Tr} {lt : List Pr} {up : Option Nat} (g : WyI h1 h C i n s E L (.inner a sz sh ch sm ks cs) lt up) (hi : i < 100) (hC : C.length ≤ 65536) {k : Nat} (hk : k < cs.length) :
    ∃ up' h2, appV (h.new ⟨[I n, I s, I ((a : Int) * 8 + 3)], 3, 3, true, false⟩) 3 24 (ownSl up E.length) (.slice (some ⟨h.next, 0, none⟩) 1 1) = some (ownSl up' (E.length + 1), h2) ∧ WyI h1 h2 C (i + 1) a ((a + 4 + cs.length + k : Nat) : Int) (E ++ [(n, s, (a : Int) * 8 + 3)]) (L ++ [a]) cs[k] (partL lt k) up' := by
  obtain ⟨w', ⟨q1, q2, q3, q4⟩, q5, q6⟩ := g.way.step hk
  have hcell : RdAt (h.new ⟨[I n, I s, I ((a : Int) * 8 + 3)], 1 * 3, 3, true, false⟩) h.next 0 3 1 1 [I n, I s, I ((a : Int) * 8 + 3)] := RdAt.fresh h _ 1 3 true false rfl
  have s4 : Same h (h.new ⟨[I n, I s, I ((a : Int) * 8 + 3)], 1 * 3, 3, true, false⟩) (fun _ => False) := Same.new
  have hlen := g.len
  obtain ⟨up', h2, ha, o2, s5, n5⟩ := app_own (bytes := 24) (g.own.same s4 (fun _ _ x => x)) hcell.src rfl rfl (by omega) (by omega) (by omega)
  have nx := g.same.next
  refine ⟨up', h2, ha, ⟨w', ⟨by rw [List.length_append, List.length_append, g.wd.1]; rfl, fun j hj hj' => ?_⟩, by rw [List.length_append, hlen]; rfl, by rw [List.length_append, flat3_app]; exact o2, fun y hy => ?_, ⟨a + 4 + cs.length + k, rfl, by omega, q6⟩, (g.same.trans s4 (fun _ _ x => x)).trans s5 (fun y hy e => by have := g.up y e; omega)⟩⟩
  · rcases Nat.lt_or_ge j E.length with h | h
    · rw [List.getElem_append_left h, List.getElem_append_left (by rw [← g.wd.1]; exact h)]
      exact g.wd.2 j h _
    · have e : j = E.length := by simp at hj; omega
      subst e
      rw [List.getElem_append_right (Nat.le_refl _), List.getElem_append_right (by rw [g.wd.1]; exact Nat.le_refl _)]
      simp
  · rcases n5 y hy with e | e
    · exact g.up y e
    · rw [e, new_next]; omega

section
variable {P : Program} {tab : Nat → Option AFunc} (hT : TabOk P tab) (HT : HasT tab) (V : HasV tab) (H : Has tab) (V9 : HasV9 tab) (HM : HasM tab)
include hT HT V H V9 HM

set_option maxHeartbeats 2000000 in
/-- behind the way -/
theorem tail_spec (Kn : ∀ h, Fact P 22 [] h (.bool true) h) {h0 h1 h : Heap} {bm xm : Nat} {C : List Int} {c w : Int} {E : List En} {L : List Nat} {up : Option Nat} (mm : MemP h bm (some xm) ⟨C, 2000, c, 0, 0⟩) (hc : 0 ≤ c ∧ c ≤ 1200) (hCl : C.length ≤ 2000) (hC7 : 7 ≤ C.length) (wy : Way C L) (wd : wordsOf E L) (hlen : E.length ≤ 9) (own : OwnAt h up 3 E.length (flat3 E)) (hup : ∀ y, up = some y → h1.next ≤ y) (hupm : ∀ y, up = some y → ¬ cl bm (some xm) y) (mlo : ∀ y, cl bm (some xm) y → h1.next ≤ y) (sm : Same h1 h (fun _ => False)) (s01 : Same h0 h1 (fun _ => False)) (hw : w ≠ 0)
    (ts : Ai.T Value) (t5 : look ts 5 = .pointer (some ⟨bm, 0, none⟩)) (t6 : look ts 6 = I w) (t7 : look ts 7 = ownSl up E.length) :
    cwf P 142 none rest3_6 ts h (fnQ h0 [.tmp 4] fun v h' => v = .bool true ∧ Same h0 h' (fun _ => False)) := by
  have hL := wd.1
  have mlt := mm.lt
  obtain ⟨v2, h2, F2, ⟨uw, rfl, ow, fw⟩, s2⟩ := cells_spec hT H mm (by show C.length < _; omega)
  have F2' : Fact P 18 [.pointer (some ⟨bm, 0, none⟩)] h (ownSl uw C.length) h2 := F2
  have ow : OwnAt h2 uw 1 C.length (C.map I) := ow
  obtain ⟨yw, rfl⟩ : ∃ y, uw = some y := by
    cases uw with
    | none => have := ow.non rfl; omega
    | some y => exact ⟨y, rfl⟩
  have nyw := fw yw rfl
  have ywl := (ow.use yw rfl).2.1
  have x2 := s2.next
  have own2 := own.same s2 (fun _ _ x => x)
  have mm2 := mm.same s2 (fun _ _ x => x)
  obtain ⟨_, h3, F3, bf, uy, rfl, ty, tlo, s3⟩ := tynew_spec hT HT (RowAt.of_own own2) (by omega)
  have x3 := s3.next
  have mm3 := mm2.same s3 (fun _ _ x => x)
  have g0 : TyI h2 h3 bm xm bf E L C 2000 0 false := ⟨⟨uy, 0, c, by
      have e : (if E = [] then (3 : Int) else 0) = (if false then 1 else if 0 < E.length then 0 else 3) := by
        cases E <;> simp
      rw [← e]; exact ty, (fun e => absurd e (by simp)), mm3, by simp; omega, fun y hy e => by have := tlo y hy; have := mlt y e; omega, fun y hy => tlo y hy⟩, Nat.zero_le _, s3.mono (fun _ x => x.elim)⟩
  have upl : ∀ y, up = some y → y < h.next ∧ ¬ cl bm (some xm) y := fun y hy => ⟨(own.use y hy).2.1, hupm y hy⟩
  have nm : ∀ y, h.next ≤ y → ¬ cl bm (some xm) y := fun y hy e => by have := mlt y e; omega
  simp only [rest3_6, cwf_seq, cwf_ops, o_p, owf_call, bo_eq, optQ_some, pop, popQ, ev, evs, putA, look_put, ite_true, t5]
  refine ⟨_, _, F2', ?_⟩
  simp only [cwf_seq, cwf_ops, andThen_normal, owf_nil, o_p, owf_call, behind_eq, bo_eq, optQ_some, pop, popQ, ev, evs, putA, look_put, ite_true, ite_false, Nat.reduceEqDiff, t7]
  refine ⟨_, _, F3, ?_⟩
  simp only [cwf_seq, cwf_ops, cwf_block, cwf_loop, andThen_normal, owf_nil, o_p, behind_eq, bo_eq, optQ_some, pop, popQ, ev, putA, look_put, ite_true, ite_false, Nat.reduceEqDiff]
  refine cw_loop (fun kr ts h' => ∃ (j : Nat) (mid : Bool), kr = 2 * E.length - (2 * j + (if mid then 1 else 0)) ∧ 2 * j + (if mid then 1 else 0) ≤ 2 * E.length ∧ look ts 5 = .pointer (some ⟨bm, 0, none⟩) ∧ look ts 6 = I w ∧ look ts 7 = ownSl up E.length ∧ look ts 12 = ownSl (some yw) C.length ∧ look ts 13 = .pointer (some ⟨bf, 0, none⟩) ∧ look ts 14 = I (2 * j + (if mid then 1 else 0) : Nat) ∧ TyI h2 h' bm xm bf E L C 2000 j mid) ?_ (n := 2 * E.length) ⟨0, false, rfl, by simp, by simp only [look_put, ite_false, Nat.reduceEqDiff, t5], by simp only [look_put, ite_false, Nat.reduceEqDiff, t6], by simp only [look_put, ite_false, Nat.reduceEqDiff, t7], by simp only [look_put, ite_true, ite_false, Nat.reduceEqDiff], by simp only [look_put, ite_true, ite_false, Nat.reduceEqDiff], by simp only [look_put, ite_true, ite_false, Nat.reduceEqDiff, Nat.zero_add, Nat.reduceMul] <;> rfl, g0⟩
  clear t5 t6 t7
  rintro kr ts h' ⟨j, mid, rfl, hjm, t5, t6, t7, t12, t13, t14, g⟩
  have c100 : (((2 * j + (if mid then 1 else 0) : Nat) : Int) < 100) = True := by simp; omega
  have wc : wrapF .i64 (((2 * j + (if mid then 1 else 0) : Nat) : Int) + 1) = ((2 * j + (if mid then 1 else 0) + 1 : Nat) : Int) := by rw [wrapI] <;> omega
  have FD := tyI_done hT HT g
  by_cases hd : mid = false ∧ j = E.length
  rotate_left
  · have hjlt : j < E.length := by
      rcases Nat.lt_or_ge j E.length with h | h
      · exact h
      · have hle := g.le
        have e : j = E.length := by omega
        cases mid with
        | false => exact (hd ⟨rfl, e⟩).elim
        | true => simp at hjm; omega
    have ed : (!mid && !decide (j < E.length)) = false := by simp [hjlt]
    rw [ed] at FD
    obtain ⟨v4, h4, F4, g4⟩ := tyI_step hT HT V H V9 HM g wd wy ⟨by omega, by omega⟩ hlen hjlt
    have em : 2 * (if mid then j + 1 else j) + (if (!mid) then 1 else 0) = 2 * j + (if mid then 1 else 0) + 1 := by
      cases mid <;> simp <;> omega
    have hst1 : 2 * j + (if mid then 1 else 0) + 1 ≤ 2 * E.length := by
      cases mid <;> simp <;> omega
    generalize hst : 2 * j + (if mid then 1 else 0) = st at em hst1 t14 c100 wc hjm ⊢
    refine cwf_cw ?_
    simp only [cwf_seq, cwf_ops, o_p, owf_call, o_on, bo_eq, optQ_some, pop, popQ, ev, evs, putA, look_put, isB_true, abinF_eq, abin, decide_true, cond_true, ite_true, ite_false, Nat.reduceEqDiff, o_on, t13, t14, c100]
    refine ⟨_, _, FD, ?_⟩
    simp only [cwf_seq, cwf_ops, c_true, cwf_skip, cwf_block, andThen_normal, owf_nil, o_p, owf_call, o_on, behind_eq, bo_eq, optQ_some, pop, popQ, ev, evs, putA, look_put, isB_true, cond_true, ite_true, ite_false, Bool.not_false, Nat.reduceEqDiff, o_on, t5, t13]
    refine ⟨_, _, F4, ?_⟩
    simp only [cwf_ops, andThen_normal, blockQ_normal, roundQ_normal, owf_nil, o_p, behind_eq, bo_eq, optQ_some, pop, popQ, ev, putA, look_put, abinF_eq, abin, decide_true, cond_true, ite_true, ite_false, Nat.reduceEqDiff, true_and, t5, t6, t7, t12, t13, t14, wc]
    exact ⟨2 * E.length - (st + 1), by omega, if mid then j + 1 else j, !mid, by rw [em], by rw [em]; omega, by rw [em], g4⟩
  · obtain ⟨rfl, rfl⟩ := hd
    have ed : (!false && !decide (E.length < E.length)) = true := by simp
    rw [ed] at FD
    obtain ⟨uy2, was2, c2, ty2, _, mm4, hc2, dis2, lo2⟩ := g.ex
    have mm4 : MemP h' bm (some xm) ⟨addC C (L.take E.length), 2000, c2, 0, 0⟩ := mm4
    rw [hL, List.take_length] at mm4
    have nx4 := g.same.next
    obtain ⟨v5, h5, F5, ⟨un, rfl, on, fn⟩, s5⟩ := cells_spec hT H mm4 (by show (addC C L).length < _; rw [addC_len]; omega)
    have x5 := s5.next
    have on : OwnAt h5 un 1 (addC C L).length ((addC C L).map I) := on
    have F5 : Fact P 18 [.pointer (some ⟨bm, 0, none⟩)] h' (ownSl un (addC C L).length) h5 := F5
    rw [addC_len] at on F5
    obtain ⟨yn, rfl⟩ : ∃ y, un = some y := by
      cases un with
      | none => have := on.non rfl; omega
      | some y => exact ⟨y, rfl⟩
    have nyn := fn yn rfl
    have ow4 := ow.same g.same (fun y hy => by cases hy; exact nm yw nyw)
    have ow5 := ow4.same s5 (fun _ _ x => x)
    have own5 := (own2.same g.same (fun y hy => (upl y hy).2)).same s5 (fun _ _ x => x)
    have s05 : Same h0 h5 (cl bm (some xm)) := ((((s01.trans sm (fun _ _ x => x)).trans s2 (fun _ _ x => x)).mono (T := cl bm (some xm)) (fun _ x => x.elim)).trans g.same (fun _ _ x => x)).trans s5 (fun _ _ x => x.elim)
    have mlo0 : ∀ y, cl bm (some xm) y → h0.next ≤ y := fun y hy => by have := mlo y hy; have := s01.next; omega
    refine cwf_cw ?_
    simp only [cwf_seq, cwf_ops, o_p, owf_call, o_on, bo_eq, optQ_some, pop, popQ, ev, evs, putA, look_put, isB_true, abinF_eq, abin, decide_true, cond_true, ite_true, ite_false, Nat.reduceEqDiff, o_on, t13, t14, c100]
    refine ⟨_, _, FD, ?_⟩
    simp only [cwf_seq, cwf_ops, c_false, cwf_exit, andThen_normal, andThen_exit, blockQ_exit, roundQ_exit, owf_nil, o_p, owf_call, o_on, behind_eq, bo_eq, optQ_some, pop, popQ, ev, evs, putA, look_put, isB_true, isB_false, cond_true, ite_true, ite_false, Bool.not_true, Bool.not_false, Nat.reduceEqDiff, o_on, t5]
    refine ⟨_, _, F5, ?_⟩
    simp only [cwf_seq, cwf_ops, cwf_block, cwf_loop, andThen_normal, owf_nil, o_p, behind_eq, bo_eq, optQ_some, pop, popQ, ev, putA, look_put, cond_false, ite_true, ite_false, Nat.reduceEqDiff, t7, ownSl]
    refine cw_loop (fun kr ts h' => ∃ (j : Nat), kr = E.length - j ∧ j ≤ E.length ∧ look ts 6 = I w ∧ look ts 7 = ownSl up E.length ∧ look ts 12 = ownSl (some yw) C.length ∧ look ts 13 = .pointer (some ⟨bf, 0, none⟩) ∧ look ts 14 = I (2 * E.length : Nat) ∧ look ts 15 = ownSl (some yn) C.length ∧ look ts 87 = ownSl up E.length ∧ look ts 88 = I E.length ∧ look ts 89 = I j ∧ OwnAt h' (some yw) 1 C.length ((addC C (L.take j)).map I) ∧ Same h5 h' (· = yw)) ?_ (n := E.length) ⟨0, rfl, Nat.zero_le _, by simp only [look_put, ite_false, Nat.reduceEqDiff, t6], by simp only [look_put, ite_false, Nat.reduceEqDiff, t7], by simp only [look_put, ite_false, Nat.reduceEqDiff, t12], by simp only [look_put, ite_false, Nat.reduceEqDiff, t13], by simp only [look_put, ite_false, Nat.reduceEqDiff, t14] <;> simp, by simp only [look_put, ite_true, ite_false, Nat.reduceEqDiff] <;> rfl, by simp only [look_put, ite_true, ite_false, Nat.reduceEqDiff] <;> rfl, by simp only [look_put, ite_true, ite_false, Nat.reduceEqDiff] <;> rfl, by simp only [look_put, Int.cast_ofNat_Int, ite_true, ite_false, Nat.reduceEqDiff] <;> rfl, ow5, Same.refl _ _⟩
    clear t5 t6 t7 t12 t13 t14
    rintro kr ts h6 ⟨j, rfl, hj, t6, t7, t12, t13, t14, t15, t87, t88, t89, ow6, s6⟩
    have wj : wrapF .i64 ((j : Int) + 1) = ((j + 1 : Nat) : Int) := by rw [wrapI] <;> omega
    by_cases hjl : j < E.length
    · have cj : ((j : Int) < E.length) = True := by simp [hjl]
      have hjL : j < L.length := by omega
      have hdrop : L.take j ++ L[j] :: L.drop (j + 1) = L := by
        rw [← List.drop_eq_getElem_cons hjL, List.take_append_drop]
      have wn : Way C (L.take j ++ L[j] :: L.drop (j + 1)) := by rw [hdrop]; exact wy
      obtain ⟨a1, a2, a3, a4, a5, a6, a7⟩ := wn.next
      rw [addC_len] at a2
      have hww := wd.2 j hjl hjL
      obtain ⟨yp, rfl⟩ : ∃ y, up = some y := by
        cases up with
        | none => have := own.non rfl; omega
        | some y => exact ⟨y, rfl⟩
      have hyp := upl yp rfl
      have own6 := own5.same s6 (fun y hy e => by cases hy; omega)
      obtain ⟨p1, p2, p3⟩ := own6.use yp rfl
      have e3 : ldN h6 3 (.pointer (some ⟨yp, 0 + j * 3, none⟩)) = some (.agg (List.toArray [I E[j].1, I E[j].2.1, I E[j].2.2])) := ldN_of (l := [I E[j].1, I E[j].2.1, I E[j].2.2]) (by
        rw [rds_of p1 (by simp only [flat3_len]; omega), Nat.zero_add]
        exact congrArg some (flat3_cut E j hjl))
      have e3' : ldN h6 3 (.pointer (some ⟨yp, j * 3, none⟩)) = some (.agg (List.toArray [I E[j].1, I E[j].2.1, I E[j].2.2])) := by rw [← e3, Nat.zero_add]
      obtain ⟨h7, w7, g7, s7, n7, r7⟩ := newPut (h := h6) (m := 3) (Z := [.int .i64 0, .int .i64 0, .int .i64 0]) (L := [I E[j].1, I E[j].2.1, I E[j].2.2]) rfl rfl (by omega) (by simp [scalar])
      have r72 : h7.rd h6.next 2 = some (I ((L[j] : Int) * 8 + 3)) := by rw [rd_of g7, ← hww]; rfl
      obtain ⟨_, _, F8, rfl, e8⟩ := refat_spec hT V H h7 L[j] 3 a1 (by omega) (by omega) (by omega)
      rw [e8] at F8
      have F8' : Fact P 15 [I ((L[j] : Int) * 8 + 3)] h7 (I L[j]) h7 := F8
      have w3 : wrapF .i64 ((L[j] : Int) + 3) = ((L[j] + 3 : Nat) : Int) := by rw [wrapI] <;> omega
      have w2 : wrapF .i64 (((L[j] + 3 : Nat) : Int) - 1) = ((L[j] + 2 : Nat) : Int) := by rw [wrapI] <;> omega
      have ow7 := ow6.same s7 (fun _ _ x => x)
      have on7 := (on.same s6 (fun y hy e => by cases hy; omega)).same s7 (fun _ _ x => x)
      have hk : L[j] + 2 < C.length := by omega
      have ck : (((L[j] + 2 : Nat) : Int) < C.length) = True := by simp; omega
      have gw : ((addC C (L.take j))[L[j] + 2]?).getD 0 = 0 := by
        have := a3
        unfold at0 at this
        rw [if_neg (by omega)] at this
        exact this
      have gn : ((addC C L)[L[j] + 2]?).getD 0 = 1 := by
        have h1 : at0 (addC C L) (L[j] + 3) = 1 := by
          have hc : ∀ (B : List Nat) (D : List Int), D.length = C.length → at0 D (L[j] + 3) = 1 → (∀ b ∈ B, 1 ≤ b ∧ b + 4 ≤ C.length ∧ L[j] + 3 ≠ b + 3) → at0 (addC D B) (L[j] + 3) = 1 := by
            intro B D hD h1 hB
            rw [addC_at (by omega) (fun b hb => ⟨(hB b hb).1, by have := (hB b hb).2.1; omega⟩) (fun b hb => (hB b hb).2.2)]
            exact h1
          have e : addC C L = addC ((addC C (L.take j)).set (L[j] + 2) 1) (L.drop (j + 1)) := by
            have e2 : addC C L = addC C (L.take j ++ L[j] :: L.drop (j + 1)) := by rw [hdrop]
            rw [e2]
            simp only [addC, List.foldl_append, List.foldl_cons]
          rw [e]
          refine hc _ _ (by rw [List.length_set, addC_len]) ?_ (fun b hb => ?_)
          · rw [show L[j] + 2 = (L[j] + 3) - 1 by omega, at0_set (by omega) (by omega) (by rw [addC_len]; omega), if_pos rfl]
          · have hm := wn.cell b (List.mem_append.2 (.inr (List.mem_cons_of_mem _ hb)))
            have hd := wn.dis
            rw [List.pairwise_append] at hd
            have := (List.pairwise_cons.1 hd.2.1).1 b hb
            unfold Far at this
            exact ⟨hm.1, hm.2.1, by omega⟩
        unfold at0 at h1
        rw [if_neg (by omega)] at h1
        exact h1
      have hwl : (addC C (L.take j)).length = C.length := addC_len _ _
      have hnl : (addC C L).length = C.length := addC_len _ _
      obtain ⟨q1, _, _⟩ := ow7.use yw rfl
      obtain ⟨q2, _, _⟩ := on7.use yn rfl
      have rw7 : h7.rd yw (L[j] + 2) = some (I 0) := by
        rw [rd_of q1]
        show ((addC C (L.take j)).map I)[L[j] + 2]? = _
        rw [List.getElem?_map]
        rw [List.getElem?_eq_getElem (by omega)] at gw ⊢
        simp only [Option.getD_some] at gw
        rw [gw]; rfl
      have rn7 : h7.rd yn (L[j] + 2) = some (I 1) := by
        rw [rd_of q2]
        show ((addC C L).map I)[L[j] + 2]? = _
        rw [List.getElem?_map]
        rw [List.getElem?_eq_getElem (by omega)] at gn ⊢
        simp only [Option.getD_some] at gn
        rw [gn]; rfl
      obtain ⟨h8, w8, ow8, s8⟩ := ow7.mapset hwl hk 1
      rw [← addC_snoc, ← takeS hjL] at ow8
      have k01 : wrapF .i64 1 = 1 := by decide
      have kne : ((1 : Int) != 1) = false := by decide
      have al : (h6.new ⟨[.int .i64 0, .int .i64 0, .int .i64 0], 3, 3, true, false⟩) = (h6.new ⟨[.int .i64 0, .int .i64 0, .int .i64 0], 3, 3, true, false⟩) := rfl
      refine cwf_cw ?_
      simp only [cwf_seq, cwf_ops, c_true, cwf_skip, cwf_block, andThen_normal, owf_nil, o_p, o_r, o_e, owf_call, behind_eq, bo_eq, optQ_some, opt2_some, pop, popQ, rop_load1, ldV_ptr, ev, evs, putA, look_put, isB_true, abinF_eq, abin, List.length_cons, List.length_nil, Int.toNat_natCast, Int.natCast_nonneg, inB_eq, decide_true, cond_true, ite_true, ite_false, Bool.and_true, Nat.reduceEqDiff, Nat.reduceAdd, Nat.zero_add, eop_alloc, t87, t88, t89, ownSl, Option.map_some, cj, rop_loadN, e3', eop_alloc, eop_store3, w7, r72]
      refine ⟨_, _, F8', ?_⟩
      simp only [cwf_seq, cwf_draw, andThen_normal, owf_nil, o_p, behind_eq, bo_eq, bd_eq, optQ_some, d_p, pop, popQ, ev, putA, look_put, abinF_eq, abin, Int.toNat_natCast, Int.natCast_nonneg, Nat.mul_one, inB_eq, decide_true, cond_true, ite_true, ite_false, Bool.true_and, Nat.reduceEqDiff, Nat.zero_add, t15, ownSl, Option.map_some, w3, w2]
      refine ⟨cf00, cf00_ok, ?_⟩
      simp only [cwf_ops, c_false, cwf_skip, andThen_normal, blockQ_normal, roundQ_normal, owf_nil, o_p, o_r, o_e, behind_eq, bo_eq, bd_eq, optQ_some, opt2_some, dwf_nil, d_p, d_r, pop, popQ, rop_load1, ldV_ptr, ev, putA, look_put, isB_false, abinF_eq, abin, eop_store1, st1, Int.toNat_natCast, Int.natCast_nonneg, Nat.mul_one, Int.reduceAdd, scalar_int, inB_eq, decide_true, cond_true, ite_true, ite_false, Bool.and_true, Bool.not_false, Nat.reduceEqDiff, Nat.zero_add, true_and, t6, t7, t12, t13, t14, t15, t87, t88, t89, ownSl, Option.map_some, ck, rw7, rn7, k01, kne, w8, wj]
      have s58 : Same h5 h8 (· = yw) := (s6.trans s7 (fun _ _ x => x.elim)).trans s8 (fun _ _ x => x)
      exact ⟨E.length - (j + 1), by omega, j + 1, rfl, by omega, rfl, ow8, s58⟩
    · have e : j = E.length := by omega
      subst e
      have cj : ((E.length : Int) < E.length) = False := by simp
      have ow9 := ow6
      rw [hL, List.take_length] at ow9
      have tyE := (ty2.same s5 (fun _ _ x => x)).same s6 (fun y hy e => by have := lo2 y hy; omega)
      obtain ⟨_, _, F8, rfl, e8⟩ := tydone_spec hT HT tyE
      rw [e8] at F8
      have eD : ((if false = true then (1 : Int) else if E.length < E.length then 0 else 3) == 3) = true := by simp
      rw [eD] at F8
      have on6 := on.same s6 (fun y hy e => by cases hy; omega)
      have hnl : (addC C L).length = C.length := addC_len _ _
      have i1 : IntsAt h6 (ownSl (some yw) (addC C L).length) (addC C L) := OwnAt.ints (by rw [hnl]; exact ow9)
      have i2 : IntsAt h6 (ownSl (some yn) (addC C L).length) (addC C L) := OwnAt.ints (by rw [hnl]; exact on6)
      obtain ⟨v9, _, F9, hv9, e9⟩ := words_spec hT H i1 i2 (by omega) (by omega)
      rw [e9] at F9
      obtain rfl : v9 = .bool true := by
        rcases hv9 with ⟨h, _⟩ | ⟨_, h⟩
        · exact h
        · exact (h rfl).elim
      rw [hnl] at F9
      simp only [ownSl, Option.map_some] at F9
      have w2l : wrapF .i64 (2 * (E.length : Int)) = ((2 * E.length : Nat) : Int) := by rw [wrapI] <;> omega
      have kw : (w != 0) = true := by simp [hw]
      have sF : Same h0 h6 (fun _ => False) := (s05.trans s6 (fun y hy e => by have := s05.next; have := s01.next; have := sm.next; omega)).trans (Same.refl _ _) (fun _ _ x => x) |>.trans (Same.refl _ (fun _ => False)) (fun _ _ x => x.elim) |> fun s => ⟨s.next, fun y hy h => s.loops y hy (fun e => by have := mlo0 y e; omega), s.marks, fun y hy h => s.get y hy (fun e => by have := mlo0 y e; omega)⟩
      refine cwf_cw ?_
      simp only [cwf_seq, cwf_ops, c_false, cwf_exit, andThen_normal, andThen_exit, blockQ_exit, roundQ_exit, owf_nil, o_p, owf_call, bo_eq, optQ_some, pop, popQ, ev, evs, putA, look_put, isB_false, abinF_eq, abin, decide_true, decide_false, cond_true, ite_true, Bool.not_false, t88, t89, cj]
      refine ⟨_, _, Kn _, ?_⟩
      simp only [o_p, owf_call, o_on, behind_eq, bo_eq, optQ_some, pop, popQ, ev, evs, putA, look_put, isB_true, ite_true, ite_false, Nat.reduceEqDiff, o_on, t13]
      refine ⟨_, _, F8, ?_⟩
      simp only [o_p, owf_call, o_on, behind_eq, bo_eq, optQ_some, pop, popQ, ev, evs, putA, look_put, isB_true, abinF_eq, abin, decide_true, cond_true, cond_false, ite_true, ite_false, Nat.reduceEqDiff, o_on, t7, t12, t14, t15, ownSl, w2l, beq_self_eq_true]
      refine ⟨_, _, F9, ?_⟩
      simp only [cwf_ret, andThen_normal, fnQ_ret, owf_nil, o_p, o_on, o_off, behind_eq, bo_eq, optQ_some, pop, popQ, ev, putA, look_put, isB_true, isB_false, abinF_eq, abin, resAll, resA, mkRes1, decide_true, cond_true, ite_true, ite_false, Bool.not_true, Nat.reduceEqDiff, Option.some.injEq, exists_eq_left', true_and, o_on, o_off, t6, kw]
      rw [tail_marks h0 h6 sF.marks]
      exact sF

set_option maxHeartbeats 2000000 in
theorem tallyAdds_spec (HTA : HasTA tab) (Nu : Num P) (Kn : ∀ h, Fact P 22 [] h (.bool true) h) {h : Heap} {v w : Value} {LI TI : List Int} (a : IntsAt h v LI) (a' : IntsAt h w TI) :
    FSpec P 3 [v, w] h fun v h' => v = .bool true ∧ Same h h' (fun _ => False) := by
  refine fspec_cwf hT HTA.tadds rfl ?_
  obtain ⟨v1, h1, F1, ⟨l, u, rfl, o, hasc, hl, hu⟩, s1⟩ := pairs_spec hT H a
  have hou : ∀ y, u = some y → y < h1.next := fun y hy => (o.use y hy).2.1
  obtain ⟨v2, h2, F2, t, LL, bm, xm, c, rfl, S, hLL, mm, hc, mlo, s2⟩ := small_spec hT HT H V9 Nu (z := 2000) (by omega) (by omega) (own_pr o) hasc hl hou
  have F2' : Fact P 11 [.int .i64 2000, ownSl u l.length] h1 (.tuple #[.pointer (some ⟨bm, 0, none⟩), I t.word]) h2 := F2
  have aw : IntsAt h2 w TI := (a'.same s1).same s2
  have hw : ∃ base cap, w = .slice base TI.length cap := by
    rcases aw with ⟨rfl, base, cap, rfl⟩ | ⟨x, p, cap, rfl, _⟩ <;> exact ⟨_, _, rfl⟩
  obtain ⟨C, hC⟩ : ∃ C, C = [1, 0, 0, 0, 0, t.word, 0] ++ LL := ⟨_, rfl⟩
  have hCl : C.length = 7 + LL.length := by rw [hC]; simp; omega
  rw [← hC] at mm
  have htok : t.ok C := S.ok _ ⟨by omega, fun j v hv => by
    unfold at0
    rw [hC, if_neg (by omega), show 7 + 1 + j - 1 = 7 + j by omega, List.getElem?_append_right (by simp)]
    simp [hv]⟩
  have g0 : WyI h2 h2 C 0 1 6 [] [] t l none := ⟨⟨⟨fun a ha => (by cases ha), .nil⟩, htok, S.fits, by omega, S.nodup, fun a ha => (by cases ha)⟩, ⟨rfl, fun i hi => by simp at hi⟩, rfl, OwnAt.nil _ _, fun y hy => (by cases hy), ⟨6, rfl, by omega, by rw [hC]; rfl⟩, Same.refl _ _⟩
  show cwf P 142 none af3.body _ h (fnQ h [.tmp 4] _)
  rw [cut3_6]
  simp only [pre3_6, cwf_seq, cwf_ops, andThen_normal, owf_nil, o_p, owf_call, bo_eq, optQ_some, pop, popQ, ev, evs, putA, putArgs, look_put, ite_true, ite_false, Nat.reduceEqDiff, Nat.zero_add]
  refine ⟨_, _, F1, ?_⟩
  simp only [owf_call, behind_eq, ev, evs, putA, look_put, ite_true, ite_false, Nat.reduceEqDiff]
  refine ⟨_, _, F2', ?_⟩
  simp only [cwf_seq, cwf_ops, c_false, cwf_skip, cwf_block, cwf_loop, andThen_normal, owf_nil, o_p, behind_eq, bo_eq, optQ_some, pop, popQ, ev, putA, look_put, isB_false, isNilV, Option.isNone_some, cond_false, ite_true, ite_false, Bool.not_false, Nat.reduceEqDiff, List.getElem?_cons_zero, List.getElem?_cons_succ]
  refine cw_loop (fun kr ts h' => ∃ (i : Nat) (n s : Int) (E : List En) (L : List Nat) (t' : Tr) (lt : List Pr) (up : Option Nat), kr = 9 - i ∧ i ≤ 9 ∧ look ts 1 = w ∧ look ts 5 = .pointer (some ⟨bm, 0, none⟩) ∧ look ts 6 = I t.word ∧ look ts 7 = ownSl up E.length ∧ look ts 8 = I n ∧ look ts 9 = I s ∧ look ts 10 = I i ∧ WyI h2 h' C i n s E L t' lt up) ?_ (n := 9) ⟨0, 1, 6, [], [], t, l, none, rfl, by omega, by simp only [look_put, ite_true, ite_false, Nat.reduceEqDiff], by simp only [look_put, ite_true, ite_false, Nat.reduceEqDiff], by simp only [look_put, ite_true, ite_false, Nat.reduceEqDiff], by simp only [look_put, List.length_nil, ite_true, ite_false, Nat.reduceEqDiff] <;> rfl, by simp only [look_put, ite_true, ite_false, Nat.reduceEqDiff], by simp only [look_put, ite_true, ite_false, Nat.reduceEqDiff], by simp only [look_put, Int.cast_ofNat_Int, ite_true, ite_false, Nat.reduceEqDiff] <;> rfl, g0⟩
  rintro kr ts h' ⟨i, n, s, E, L, t', lt, up, rfl, i9, t1, t5, t6, t7, t8, t9, t10, g⟩
  have mm' := mm.same g.same (fun _ _ x => x)
  have nx2 := g.same.next
  have wi : wrapF .i64 ((i : Int) + 1) = ((i + 1 : Nat) : Int) := by rw [wrapI] <;> omega
  obtain ⟨ks, rfl, hks, hat⟩ := g.slot
  have FA : Fact P 14 [.pointer (some ⟨bm, 0, none⟩), I (ks : Int)] h' (I t'.word) h' := by
    obtain ⟨_, _, F, e, e2⟩ := at_spec hT V mm' ks (by omega)
    have e : _ = I (at0 C ks) := e
    rw [hat] at e
    rw [e, e2] at F
    exact F
  have hw0 : t.word ≠ 0 := by
    have : 0 < t.word := by cases t <;> simp only [Tr.word, Tr.adr, Tr.kind] <;> omega
    omega
  have fin : ∀ ts' : Ai.T Value, look ts' 5 = .pointer (some ⟨bm, 0, none⟩) → look ts' 6 = I t.word → look ts' 7 = ownSl up E.length → cwf P 142 none rest3_6 ts' h' (fnQ h [.tmp 4] fun v h' => v = .bool true ∧ Same h h' (fun _ => False)) := fun ts' q5 q6 q7 => by
    have hlen := g.len
    exact tail_spec hT HT V H V9 HM Kn (h1 := h1) mm' ⟨hc.1, hc.2⟩ (by omega) (by omega) g.way.way g.wd (by omega) g.own (fun y hy => by have := g.up y hy; have := s2.next; omega) (fun y hy e => by have := g.up y hy; have := mm.lt y e; omega) mlo (s2.trans g.same (fun _ _ x => x)) s1 hw0 ts' q5 q6 q7
  refine cwf_cw ?_
  by_cases hi : i < 9
  · have ci : ((i : Int) < 9) = True := by simp; omega
    match t', g, FA, hat with
    | .inner aa sz sh ch sm kss cs, g, FA, hat =>
      have FA : Fact P 14 [.pointer (some ⟨bm, 0, none⟩), I (ks : Int)] h' (I ((aa : Int) * 8 + 3)) h' := FA
      have hok := g.way.ok
      obtain ⟨⟨q1, q2, q3, q4⟩, _⟩ := hok
      obtain ⟨Tn, hTn⟩ : ∃ Tn : Int, Tn = if h : i < TI.length then TI[i] else 0 := ⟨_, rfl⟩
      have hd2 : 2 ≤ cs.length := by omega
      have em := Int.emod_nonneg Tn (show ((cs.length : Nat) : Int) ≠ 0 by omega)
      have el := Int.emod_lt_of_pos Tn (show (0 : Int) < (cs.length : Nat) by omega)
      obtain ⟨k, hk⟩ := Int.eq_ofNat_of_zero_le em
      have hk : Tn % (cs.length : Int) = (k : Int) := hk
      have hkl : k < cs.length := by omega
      obtain ⟨w', ⟨z1, z2, z3, z4⟩, z5, z6⟩ := g.way.step hkl
      obtain ⟨up', hb, ha, g'⟩ := g.step (by omega) (by omega) hkl
      have mmb := mm.same g'.same (fun _ _ x => x)
      have FA2 : Fact P 14 [.pointer (some ⟨bm, 0, none⟩), I (ks : Int)] hb (I ((aa : Int) * 8 + 3)) hb := by
        obtain ⟨_, _, F, e, e2⟩ := at_spec hT V mmb ks (by omega)
        have e : _ = I (at0 C ks) := e
        rw [hat] at e
        rw [e, e2] at F
        exact F
      obtain ⟨_, _, F3, rfl, e3⟩ := kind_spec hT V H h' aa 3 q1 (by omega) (by omega) (by omega)
      rw [e3] at F3
      have F3' : Fact P 13 [I ((aa : Int) * 8 + 3)] h' (I 3) h' := F3
      obtain ⟨_, _, F5, rfl, e5⟩ := refat_spec hT V H hb aa 3 q1 (by omega) (by omega) (by omega)
      rw [e5] at F5
      have F5' : Fact P 15 [I ((aa : Int) * 8 + 3)] hb (I aa) hb := F5
      have F6 : Fact P 14 [.pointer (some ⟨bm, 0, none⟩), I (aa : Int)] hb (I cs.length) hb := by
        obtain ⟨_, _, F, e, e2⟩ := at_spec hT V mmb aa (by omega)
        have e : _ = I (at0 C aa) := e
        rw [z5] at e
        rw [e, e2] at F
        exact F
      obtain ⟨_, _, F7, rfl, e7⟩ := cut_spec hT H hb Tn cs.length (by omega) (by omega)
      rw [e7, hk] at F7
      obtain ⟨_, hc8, F8, rfl, s8⟩ := childat_spec hT V hb aa cs.length k (by omega) (by omega) (by omega)
      have g8 : WyI h2 hc8 C (i + 1) aa ((aa + 4 + cs.length + k : Nat) : Int) (E ++ [(((↑n : Int)), ((ks : Int)), (aa : Int) * 8 + 3)]) (L ++ [aa]) cs[k] (partL lt k) up' := ⟨g'.way, g'.wd, g'.len, g'.own.same s8 (fun _ _ x => x), g'.up, g'.slot, g'.same.trans s8 (fun _ _ x => x)⟩
      have hle : (E ++ [(n, (ks : Int), (aa : Int) * 8 + 3)]).length = E.length + 1 := by simp
      have k3 : ((3 : Int) == 3) = true := rfl
      by_cases h2 : i < TI.length
      · rw [dif_pos h2] at hTn
        rcases aw with ⟨rfl, _⟩ | ⟨x, p, cap', rfl, hr'⟩
        · simp at h2
        have cl : ((i : Int) < TI.length) = True := by simp [h2]
        have rk : hb.rd x (p + i) = some (I TI[i]) := by
          rw [((hr'.same g'.same (fun x => x))).rd (by omega)]; simp [h2]
        rw [← hTn] at rk
        simp only [cwf_seq, cwf_ops, o_p, owf_call, o_on, bo_eq, optQ_some, pop, popQ, ev, evs, putA, look_put, isB_true, abinF_eq, abin, decide_true, cond_true, ite_true, ite_false, Nat.reduceEqDiff, o_on, t5, t9, t10, ci]
        refine ⟨_, _, FA, ?_⟩
        simp only [owf_call, o_on, behind_eq, ev, evs, putA, look_put, isB_true, ite_true, ite_false, Nat.reduceEqDiff, o_on]
        refine ⟨_, _, F3', ?_⟩
        simp only [cwf_seq, cwf_ops, c_true, cwf_skip, cwf_block, andThen_normal, owf_nil, o_p, owf_call, o_on, behind_eq, bo_eq, optQ_some, pop, popQ, ev, evs, putA, look_put, isB_true, abinF_eq, abin, decide_true, cond_true, ite_true, ite_false, Nat.reduceEqDiff, o_on, t5, t7, t8, t9, k3]
        refine ⟨_, _, FA, ?_⟩
        simp only [cwf_seq, cwf_ops, andThen_normal, owf_nil, o_p, o_e, owf_call, behind_eq, bo_eq, optQ_some, opt2_some, pop, popQ, ev, evs, putA, look_put, eop_app, eop_buildS, bldS_some, evP_nil, evP_cons, fillA_nil, fillA_one, List.length_cons, List.length_nil, List.set_cons_zero, List.set_cons_succ, Nat.reduceLT, Nat.lt_add_one, scalar_int, ite_true, ite_false, Nat.reduceEqDiff, Nat.reduceAdd, Nat.zero_add, Nat.reduceMul, t5, t9, fillA_trip, ha]
        refine ⟨_, _, FA2, ?_⟩
        simp only [owf_call, behind_eq, ev, evs, putA, look_put, ite_true, ite_false, Nat.reduceEqDiff]
        refine ⟨_, _, F5', ?_⟩
        simp only [cwf_seq, cwf_ops, c_true, andThen_normal, owf_nil, o_p, o_r, owf_call, behind_eq, bo_eq, optQ_some, pop, popQ, rop_load1, ldV_ptr, ev, evs, putA, look_put, isB_true, abinF_eq, abin, Int.toNat_natCast, Int.natCast_nonneg, Nat.mul_one, inB_eq, decide_true, cond_true, cond_false, ite_true, ite_false, Bool.and_true, Nat.reduceEqDiff, t1, t5, t8, t10, cl, rk]
        refine ⟨_, _, F6, ?_⟩
        simp only [o_p, owf_call, behind_eq, bo_eq, optQ_some, pop, popQ, ev, evs, putA, look_put, ite_true, ite_false, Nat.reduceEqDiff, t5, t8]
        refine ⟨_, _, F6, ?_⟩
        simp only [owf_call, behind_eq, ev, evs, putA, look_put, ite_true, ite_false, Nat.reduceEqDiff]
        refine ⟨_, _, F7, ?_⟩
        simp only [owf_call, behind_eq, ev, evs, putA, look_put, ite_true, ite_false, Nat.reduceEqDiff]
        refine ⟨_, _, F8, ?_⟩
        simp only [cwf_ops, andThen_normal, blockQ_normal, roundQ_normal, owf_nil, o_p, behind_eq, bo_eq, optQ_some, pop, popQ, ev, putA, look_put, abinF_eq, abin, decide_true, cond_true, ite_true, ite_false, Nat.reduceEqDiff, true_and, t1, t5, t6, t7, t8, t9, t10, wi]
        exact ⟨9 - (i + 1), by omega, i + 1, _, _, _, _, _, _, _, rfl, by omega, by rw [hle], rfl, rfl, rfl, g8⟩
      · rw [dif_neg h2] at hTn
        subst hTn
        obtain ⟨wb, wcc, rfl⟩ := hw
        have cl : ((i : Int) < TI.length) = False := by simp; omega
        simp only [cwf_seq, cwf_ops, o_p, owf_call, o_on, bo_eq, optQ_some, pop, popQ, ev, evs, putA, look_put, isB_true, abinF_eq, abin, decide_true, cond_true, ite_true, ite_false, Nat.reduceEqDiff, o_on, t5, t9, t10, ci]
        refine ⟨_, _, FA, ?_⟩
        simp only [owf_call, o_on, behind_eq, ev, evs, putA, look_put, isB_true, ite_true, ite_false, Nat.reduceEqDiff, o_on]
        refine ⟨_, _, F3', ?_⟩
        simp only [cwf_seq, cwf_ops, c_true, cwf_skip, cwf_block, andThen_normal, owf_nil, o_p, owf_call, o_on, behind_eq, bo_eq, optQ_some, pop, popQ, ev, evs, putA, look_put, isB_true, abinF_eq, abin, decide_true, cond_true, ite_true, ite_false, Nat.reduceEqDiff, o_on, t5, t7, t8, t9, k3]
        refine ⟨_, _, FA, ?_⟩
        simp only [cwf_seq, cwf_ops, andThen_normal, owf_nil, o_p, o_e, owf_call, behind_eq, bo_eq, optQ_some, opt2_some, pop, popQ, ev, evs, putA, look_put, eop_app, eop_buildS, bldS_some, evP_nil, evP_cons, fillA_nil, fillA_one, List.length_cons, List.length_nil, List.set_cons_zero, List.set_cons_succ, Nat.reduceLT, Nat.lt_add_one, scalar_int, ite_true, ite_false, Nat.reduceEqDiff, Nat.reduceAdd, Nat.zero_add, Nat.reduceMul, t5, t9, fillA_trip, ha]
        refine ⟨_, _, FA2, ?_⟩
        simp only [owf_call, behind_eq, ev, evs, putA, look_put, ite_true, ite_false, Nat.reduceEqDiff]
        refine ⟨_, _, F5', ?_⟩
        simp only [cwf_seq, cwf_ops, c_false, cwf_skip, andThen_normal, owf_nil, o_p, owf_call, behind_eq, bo_eq, optQ_some, pop, popQ, ev, evs, putA, look_put, isB_false, abinF_eq, abin, decide_true, decide_false, cond_true, cond_false, ite_true, ite_false, Bool.not_false, Nat.reduceEqDiff, t1, t5, t8, t10, cl]
        refine ⟨_, _, F6, ?_⟩
        simp only [o_p, owf_call, behind_eq, bo_eq, optQ_some, pop, popQ, ev, evs, putA, look_put, ite_true, ite_false, Nat.reduceEqDiff, t5, t8]
        refine ⟨_, _, F6, ?_⟩
        simp only [owf_call, behind_eq, ev, evs, putA, look_put, ite_true, ite_false, Nat.reduceEqDiff]
        refine ⟨_, _, F7, ?_⟩
        simp only [owf_call, behind_eq, ev, evs, putA, look_put, ite_true, ite_false, Nat.reduceEqDiff]
        refine ⟨_, _, F8, ?_⟩
        simp only [cwf_ops, andThen_normal, blockQ_normal, roundQ_normal, owf_nil, o_p, behind_eq, bo_eq, optQ_some, pop, popQ, ev, putA, look_put, abinF_eq, abin, decide_true, cond_true, ite_true, ite_false, Nat.reduceEqDiff, true_and, t1, t5, t6, t7, t8, t9, t10, wi]
        exact ⟨9 - (i + 1), by omega, i + 1, _, _, _, _, _, _, _, rfl, by omega, by rw [hle], rfl, rfl, rfl, g8⟩
    | .empty aa, g, FA, hat =>
      have FA : Fact P 14 [.pointer (some ⟨bm, 0, none⟩), I (ks : Int)] h' (I ((aa : Int) * 8 + 1)) h' := FA
      obtain ⟨q1, q2⟩ := g.way.ok
      obtain ⟨_, _, F3, rfl, e3⟩ := kind_spec hT V H h' aa 1 q1 (by omega) (by omega) (by omega)
      rw [e3] at F3
      have F3' : Fact P 13 [I ((aa : Int) * 8 + 1)] h' (I 1) h' := F3
      have k3 : ((1 : Int) == 3) = false := rfl
      simp only [cwf_seq, cwf_ops, o_p, owf_call, o_on, bo_eq, optQ_some, pop, popQ, ev, evs, putA, look_put, isB_true, abinF_eq, abin, decide_true, cond_true, ite_true, ite_false, Nat.reduceEqDiff, o_on, t5, t9, t10, ci]
      refine ⟨_, _, FA, ?_⟩
      simp only [owf_call, o_on, behind_eq, ev, evs, putA, look_put, isB_true, ite_true, ite_false, Nat.reduceEqDiff, o_on]
      refine ⟨_, _, F3', ?_⟩
      simp only [c_false, cwf_exit, andThen_normal, andThen_exit, blockQ_exit, roundQ_exit, owf_nil, o_p, o_on, behind_eq, bo_eq, optQ_some, pop, popQ, ev, putA, look_put, isB_true, isB_false, abinF_eq, abin, decide_true, cond_true, ite_true, ite_false, Bool.not_false, Nat.reduceEqDiff, o_on, k3]
      exact fin _ (by simp only [look_put, ite_false, Nat.reduceEqDiff, t5]) (by simp only [look_put, ite_false, Nat.reduceEqDiff, t6]) (by simp only [look_put, ite_false, Nat.reduceEqDiff, t7])
    | .leaf aa kk vv, g, FA, hat =>
      have FA : Fact P 14 [.pointer (some ⟨bm, 0, none⟩), I (ks : Int)] h' (I ((aa : Int) * 8 + 2)) h' := FA
      obtain ⟨q1, q2, _⟩ := g.way.ok
      obtain ⟨_, _, F3, rfl, e3⟩ := kind_spec hT V H h' aa 2 q1 (by omega) (by omega) (by omega)
      rw [e3] at F3
      have F3' : Fact P 13 [I ((aa : Int) * 8 + 2)] h' (I 2) h' := F3
      have k3 : ((2 : Int) == 3) = false := rfl
      simp only [cwf_seq, cwf_ops, o_p, owf_call, o_on, bo_eq, optQ_some, pop, popQ, ev, evs, putA, look_put, isB_true, abinF_eq, abin, decide_true, cond_true, ite_true, ite_false, Nat.reduceEqDiff, o_on, t5, t9, t10, ci]
      refine ⟨_, _, FA, ?_⟩
      simp only [owf_call, o_on, behind_eq, ev, evs, putA, look_put, isB_true, ite_true, ite_false, Nat.reduceEqDiff, o_on]
      refine ⟨_, _, F3', ?_⟩
      simp only [c_false, cwf_exit, andThen_normal, andThen_exit, blockQ_exit, roundQ_exit, owf_nil, o_p, o_on, behind_eq, bo_eq, optQ_some, pop, popQ, ev, putA, look_put, isB_true, isB_false, abinF_eq, abin, decide_true, cond_true, ite_true, ite_false, Bool.not_false, Nat.reduceEqDiff, o_on, k3]
      exact fin _ (by simp only [look_put, ite_false, Nat.reduceEqDiff, t5]) (by simp only [look_put, ite_false, Nat.reduceEqDiff, t6]) (by simp only [look_put, ite_false, Nat.reduceEqDiff, t7])
  · have ci : ((i : Int) < 9) = False := by simp; omega
    simp only [cwf_seq, cwf_ops, c_false, cwf_exit, andThen_normal, andThen_exit, blockQ_exit, roundQ_exit, owf_nil, o_p, o_off, bo_eq, optQ_some, pop, popQ, ev, putA, look_put, isB_true, isB_false, abinF_eq, abin, decide_true, decide_false, cond_true, cond_false, ite_true, ite_false, Bool.not_false, Nat.reduceEqDiff, o_off, t10, ci]
    exact fin _ (by simp only [look_put, ite_false, Nat.reduceEqDiff, t5]) (by simp only [look_put, ite_false, Nat.reduceEqDiff, t6]) (by simp only [look_put, ite_false, Nat.reduceEqDiff, t7])
end
end
end Go.Proofs.YtpeihcpclcibgaaGreat.Ai
