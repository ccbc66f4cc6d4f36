/- Texts put together: Grow0, GA, GB, GC, GD, GE. -/
import Derived.Test.YtedldiimhbebdaaGreatPX
import Derived.Test.YtedldiimhbebdaaGreatTabOk
import Derived.Test.YtedldiimhbebdaaGreatTh2
import Derived.Test.YtedldiimhbebdaaGreatQX
/- The records of an ideal tree, in the order in which they are made: what comes of them, one by one. -/
namespace Go.Proofs.YtedldiimhbebdaaGreat.Ai
open Go.Proofs.YtedldiimhbebdaaGreat
noncomputable section

def kidsOf (l : List Pr) : Nat := if l.length < 2 then 0 else degN l.length
def kindOf (l : List Pr) : Int := if l.length = 0 then 1 else if l.length = 1 then 2 else 3
/-- the cells of the record over a list, these being its children's words -/
def recOf (l : List Pr) (ch : List Int) : List Int := match l with
  | [] => [0]
  | [p] => [p.1, p.2]
  | l => [(degN l.length : Int), (l.length : Int), 0, 0, 0] ++ keysF l (degN l.length) ++ ch

def ordK (o : List Pr → List (List Pr)) (l : List Pr) : Nat → List (List Pr)
  | 0 => []
  | i + 1 => ordK o l i ++ o (partL l i)
/-- the lists whose records are made, one behind the other -/
def ordF : Nat → List Pr → List (List Pr)
  | 0, _ => []
  | f + 1, l => ordK (ordF f) l (kidsOf l) ++ [l]

/-- one record: the cells, the words that are nobody's children yet -/
def gstep (st : List Int × List Int) (l : List Pr) : List Int × List Int :=
  (st.1 ++ recOf l (st.2.drop (st.2.length - kidsOf l)), st.2.take (st.2.length - kidsOf l) ++ [((st.1.length : Int) + 1) * 8 + kindOf l])
def gruns (st : List Int × List Int) (ls : List (List Pr)) : List Int × List Int := ls.foldl gstep st

theorem gruns_app (st : List Int × List Int) (a b : List (List Pr)) : gruns st (a ++ b) = gruns (gruns st a) b := List.foldl_append
theorem gruns_one (st : List Int × List Int) (l : List Pr) : gruns st [l] = gstep st l := rfl

theorem recOf_two {l : List Pr} (h : 2 ≤ l.length) (ch : List Int) : recOf l ch = [(degN l.length : Int), (l.length : Int), 0, 0, 0] ++ keysF l (degN l.length) ++ ch := by
  match l, h with
  | p :: q :: l, _ => rfl
theorem kidsOf_two {l : List Pr} (h : 2 ≤ l.length) : kidsOf l = degN l.length := if_neg (by omega)
theorem kindOf_two {l : List Pr} (h : 2 ≤ l.length) : kindOf l = 3 := by unfold kindOf; rw [if_neg (by omega), if_neg (by omega)]

theorem gruns_ord : ∀ (f : Nat) (l : List Pr) (C W : List Int), l.length < f → l.length ≤ 120 → gruns (C, W) (ordF f l) = (C ++ (layF f l C.length).2, W ++ [(layF f l C.length).1])
  | 0, l, C, W, hf, _ => by omega
  | f + 1, l, C, W, hf, hl => by
    by_cases h2 : 2 ≤ l.length
    · have pn := partN h2 hl
      have key : ∀ i, i ≤ degN l.length → gruns (C, W) (ordK (ordF f) l i) = (C ++ (kidsF (layF f) l C.length i).2, W ++ (kidsF (layF f) l C.length i).1) := by
        intro i
        induction i with
        | zero => intro _; simp [ordK, gruns, kidsF]
        | succ i ih =>
          intro hi
          have hp := partL_len h2 hl (i := i) (by omega)
          have hless := pn.less i (by omega)
          rw [ordK, gruns_app, ih (by omega), gruns_ord f (partL l i) _ _ (by omega) (by omega)]
          simp only [kidsF, List.length_append, List.append_assoc]
      rw [ordF, gruns_app, kidsOf_two h2, key _ (Nat.le_refl _), gruns_one, layF_two h2]
      have hk := kidsF_one (layF f) l C.length (degN l.length)
      unfold gstep
      simp only [kidsOf_two h2, kindOf_two h2, recOf_two h2, List.length_append, hk, Nat.add_sub_cancel]
      rw [List.drop_left', List.take_left'] <;> try rfl
      simp [List.append_assoc]
    · match l, h2 with
      | [], _ => simp [ordF, kidsOf, ordK, gruns, gstep, recOf, kindOf, layF]
      | [p], _ => simp [ordF, kidsOf, ordK, gruns, gstep, recOf, kindOf, layF]
      | _ :: _ :: _, h2 => simp at h2

/-- which lists may be made next, so many words being there -/
def OrdOk : Nat → List (List Pr) → Prop
  | _, [] => True
  | n, l :: ls => l.length ≤ 120 ∧ kidsOf l ≤ n ∧ OrdOk (n - kidsOf l + 1) ls

theorem OrdOk.app : ∀ {n : Nat} {a b : List (List Pr)} {m : Nat}, OrdOk n a → (∀ st : List Int × List Int, st.2.length = n → (gruns st a).2.length = m) → OrdOk m b → OrdOk n (a ++ b)
  | n, [], b, m, _, hm, hb => by
    have := hm ([], List.replicate n 0) (by simp)
    simp [gruns] at this
    subst this; exact hb
  | n, l :: a, b, m, ha, hm, hb => by
    obtain ⟨h1, h2, h3⟩ := ha
    refine ⟨h1, h2, OrdOk.app h3 (fun st hst => ?_) hb⟩
    have := hm (st.1, List.replicate n 0) (by simp)
    have e : (gruns st a).2.length = (gruns (gstep (st.1, List.replicate n 0) l) a).2.length := by
      have len : ∀ (a : List (List Pr)) (s t : List Int × List Int), s.2.length = t.2.length → (gruns s a).2.length = (gruns t a).2.length := by
        intro a
        induction a with
        | nil => intro s t h; exact h
        | cons l a ih =>
          intro s t h
          refine ih (gstep s l) (gstep t l) ?_
          simp [gstep, h]
      refine len a _ _ ?_
      simp [gstep, hst]
    rw [e]; exact this

theorem gruns_len (f : Nat) (l : List Pr) (hf : l.length < f) (hl : l.length ≤ 120) (st : List Int × List Int) : (gruns st (ordF f l)).2.length = st.2.length + 1 := by
  have := gruns_ord f l st.1 st.2 hf hl
  rw [show st = (st.1, st.2) from rfl, this]; simp

theorem ord_ok : ∀ (f : Nat) (l : List Pr) (n : Nat), l.length < f → l.length ≤ 120 → OrdOk n (ordF f l)
  | 0, l, n, hf, _ => by omega
  | f + 1, l, n, hf, hl => by
    by_cases h2 : 2 ≤ l.length
    · have pn := partN h2 hl
      have key : ∀ i, i ≤ degN l.length → OrdOk n (ordK (ordF f) l i) ∧ ∀ st : List Int × List Int, st.2.length = n → (gruns st (ordK (ordF f) l i)).2.length = n + i := by
        intro i
        induction i with
        | zero => intro _; exact ⟨trivial, fun st h => h⟩
        | succ i ih =>
          intro hi
          have hp := partL_len h2 hl (i := i) (by omega)
          have hless := pn.less i (by omega)
          obtain ⟨h3, h4⟩ := ih (by omega)
          refine ⟨OrdOk.app h3 h4 (ord_ok f (partL l i) (n + i) (by omega) (by omega)), fun st hst => ?_⟩
          rw [ordK, gruns_app, gruns_len f _ (by omega) (by omega), h4 st hst, Nat.add_assoc]
      obtain ⟨h3, h4⟩ := key _ (Nat.le_refl _)
      rw [ordF, kidsOf_two h2]
      refine OrdOk.app h3 h4 ⟨hl, ?_, trivial⟩
      rw [kidsOf_two h2]; omega
    · have e : ordF (f + 1) l = [l] := by
        have : kidsOf l = 0 := if_pos (by omega)
        rw [ordF, this]; rfl
      rw [e]
      refine ⟨hl, ?_, trivial⟩
      unfold kidsOf; rw [if_pos (by omega)]; exact Nat.zero_le _

theorem recOf_pos (l : List Pr) (ch : List Int) : 1 ≤ (recOf l ch).length := by
  match l with
  | [] => simp [recOf]
  | [_] => simp [recOf]
  | _ :: _ :: _ => simp [recOf]

theorem gstep_grow (st : List Int × List Int) (l : List Pr) : st.1.length + 1 ≤ (gstep st l).1.length := by
  have := recOf_pos l (st.2.drop (st.2.length - kidsOf l))
  simp only [gstep, List.length_append]; omega

theorem gruns_grow : ∀ (ls : List (List Pr)) (st : List Int × List Int), st.1.length + ls.length ≤ (gruns st ls).1.length
  | [], st => by simp [gruns]
  | l :: ls, st => by
    have h1 := gstep_grow st l
    have h2 := gruns_grow ls (gstep st l)
    show st.1.length + (ls.length + 1) ≤ (gruns (gstep st l) ls).1.length
    omega

theorem gruns_pre (ls : List (List Pr)) (st : List Int × List Int) : ∃ x, (gruns st ls).1 = st.1 ++ x := by
  induction ls generalizing st with
  | nil => exact ⟨[], by simp [gruns]⟩
  | cons l ls ih =>
    obtain ⟨x, hx⟩ := ih (gstep st l)
    exact ⟨recOf l (st.2.drop (st.2.length - kidsOf l)) ++ x, by rw [show gruns st (l :: ls) = gruns (gstep st l) ls from rfl, hx]; simp only [gstep, List.append_assoc]⟩

theorem ord_last (f : Nat) (l : List Pr) : ordF (f + 1) l ≠ [] := by simp [ordF]

end
end Go.Proofs.YtedldiimhbebdaaGreat.Ai
/- What the functions of grow come to: what is kept; Done, Word, a record. -/
namespace Go.Proofs.YtedldiimhbebdaaGreat.Ai
open Go.Proofs.YtedldiimhbebdaaGreat
noncomputable section
open Go.RowKit
structure HasG (tab : Nat → Option AFunc) : Prop where
  g15 : tab 9 = some af9
  g16 : tab 14 = some af14
  g17 : tab 16 = some af16
  g18 : tab 11 = some af11
  g59 : tab 21 = some af21
  g60 : tab 22 = some af22
  g61 : tab 24 = some af24

theorem hasG : HasG tabT.get := ⟨by kernel_rfl, by kernel_rfl, by kernel_rfl, by kernel_rfl, by kernel_rfl, by kernel_rfl, by kernel_rfl⟩

/-- a slice that is gone through from its beginning -/
def LeftAt (h : Heap) (v : Value) (s : Nat) (cells : List Value) (n : Nat) (K : Nat → Prop) : Prop :=
  (n = 0 ∧ cells = [] ∧ (v = .slice none 0 0 ∨ ∃ b o k, v = .slice (some ⟨b, o, some k⟩) 0 0)) ∨ ∃ x p, K x ∧ v = .slice (some ⟨x, p, none⟩) n n ∧ 1 ≤ n ∧ RdAt h x p s n n cells

theorem LeftAt.same {h h' : Heap} {v : Value} {s n : Nat} {cells : List Value} {K S : Nat → Prop} (a : LeftAt h v s cells n K) (m : Same h h' S) (hk : ∀ j, K j → ¬ S j) : LeftAt h' v s cells n K := by
  rcases a with a | ⟨x, p, k, e, n1, r⟩
  · exact .inl a
  · exact .inr ⟨x, p, k, e, n1, r.same m (hk x k)⟩

theorem LeftAt.len {h : Heap} {v : Value} {s n : Nat} {cells : List Value} {K : Nat → Prop} (a : LeftAt h v s cells n K) : ∃ base, v = .slice base n n := by
  rcases a with ⟨rfl, rfl, rfl | ⟨b, o, k, rfl⟩⟩ | ⟨x, p, _, rfl, _, r⟩ <;> exact ⟨_, rfl⟩

theorem LeftAt.tail {h : Heap} {v c : Value} {n : Nat} {cells : List Value} {K : Nat → Prop} (a : LeftAt h v 1 (c :: cells) (n + 1) K) : (∃ x p, K x ∧ v = .slice (some ⟨x, p, none⟩) (n + 1) (n + 1) ∧ h.rd x p = some c) ∧ ∃ v', slV h 1 v (some (I 1)) none = some v' ∧ LeftAt h v' 1 cells n K := by
  rcases a with ⟨hn, _⟩ | ⟨x, p, k, rfl, n1, r⟩
  · omega
  · refine ⟨⟨x, p, k, rfl, by have := r.rd (i := 0) (by omega); simpa using this⟩, ?_⟩
    have hl := r.len
    simp only [List.length_cons, Nat.mul_one] at hl
    by_cases hn : n = 0
    · subst hn
      have e : cells = [] := List.eq_nil_of_length_eq_zero (by omega)
      subst e
      refine ⟨_, r.end, .inl ⟨rfl, rfl, .inr ⟨_, _, _, rfl⟩⟩⟩
    · have f : slV h 1 (.slice (some ⟨x, p, none⟩) (n + 1) (n + 1)) (some (I (1 : Nat))) none = some (.slice (some ⟨x, p + 1 * 1, none⟩) (n + 1 - 1) (n + 1 - 1)) := r.from (lo := 1) (by omega) (by omega)
      refine ⟨_, f, .inr ⟨x, p + 1 * 1, k, rfl, by omega, ?_⟩⟩
      have := r.sub (lo := 1) (hi := n + 1) (by omega) (Nat.le_refl _)
      have e : (List.drop (1 * 1) (c :: cells)).take ((n + 1 - 1) * 1) = cells := by
        rw [Nat.mul_one, List.drop_succ_cons, List.drop_zero, List.take_of_length_le (by omega)]
      rw [e] at this
      exact this

/-- a stack of numbers: the whole of a block, of which some may be spare -/
def StackAt (h : Heap) (v : Value) (W : List Int) (u : Option Nat) : Prop :=
  (u = none ∧ W = [] ∧ v = .slice none 0 0) ∨ ∃ x rest, u = some x ∧ v = .slice (some ⟨x, 0, none⟩) W.length (W.length + rest.length) ∧ h.blks.get x = some ⟨(W ++ rest).map I, (W.length + rest.length) * 1, 1, true, true⟩ ∧ x < h.next ∧ 1 ≤ W.length + rest.length

theorem StackAt.same {h h' : Heap} {v : Value} {W : List Int} {u : Option Nat} {S : Nat → Prop} (a : StackAt h v W u) (m : Same h h' S) (hu : ∀ x, u = some x → ¬ S x) : StackAt h' v W u := by
  rcases a with a | ⟨x, rest, e, e2, b, l, n1⟩
  · exact .inl a
  · exact .inr ⟨x, rest, e, e2, by rw [m.get x l (hu x e)]; exact b, Nat.lt_of_lt_of_le l m.next, n1⟩

theorem StackAt.len {h : Heap} {v : Value} {W : List Int} {u : Option Nat} (a : StackAt h v W u) : ∃ base cap, v = .slice base W.length cap := by
  rcases a with ⟨_, rfl, rfl⟩ | ⟨x, rest, _, rfl, _⟩ <;> exact ⟨_, _, rfl⟩

/-- so many of them -/
theorem StackAt.to {h : Heap} {v : Value} {W : List Int} {u : Option Nat} (a : StackAt h v W u) {n : Nat} (hn : n ≤ W.length) : ∃ v', slV h 1 v none (some (I n)) = some v' ∧ StackAt h v' (W.take n) u := by
  rcases a with ⟨rfl, rfl, rfl⟩ | ⟨x, rest, rfl, rfl, b, l, n1⟩
  · have : n = 0 := by simpa using hn
    subst this
    exact ⟨_, rfl, .inl ⟨rfl, rfl, rfl⟩⟩
  · have r : RdAt h x 0 1 W.length (W.length + rest.length) (W.map I) := ⟨⟨_, b, rfl, by simp, by simp⟩, by omega, l⟩
    refine ⟨_, r.to (hi := n) (by omega) (by omega), .inr ⟨x, W.drop n ++ rest, rfl, ?_, ?_, l, ?_⟩⟩
    · simp; omega
    · rw [← List.append_assoc, List.take_append_drop, b]
      congr 2
      simp; omega
    · simp; omega

/-- the last ones, to be read -/
theorem StackAt.from {h : Heap} {v : Value} {W : List Int} {u : Option Nat} (a : StackAt h v W u) {n : Nat} (hn : n < W.length) : ∃ x p cap, u = some x ∧ slV h 1 v (some (I n)) none = some (.slice (some ⟨x, p, none⟩) (W.drop n).length cap) ∧ RdAt h x p 1 (W.drop n).length cap ((W.drop n).map I) := by
  rcases a with ⟨rfl, rfl, rfl⟩ | ⟨x, rest, rfl, rfl, b, l, n1⟩
  · simp at hn
  · have r : RdAt h x 0 1 W.length (W.length + rest.length) (W.map I) := ⟨⟨_, b, rfl, by simp, by simp⟩, by omega, l⟩
    have s := r.sub (lo := n) (hi := W.length) (by omega) (Nat.le_refl _)
    have f := r.from (lo := n) (by omega) (by omega)
    refine ⟨x, 0 + n * 1, W.length + rest.length - n, rfl, by rw [f]; simp, ?_⟩
    have e : (List.drop (n * 1) (W.map I)).take ((W.length - n) * 1) = (W.drop n).map I := by
      rw [Nat.mul_one, Nat.mul_one, List.map_drop, List.take_of_length_le (by simp)]
    rw [e] at s
    simpa using s

/-- one more upon it -/
theorem StackAt.push {h : Heap} {v : Value} {W : List Int} {u : Option Nat} (a : StackAt h v W u) {Y : Value} {w : Int} (hy : srcCells h 1 Y = some ([I w], 1)) (hl : W.length < 1000000) : ∃ v' u' h', appV h 1 8 v Y = some (v', h') ∧ StackAt h' v' (W ++ [w]) u' ∧ Same h h' (fun j => u = some j) ∧ (∀ x, u' = some x → u = some x ∨ x = h.next) := by
  have own : ∀ {u : Option Nat} (_ : OwnAt h u 1 W.length (W.map I)) (_ : v = ownSl u W.length), ∃ v' u' h', appV h 1 8 v Y = some (v', h') ∧ StackAt h' v' (W ++ [w]) u' ∧ Same h h' (fun j => u = some j) ∧ (∀ x, u' = some x → u = some x ∨ x = h.next) := by
    intro u o e
    obtain ⟨u', h', e1, e2, e3, e4⟩ := app_own (bytes := 8) o hy rfl rfl (Nat.le_refl _) (by omega) (by omega)
    subst e
    refine ⟨_, u', h', e1, ?_, e3, e4⟩
    cases hu : u' with
    | none => rw [hu] at e2; have := e2.non rfl; omega
    | some x =>
      rw [hu] at e2
      obtain ⟨q1, q2, _⟩ := e2.use x rfl
      refine .inr ⟨x, [], rfl, ?_, ?_, q2, by simp⟩
      · simp [ownSl]
      · rw [q1]; simp
  rcases a with ⟨rfl, rfl, rfl⟩ | ⟨x, rest, rfl, rfl, b, l, n1⟩
  · exact own (OwnAt.nil h 1) rfl
  · cases rest with
    | nil =>
      refine own (u := some x) ⟨fun y hy => ?_, by simp, by simp, by simp [scalar]⟩ (by simp [ownSl])
      cases hy
      simp only [List.length_nil, Nat.add_zero, List.append_nil] at b n1
      exact ⟨b, l, n1⟩
    | cons r rest =>
      have b' : h.blks.get x = some ⟨W.map I ++ (r :: rest).map I, (W.length + (rest.length + 1)) * 1, 1, true, true⟩ := by rw [b]; simp
      obtain ⟨h', e1, e2, e3⟩ := app_in' (bytes := 8) (n := W.length) (cap := W.length + (rest.length + 1)) b' (by simp) hy rfl (by simp) rfl (Nat.le_refl _) (by omega) (by omega) (by omega) (by omega)
      refine ⟨_, some x, h', e1, .inr ⟨x, rest, rfl, ?_, ?_, Nat.lt_of_lt_of_le l e3.next, by simp; omega⟩, e3.mono (fun j hj => by rw [hj]), fun y hy => .inl hy⟩
      · simp; omega
      · rw [e2]; simp; omega
end
end Go.Proofs.YtedldiimhbebdaaGreat.Ai
/- What Done, Word, and a record come to. -/
namespace Go.Proofs.YtedldiimhbebdaaGreat.Ai
open Go.Proofs.YtedldiimhbebdaaGreat
noncomputable section
set_option linter.unusedVariables false
open Go.RowKit

/-- the lists that are left -/
def Elems (h : Heap) (K : Nat → Prop) : List Value → List (List Pr) → Prop
  | [], [] => True
  | v :: vs, l :: ls => (∃ u, RowAt h v 2 l.length (flat l) u ∧ ∀ y, u = some y → K y) ∧ Elems h K vs ls
  | _, _ => False

theorem Elems.same {h h' : Heap} {K S : Nat → Prop} (m : Same h h' S) (hk : ∀ j, K j → ¬ S j) : ∀ {vs : List Value} {ls : List (List Pr)}, Elems h K vs ls → Elems h' K vs ls
  | [], [], _ => trivial
  | v :: vs, l :: ls, ⟨⟨u, r, hu⟩, e⟩ => ⟨⟨u, r.same m (fun y hy => hk y (hu y hy)), hu⟩, Elems.same m hk e⟩
  | [], _ :: _, e => e.elim
  | _ :: _, [], e => e.elim

theorem Elems.mono {h : Heap} {K K' : Nat → Prop} (hk : ∀ j, K j → K' j) : ∀ {vs : List Value} {ls : List (List Pr)}, Elems h K vs ls → Elems h K' vs ls
  | [], [], _ => trivial
  | v :: vs, l :: ls, ⟨⟨u, r, hu⟩, e⟩ => ⟨⟨u, r, fun y hy => hk y (hu y hy)⟩, Elems.mono hk e⟩
  | [], _ :: _, e => e.elim
  | _ :: _, [], e => e.elim

theorem Elems.len {h : Heap} {K : Nat → Prop} : ∀ {vs : List Value} {ls : List (List Pr)}, Elems h K vs ls → vs.length = ls.length
  | [], [], _ => rfl
  | v :: vs, l :: ls, ⟨_, e⟩ => by simp [Elems.len e]
  | [], _ :: _, e => e.elim
  | _ :: _, [], e => e.elim

theorem Elems.app {h : Heap} {K : Nat → Prop} : ∀ {vs ws : List Value} {ls ms : List (List Pr)}, Elems h K vs ls → Elems h K ws ms → Elems h K (vs ++ ws) (ls ++ ms)
  | [], ws, [], ms, _, e => e
  | v :: vs, ws, l :: ls, ms, ⟨a, e⟩, f => ⟨a, Elems.app e f⟩
  | [], _, _ :: _, _, e, _ => e.elim
  | _ :: _, _, [], _, e, _ => e.elim

/-- what makes a tree, record by record -/
structure FrAt (h : Heap) (b : Nat) (uw : Option Nat) (K : Nat → Prop) (Ls : List (List Pr)) (W : List Int) (rf : Bool) : Prop where
  ex : ∃ lv wv vs, h.blks.get b = some ⟨[lv, wv, .bool rf], 3, 3, true, false⟩ ∧ LeftAt h lv 1 vs Ls.length K ∧ Elems h K vs Ls ∧ StackAt h wv W uw
  lt : b < h.next
  kb : ¬ K b
  kw : ∀ y, uw = some y → ¬ K y ∧ y ≠ b ∧ y < h.next
  klt : ∀ j, K j → j < h.next

theorem FrAt.same {h h' : Heap} {b : Nat} {uw : Option Nat} {K S : Nat → Prop} {Ls : List (List Pr)} {W : List Int} {rf : Bool} (f : FrAt h b uw K Ls W rf) (m : Same h h' S) (hb : ¬ S b) (hw : ∀ y, uw = some y → ¬ S y) (hk : ∀ j, K j → ¬ S j) : FrAt h' b uw K Ls W rf := by
  obtain ⟨lv, wv, vs, e1, e2, e3, e4⟩ := f.ex
  exact ⟨⟨lv, wv, vs, by rw [m.get b f.lt hb]; exact e1, e2.same m hk, e3.same m hk, e4.same m hw⟩, Nat.lt_of_lt_of_le f.lt m.next, f.kb, fun y hy => ⟨(f.kw y hy).1, (f.kw y hy).2.1, Nat.lt_of_lt_of_le (f.kw y hy).2.2 m.next⟩, fun j hj => Nat.lt_of_lt_of_le (f.klt j hj) m.next⟩

section
variable {P : Program} {tab : Nat → Option AFunc} (hT : TabOk P tab) (G : HasG tab)
include hT G

theorem gdone_spec {h : Heap} {b : Nat} {uw : Option Nat} {K : Nat → Prop} {Ls : List (List Pr)} {W : List Int} {rf : Bool} (f : FrAt h b uw K Ls W rf) : FSpec P 11 [.pointer (some ⟨b, 0, none⟩)] h fun v h' => v = .bool (rf || Ls.isEmpty) ∧ h' = h := by
  refine fspec_cwf hT G.g18 rfl ?_
  obtain ⟨lv, wv, vs, e1, e2, e3, e4⟩ := f.ex
  obtain ⟨base, hlv⟩ := e2.len
  have r0 : h.rd b 0 = some lv := rd_of e1
  have r2 : h.rd b 2 = some (.bool rf) := rd_of e1
  subst hlv
  cases rf with
  | true => simp only [af11, cwf_seq, cwf_ops, cwf_ret, andThen_normal, fnQ_ret, owf_nil, o_p, o_r, o_off, bo_eq, optQ_some, pop, popQ, rop_load1, ldV_ptr, ev, putA, putArgs, look_put, isB_false, resAll, resA, mkRes1, cond_true, ite_true, ite_false, Bool.not_true, Nat.reduceEqDiff, Nat.zero_add, Option.some.injEq, exists_eq_left', and_true, r2, Bool.true_or]
  | false =>
    cases Ls with
    | nil =>
      have c0 : (((0 : Nat) : Int) == 0) = true := rfl
      simp only [af11, cwf_seq, cwf_ops, cwf_ret, andThen_normal, fnQ_ret, owf_nil, o_p, o_r, o_on, bo_eq, optQ_some, pop, popQ, rop_load1, ldV_ptr, ev, putA, putArgs, look_put, isB_false, abinF_eq, abin, resAll, resA, mkRes1, List.length_nil, Nat.add_zero, Int.cast_ofNat_Int, decide_true, cond_true, cond_false, ite_true, ite_false, Bool.not_false, Nat.reduceEqDiff, Nat.zero_add, Option.some.injEq, exists_eq_left', and_true, r0, r2, Bool.false_or, List.isEmpty_nil, List.length_nil, beq_self_eq_true]
    | cons l Ls =>
      have c0 : (((Ls.length + 1 : Nat) : Int) == 0) = false := by rw [beq_eq_false_iff_ne]; omega
      simp only [af11, cwf_seq, cwf_ops, cwf_ret, andThen_normal, fnQ_ret, owf_nil, o_p, o_r, o_on, bo_eq, optQ_some, pop, popQ, rop_load1, ldV_ptr, ev, putA, putArgs, look_put, isB_false, abinF_eq, abin, resAll, resA, mkRes1, List.length_cons, Nat.add_zero, decide_true, cond_true, cond_false, ite_true, ite_false, Bool.not_false, Nat.reduceEqDiff, Nat.zero_add, Option.some.injEq, exists_eq_left', and_true, r0, r2, Bool.false_or, List.isEmpty_cons, List.length_cons, c0]

theorem gword_spec {h : Heap} {b : Nat} {uw : Option Nat} {K : Nat → Prop} {Ls : List (List Pr)} {W : List Int} {rf : Bool} (f : FrAt h b uw K Ls W rf) (hW : rf = false → Ls = [] → W ≠ []) : FSpec P 16 [.pointer (some ⟨b, 0, none⟩)] h fun v h' => v = (if rf || !Ls.isEmpty then .tuple #[I 0, .bool false] else .tuple #[I (W.headD 0), .bool true]) ∧ h' = h := by
  refine fspec_cwf hT G.g17 rfl ?_
  obtain ⟨lv, wv, vs, e1, e2, e3, e4⟩ := f.ex
  obtain ⟨v1, h1, F1, rfl, rfl⟩ := gdone_spec hT G f
  have r2 : h1.rd b 2 = some (.bool rf) := rd_of e1
  cases rf with
  | true =>
    simp only [af16, cwf_seq, cwf_ops, cwf_ret, c_true, andThen_normal, andThen_ret, fnQ_ret, owf_nil, o_p, o_r, o_off, bo_eq, optQ_some, pop, popQ, rop_load1, ldV_ptr, ev, putA, putArgs, look_put, isB_true, isB_false, resAll, resA, mkRes2, cond_true, ite_true, ite_false, Bool.not_true, Nat.reduceEqDiff, Nat.zero_add, Option.some.injEq, exists_eq_left', and_true, r2, Bool.true_or]
  | false =>
    have r1 : h1.rd b 1 = some wv := rd_of e1
    cases Ls with
    | nil =>
      have hW := hW rfl rfl
      simp only [af16, cwf_seq, cwf_ops, andThen_normal, owf_nil, o_p, o_r, owf_call, o_on, bo_eq, optQ_some, pop, popQ, rop_load1, ldV_ptr, ev, evs, putA, putArgs, look_put, isB_false, ite_true, ite_false, Bool.not_false, Nat.reduceEqDiff, Nat.zero_add, r2]
      refine ⟨_, _, F1, ?_⟩
      rcases e4 with ⟨_, hn, _⟩ | ⟨x, rest, hx, rfl, hb, hl, n1⟩
      · exact (hW hn).elim
      · have c0 : ((0 : Int) < W.length) = True := by
          have := List.length_pos_iff.2 hW
          simp; omega
        have rw0 : h1.rd x 0 = some (I (W.headD 0)) := by
          rw [rd_of hb]
          cases W with
          | nil => exact (hW rfl).elim
          | cons w W => rfl
        simp only [cwf_seq, cwf_ops, cwf_ret, c_false, cwf_skip, andThen_normal, fnQ_ret, owf_nil, o_p, o_r, o_on, behind_eq, bo_eq, optQ_some, pop, popQ, rop_load1, ldV_ptr, ev, putA, look_put, isB_false, resAll, resA, mkRes2, Int.reduceLE, Int.reduceToNat, Nat.mul_one, Nat.add_zero, inB_eq, decide_true, cond_true, cond_false, ite_true, ite_false, Bool.and_true, Bool.not_true, Bool.not_false, Nat.reduceEqDiff, Nat.zero_add, Option.some.injEq, exists_eq_left', and_true, r1, Bool.false_or, List.isEmpty_nil, c0, rw0, Bool.or_false, Bool.false_eq_true]
    | cons l Ls =>
      simp only [af16, cwf_seq, cwf_ops, andThen_normal, owf_nil, o_p, o_r, owf_call, o_on, bo_eq, optQ_some, pop, popQ, rop_load1, ldV_ptr, ev, evs, putA, putArgs, look_put, isB_false, ite_true, ite_false, Bool.not_false, Nat.reduceEqDiff, Nat.zero_add, r2]
      refine ⟨_, _, F1, ?_⟩
      simp only [cwf_seq, cwf_ops, cwf_ret, c_true, andThen_normal, andThen_ret, fnQ_ret, owf_nil, o_p, o_on, behind_eq, bo_eq, optQ_some, pop, popQ, ev, putA, look_put, isB_true, isB_false, resAll, resA, mkRes2, cond_false, ite_true, ite_false, Bool.not_false, Nat.reduceEqDiff, Option.some.injEq, exists_eq_left', and_true, Bool.false_or, List.isEmpty_cons]

omit G in
theorem innerR_spec (H : Has tab) {h : Heap} {n : Int} {xk pk ck xw pw cw : Nat} {A W : List Int} (hk : RdAt h xk pk 1 A.length ck (A.map I)) (hw : RdAt h xw pw 1 W.length cw (W.map I)) (k0 : A ≠ []) (hl : W.length = A.length + 1) (hb : W.length < 1000) :
    FSpec P 38 [I n, .slice (some ⟨xk, pk, none⟩) A.length ck, .slice (some ⟨xw, pw, none⟩) W.length cw] h fun v h' => ∃ x, h.next ≤ x ∧ v = .slice (some ⟨x, 0, none⟩) ([(W.length : Int), n, 0, 0, 0] ++ A ++ W).length ([(W.length : Int), n, 0, 0, 0] ++ A ++ W).length ∧ RdAt h' x 0 1 ([(W.length : Int), n, 0, 0, 0] ++ A ++ W).length ([(W.length : Int), n, 0, 0, 0] ++ A ++ W).length (([(W.length : Int), n, 0, 0, 0] ++ A ++ W).map I) ∧ Same h h' (fun _ => False) := by
  refine fspec_cwf hT H.f72 rfl ?_
  have w1 : wrapF .i64 ((A.length : Int) + 1) = W.length := by rw [hl, wrapI] <;> omega
  have c1 : ((W.length : Int) != W.length) = false := by simp
  have w0 : W ≠ [] := fun e => by rw [e] at hl; simp at hl
  simp only [af38, cwf_seq, cwf_ops, c_false, cwf_skip, andThen_normal, owf_nil, o_p, o_e, owf_call, behind_eq, bo_eq, optQ_some, opt2_some, pop, popQ, ev, evs, putA, putArgs, look_put, isB_false, abinF_eq, abin, eop_buildS, bldS_some, evP_nil, evP_cons, fillA_nil, fillA_one, List.length_cons, List.length_nil, List.set_cons_zero, List.set_cons_succ, Nat.reduceLT, Nat.lt_add_one, Nat.mul_one, scalar_slice, scalar_int, decide_true, cond_true, cond_false, ite_true, ite_false, Bool.not_false, Nat.reduceEqDiff, Nat.reduceAdd, Nat.zero_add, w1, c1]
  have r5 : RdAt (h.new ⟨[I W.length, I n, I 0, I 0, I 0], 5, 1, true, false⟩) h.next 0 1 5 5 [I W.length, I n, I 0, I 0, I 0] := RdAt.fresh h [I W.length, I n, I 0, I 0, I 0] 5 1 true false rfl
  generalize hk1 : h.new ⟨[I W.length, I n, I 0, I 0, I 0], 5, 1, true, false⟩ = k1 at r5
  have s1 : Same h k1 (fun _ => False) := hk1 ▸ Same.new
  have r3 : RdAt (k1.new ⟨[.slice (some ⟨h.next, 0, none⟩) 5 5, .slice (some ⟨xk, pk, none⟩) A.length ck, .slice (some ⟨xw, pw, none⟩) W.length cw], 3, 1, true, false⟩) k1.next 0 1 3 3 [.slice (some ⟨h.next, 0, none⟩) 5 5, .slice (some ⟨xk, pk, none⟩) A.length ck, .slice (some ⟨xw, pw, none⟩) W.length cw] := RdAt.fresh k1 _ 3 1 true false rfl
  have s2 : Same k1 (k1.new ⟨[.slice (some ⟨h.next, 0, none⟩) 5 5, .slice (some ⟨xk, pk, none⟩) A.length ck, .slice (some ⟨xw, pw, none⟩) W.length cw], 3, 1, true, false⟩) (fun _ => False) := Same.new
  have sA : Same h (k1.new ⟨[.slice (some ⟨h.next, 0, none⟩) 5 5, .slice (some ⟨xk, pk, none⟩) A.length ck, .slice (some ⟨xw, pw, none⟩) W.length cw], 3, 1, true, false⟩) (fun _ => False) := s1.trans s2 (fun _ _ x => x)
  obtain ⟨v, h3, F, rfl, q2, q3⟩ := concat_spec hT H (A := [(W.length : Int), n, 0, 0, 0]) (B := A) (C := W) r3 (r5.same s2 (fun x => x)) (hk.same sA (fun x => x)) (hw.same sA (fun x => x)) (by simp) k0 w0 (by simp; omega)
  refine ⟨_, _, F, ?_⟩
  simp only [cwf_ret, andThen_normal, fnQ_ret, owf_nil, o_p, behind_eq, bo_eq, optQ_some, pop, popQ, ev, putA, look_put, resAll, resA, mkRes1, ite_true, ite_false, Nat.reduceEqDiff, Option.some.injEq, exists_eq_left']
  have sB := sA.trans q3 (fun _ _ x => x)
  rw [tail_marks h h3 sB.marks]
  exact ⟨_, Nat.le_trans s1.next s2.next, rfl, q2, sB⟩

/-- a record over a list: its kind, its cells, how many of the words are its children -/
theorem record_spec (H : Has tab) (Nu : Num P) {h : Heap} {b : Nat} {uw ul : Option Nat} {W : List Int} {lv wv v : Value} {rf : Bool} {l : List Pr} (hbl : b < h.next) (hb : h.blks.get b = some ⟨[lv, wv, .bool rf], 3, 3, true, false⟩) (hs : StackAt h wv W uw) (hl : RowAt h v 2 l.length (flat l) ul) (h120 : l.length ≤ 120) (hk : kidsOf l ≤ W.length) (hWl : W.length < 1000000) :
    FSpec P 24 [.pointer (some ⟨b, 0, none⟩), v] h fun r h' => (∃ x cap, r = .tuple #[I (kindOf l), .slice (some ⟨x, 0, none⟩) (recOf l (W.drop (W.length - kidsOf l))).length cap, I (kidsOf l)] ∧ RdAt h' x 0 1 (recOf l (W.drop (W.length - kidsOf l))).length cap ((recOf l (W.drop (W.length - kidsOf l))).map I) ∧ h.next ≤ x) ∧ Same h h' (fun _ => False) := by
  refine fspec_cwf hT G.g61 rfl ?_
  obtain ⟨base, cap, hv⟩ := hl.len
  subst hv
  by_cases h2 : 2 ≤ l.length
  · have pn := partN h2 h120
    have d2 := pn.deg2
    have d11 := pn.deg11
    rw [kidsOf_two h2] at hk ⊢
    rw [kindOf_two h2, recOf_two h2]
    have c0 : ((l.length : Int) == 0) = false := by rw [beq_eq_false_iff_ne]; omega
    have c1 : ((l.length : Int) == 1) = false := by rw [beq_eq_false_iff_ne]; omega
    rcases hl with ⟨e, _⟩ | ⟨xl, pl, capl, rfl, e, rl⟩
    · omega
    cases e
    simp only [af24, cwf_seq, cwf_ops, c_false, cwf_skip, cwf_block, andThen_normal, blockQ_normal, owf_nil, o_p, owf_call, bo_eq, optQ_some, pop, popQ, ev, evs, putA, putArgs, look_put, isB_false, abinF_eq, abin, decide_true, cond_true, cond_false, ite_true, ite_false, Bool.not_false, Nat.reduceEqDiff, Nat.zero_add, c0, c1]
    refine ⟨_, _, Nu.deg l.length h120 h, ?_⟩
    simp only [cwf_seq, cwf_ops, cwf_block, cwf_loop, andThen_normal, owf_nil, o_p, behind_eq, bo_eq, optQ_some, pop, popQ, ev, putA, look_put, ite_true, ite_false, Nat.reduceEqDiff]
    refine cw_loop (fun k ts h' => ∃ (i : Nat) (uk : Option Nat), k = degN l.length - i ∧ 1 ≤ i ∧ i ≤ degN l.length ∧ look ts 0 = .pointer (some ⟨b, 0, none⟩) ∧ look ts 1 = .slice (some ⟨xl, pl, none⟩) l.length cap ∧ look ts 7 = I l.length ∧ look ts 8 = I (degN l.length) ∧ look ts 10 = I i ∧ look ts 9 = ownSl uk (i - 1) ∧ OwnAt h' uk 1 (i - 1) ((keysF l i).map I) ∧ (∀ y, uk = some y → h.next ≤ y) ∧ Same h h' (fun _ => False)) ?_ (n := degN l.length - 1) ⟨1, none, rfl, Nat.le_refl _, by omega, by simp only [look_put, ite_true, ite_false, Nat.reduceEqDiff], by simp only [look_put, ite_true, ite_false, Nat.reduceEqDiff], by simp only [look_put, ite_true, ite_false, Nat.reduceEqDiff], by simp only [look_put, ite_true, ite_false, Nat.reduceEqDiff], by simp only [look_put, Int.cast_ofNat_Int, ite_true, ite_false, Nat.reduceEqDiff] <;> rfl, by simp only [look_put, Nat.reduceSub, ite_true, ite_false, Nat.reduceEqDiff] <;> rfl, OwnAt.nil _ _, (fun y hy => by cases hy), Same.refl _ _⟩
    rintro k ts h' ⟨i, uk, rfl, i1, i2, t0, t1, t7, t8, t10, t9, ok, uf, sm⟩
    refine cwf_cw ?_
    by_cases hi : i < degN l.length
    · have ci : ((i : Int) < degN l.length) = True := by simp [hi]
      have wi : wrapF .i64 ((i : Int) + 1) = ((i + 1 : Nat) : Int) := by rw [wrapI] <;> omega
      have htop := pn.top i hi
      have hone := pn.one i hi
      have hfl : fromN l.length i < l.length := by omega
      have cf : ((fromN l.length i : Int) < l.length) = True := by simp; omega
      have rk : h'.rd xl (pl + fromN l.length i * 2) = some (I l[fromN l.length i].1) := by
        rw [(rl.same sm (fun x => x)).rd (by omega)]; exact flat_key l _ hfl
      simp only [cwf_seq, cwf_ops, c_true, cwf_skip, cwf_block, andThen_normal, owf_nil, o_p, owf_call, bo_eq, optQ_some, pop, popQ, ev, evs, putA, look_put, isB_true, abinF_eq, abin, decide_true, cond_true, ite_true, ite_false, Nat.reduceEqDiff, t1, t7, t8, t10, t9, ci]
      refine ⟨_, _, Nu.frm l.length i h2 h120 hi _, ?_⟩
      have hcell : RdAt (h'.new ⟨[I l[fromN l.length i].1], 1, 1, true, false⟩) h'.next 0 1 1 1 [I l[fromN l.length i].1] := RdAt.fresh h' [I l[fromN l.length i].1] 1 1 true false rfl
      have s4 : Same h' (h'.new ⟨[I l[fromN l.length i].1], 1, 1, true, false⟩) (fun _ => False) := Same.new
      obtain ⟨uk', k5, ha5, ok5, s5, n5⟩ := app_own (bytes := 8) (ok.same s4 (fun _ _ x => x)) hcell.src rfl rfl (Nat.le_refl _) (by omega) (by omega)
      have e1 : i - 1 + 1 = i + 1 - 1 := by omega
      rw [e1] at ha5 ok5
      simp only [cwf_ops, andThen_normal, blockQ_normal, roundQ_normal, owf_nil, o_p, o_r, o_e, behind_eq, bo_eq, optQ_some, opt2_some, pop, popQ, rop_load1, ldV_ptr, ev, putA, look_put, abinF_eq, abin, eop_app, eop_buildS, bldS_some, evP_nil, evP_cons, fillA_nil, fillA_one, List.length_cons, List.length_nil, List.set_cons_zero, Nat.lt_add_one, Int.toNat_natCast, Int.natCast_nonneg, Nat.mul_one, Nat.add_zero, scalar_int, inB_eq, decide_true, cond_true, ite_true, ite_false, Bool.and_true, Nat.reduceEqDiff, Nat.zero_add, true_and, t0, t1, t7, t8, t10, t9, cf, rk, ha5, wi]
      have sk : Same h k5 (fun _ => False) := (sm.trans s4 (fun _ _ x => x)).trans s5 (fun j hj e => by have := uf j e; omega)
      have nx := sm.next
      refine ⟨degN l.length - (i + 1), by omega, i + 1, uk', rfl, by omega, by omega, rfl, rfl, ?_, fun y hy => ?_, sk⟩
      · have e : keysF l (i + 1) = keysF l i ++ [l[fromN l.length i].1] := by
          rw [keysF, if_neg (by omega)]; simp [hfl]
        rw [e, List.map_append]
        exact ok5
      · rcases n5 y hy with e | e
        · exact uf y e
        · rw [e, new_next]; omega
    · have hid : i = degN l.length := by omega
      have ci : ((i : Int) < degN l.length) = False := by simp; omega
      obtain ⟨y, rfl⟩ : ∃ y, uk = some y := by
        cases hu : uk with
        | none => rw [hu] at ok; have := ok.non rfl; omega
        | some y => exact ⟨y, rfl⟩
      have hs' := hs.same sm (fun _ _ x => x)
      obtain ⟨bw, cw, hwv⟩ := hs.len
      have rb : h'.rd b 1 = some wv := by
        rw [rd_of (by rw [sm.get b hbl (fun x => x)]; exact hb)]; rfl
      have wl : wrapF .i64 ((W.length : Int) - degN l.length) = ((W.length - degN l.length : Nat) : Int) := by rw [wrapI] <;> omega
      obtain ⟨xw, pw, cpw, _, f1, rw1⟩ := hs'.from (n := W.length - degN l.length) (by omega)
      have hdl : (W.drop (W.length - degN l.length)).length = degN l.length := by simp; omega
      have hkl : (keysF l (degN l.length)).length = degN l.length - 1 := keysF_len _ _
      rw [hid, ← hkl] at ok
      obtain ⟨v6, h6, F6, x, hx, rfl, r6, s6⟩ := innerR_spec hT H (n := l.length) ok.rd rw1 (by intro e; rw [e] at hkl; simp at hkl; omega) (by rw [hdl, hkl]; omega) (by omega)
      rw [hwv] at rb f1
      have t9' : look ts 9 = .slice (some ⟨y, 0, none⟩) (keysF l (degN l.length)).length (keysF l (degN l.length)).length := by rw [t9, hid, hkl]; rfl
      simp only [cwf_seq, cwf_ops, c_false, cwf_exit, cwf_draw, andThen_normal, andThen_exit, blockQ_exit, roundQ_exit, owf_nil, o_p, bo_eq, bd_eq, optQ_some, d_p, d_r, pop, popQ, rop_load1, ldV_ptr, ev, putA, look_put, isB_false, abinF_eq, abin, decide_true, decide_false, cond_true, ite_true, ite_false, Bool.not_false, Nat.reduceEqDiff, Nat.zero_add, t0, t7, t8, t10, t9', ci]
      refine ⟨cfOf 38 _ h' _ h6 cf00, cfOf_ok F6 cf00_ok, ?_⟩
      have g6 := @cfOf_eq 38 [I l.length, .slice (some ⟨y, 0, none⟩) (keysF l (degN l.length)).length (keysF l (degN l.length)).length, .slice (some ⟨xw, pw, none⟩) (W.drop (W.length - degN l.length)).length cpw] h' (.slice (some ⟨x, 0, none⟩) ([((W.drop (W.length - degN l.length)).length : Int), (l.length : Int), 0, 0, 0] ++ keysF l (degN l.length) ++ W.drop (W.length - degN l.length)).length ([((W.drop (W.length - degN l.length)).length : Int), (l.length : Int), 0, 0, 0] ++ keysF l (degN l.length) ++ W.drop (W.length - degN l.length)).length) h6 cf00
      rw [hdl] at g6 r6 f1
      rw [hdl]
      simp only [cwf_ret, andThen_normal, fnQ_ret, bd_eq, bd2_eq, optQ_some, opt2_some, dwf_nil, d_p, d_r, d_call, pop, popQ, rop_load1, ldV_ptr, rop_slice, ev, evO, evs, putA, look_put, abinF_eq, abin, resAll, resA, mkRes2, decide_true, cond_true, cond_false, ite_true, ite_false, Nat.reduceEqDiff, Nat.zero_add, Option.some.injEq, exists_eq_left', t0, t8, rb, wl, f1, g6]
      have sf := sm.trans s6 (fun _ _ x => x)
      rw [tail_marks h h6 sf.marks]
      have nx := sm.next
      exact ⟨⟨x, _, rfl, r6, by omega⟩, sf⟩
  · match l, h2 with
    | [], _ =>
      obtain ⟨v1, h1, F1, rfl, r1, s1⟩ := empty_spec hT H h
      have c0 : (((0 : Nat) : Int) == 0) = true := rfl
      simp only [af24, cwf_seq, cwf_ops, c_true, cwf_block, andThen_normal, owf_nil, o_p, owf_call, bo_eq, optQ_some, pop, popQ, ev, evs, putA, putArgs, look_put, isB_true, abinF_eq, abin, List.length_nil, Int.cast_ofNat_Int, decide_true, cond_true, cond_false, ite_true, ite_false, Nat.reduceEqDiff, Nat.zero_add, beq_self_eq_true]
      refine ⟨_, _, F1, ?_⟩
      simp only [cwf_ret, andThen_normal, andThen_ret, blockQ_ret, fnQ_ret, owf_nil, o_p, behind_eq, bo_eq, optQ_some, pop, popQ, ev, putA, look_put, resAll, resA, mkRes2, ite_true, ite_false, Nat.reduceEqDiff, Option.some.injEq, exists_eq_left']
      rw [tail_marks h h1 s1.marks]
      exact ⟨⟨h.next, 1, rfl, r1, Nat.le_refl _⟩, s1⟩
    | [p], _ =>
      obtain ⟨v1, h1, F1, rfl, r1, s1⟩ := leaf_spec hT H h p.1 p.2
      have c0 : ((1 : Int) == 0) = false := rfl
      rcases hl with ⟨e, _⟩ | ⟨xl, pl, capl, rfl, e, rl⟩
      · simp at e
      cases e
      have q0 : h.rd xl pl = some (I p.1) := rl.rd (i := 0) (by simp)
      have q1 : h.rd xl (pl + 1) = some (I p.2) := rl.rd (i := 1) (by simp)
      simp only [af24, cwf_seq, cwf_ops, c_true, c_false, cwf_block, cwf_draw, andThen_normal, owf_nil, o_p, bo_eq, bd_eq, optQ_some, d_p, d_r, pop, popQ, rop_load1, ldV_ptr, ev, putA, putArgs, look_put, isB_true, isB_false, abinF_eq, abin, List.length_cons, List.length_nil, Int.reduceLT, Int.reduceLE, Int.reduceToNat, Nat.zero_mul, Nat.add_zero, Int.cast_ofNat_Int, inB_eq, decide_true, cond_true, cond_false, ite_true, ite_false, Bool.and_true, Bool.not_false, Nat.reduceEqDiff, Nat.zero_add, c0, beq_self_eq_true]
      refine ⟨cfOf 37 _ h _ h1 cf00, cfOf_ok F1 cf00_ok, ?_⟩
      have g1 := @cfOf_eq 37 [I p.1, I p.2] h (.slice (some ⟨h.next, 0, none⟩) 2 2) h1 cf00
      simp only [cwf_ret, andThen_normal, andThen_ret, blockQ_ret, fnQ_ret, bd_eq, bd2_eq, optQ_some, opt2_some, dwf_nil, d_p, d_r, d_call, pop, popQ, rop_load1, ldV_ptr, ev, evs, putA, look_put, resAll, resA, mkRes2, Int.reduceLT, Int.reduceLE, Int.reduceToNat, Nat.zero_mul, Nat.add_zero, Int.cast_ofNat_Int, inB_eq, decide_true, cond_true, ite_true, ite_false, Bool.and_true, Nat.reduceEqDiff, Option.some.injEq, exists_eq_left', q0, q1, g1]
      rw [tail_marks h h1 s1.marks]
      exact ⟨⟨h.next, 2, rfl, r1, Nat.le_refl _⟩, s1⟩
    | _ :: _ :: _, h2 => simp at h2
end
end
end Go.Proofs.YtedldiimhbebdaaGreat.Ai
/- What order and New come to. -/
namespace Go.Proofs.YtedldiimhbebdaaGreat.Ai
open Go.Proofs.YtedldiimhbebdaaGreat
noncomputable section
open Go.RowKit

theorem kidsOf_deg (l : List Pr) : kidsOf l = degN l.length := by
  unfold kidsOf degN
  by_cases h : l.length < 2
  · rw [if_pos h, if_pos h]
  · rw [if_neg h]

section
variable {P : Program} {tab : Nat → Option AFunc} (hT : TabOk P tab) (G : HasG tab)
include hT G

theorem order_spec (Nu : Num P) : ∀ (f : Nat) (l : List Pr) (h : Heap) (v : Value) (u uo : Option Nat) (n : Nat) (cells : List Value), l.length < f → l.length ≤ 120 → RowAt h v 2 l.length (flat l) u → OwnAt h uo 1 n cells → (∀ y, u = some y → uo ≠ some y ∧ y < h.next) → n + (ordF f l).length < 100000 →
    FSpec P 21 [ownSl uo n, v] h fun r h' => (∃ uo' vs, r = ownSl uo' (n + (ordF f l).length) ∧ OwnAt h' uo' 1 (n + (ordF f l).length) (cells ++ vs) ∧ Elems h' (fun j => u = some j) vs (ordF f l) ∧ (∀ y, uo' = some y → uo = some y ∨ h.next ≤ y)) ∧ Same h h' (fun j => uo = some j) := by
  intro f
  induction f with
  | zero => intro l h v u uo n cells hf; omega
  | succ f ih =>
    intro l h v u uo n cells hf hl hr ho huo hn
    refine fspec_cwf hT G.g59 rfl ?_
    obtain ⟨base, cap, hv⟩ := hr.len
    subst hv
    have hd11 : degN l.length ≤ 11 := by
      by_cases h2 : 2 ≤ l.length
      · exact (partN h2 hl).deg11
      · rw [← kidsOf_deg, kidsOf, if_pos (by omega)]; omega
    have hord : ordF (f + 1) l = ordK (ordF f) l (degN l.length) ++ [l] := by rw [ordF, kidsOf_deg]
    rw [hord, List.length_append, List.length_singleton] at hn
    simp only [af21, cwf_seq, cwf_ops, andThen_normal, owf_nil, o_p, owf_call, bo_eq, optQ_some, pop, popQ, ev, evs, putA, putArgs, look_put, cond_false, ite_true, ite_false, Nat.reduceEqDiff, Nat.zero_add]
    refine ⟨_, _, Nu.deg l.length hl h, ?_⟩
    simp only [cwf_block, cwf_loop, andThen_normal, owf_nil, o_p, behind_eq, bo_eq, optQ_some, pop, popQ, ev, putA]
    refine cw_loop (fun k ts h' => ∃ (i : Nat) (uo' : Option Nat) (vs : List Value), k = degN l.length - i ∧ i ≤ degN l.length ∧ look ts 0 = ownSl uo' (n + (ordK (ordF f) l i).length) ∧ look ts 1 = .slice base l.length cap ∧ look ts 9 = I (degN l.length) ∧ look ts 10 = I i ∧ OwnAt h' uo' 1 (n + (ordK (ordF f) l i).length) (cells ++ vs) ∧ Elems h' (fun j => u = some j) vs (ordK (ordF f) l i) ∧ (∀ y, uo' = some y → uo = some y ∨ h.next ≤ y) ∧ Same h h' (fun j => uo = some j)) ?_ (n := degN l.length) ⟨0, uo, [], rfl, Nat.zero_le _, by simp only [look_put, ite_true, ite_false, Nat.reduceEqDiff] <;> rfl, by simp only [look_put, ite_true, ite_false, Nat.reduceEqDiff], by simp only [look_put, ite_true, ite_false, Nat.reduceEqDiff], by simp only [look_put, Int.cast_ofNat_Int, ite_true, ite_false, Nat.reduceEqDiff] <;> rfl, by simpa [ordK] using ho, trivial, fun y hy => .inl hy, Same.refl _ _⟩
    rintro k ts h' ⟨i, uo', vs, rfl, i2, t0, t1, t9, t10, oo, ee, hu', sm⟩
    have hr' := hr.same sm (fun y hy e => (huo y hy).1 e)
    have hu6 : ∀ y, u = some y → ¬ uo' = some y := fun y hy e => by
      rcases hu' y e with e2 | e2
      · exact (huo y hy).1 e2
      · have := (huo y hy).2; omega
    refine cwf_cw ?_
    by_cases hi : i < degN l.length
    · have h2 : 2 ≤ l.length := by
        rcases Nat.lt_or_ge l.length 2 with h | h
        · rw [← kidsOf_deg, kidsOf, if_pos h] at hi; omega
        · exact h
      have pn := partN h2 hl
      have hless := pn.less i hi
      have htop := pn.top i hi
      have hone := pn.one i hi
      have hpl := partL_len h2 hl hi
      have ci : ((i : Int) < degN l.length) = True := by simp [hi]
      have wi : wrapF .i64 ((i : Int) + 1) = ((i + 1 : Nat) : Int) := by rw [wrapI] <;> omega
      have wfs : wrapF .i64 ((fromN l.length i : Int) + sizeN l.length i) = ((fromN l.length i + sizeN l.length i : Nat) : Int) := by rw [wrapI] <;> omega
      rcases hr' with ⟨e, _⟩ | ⟨x, p, cp, hux, e, r⟩
      · omega
      cases e
      have hcap := r.cap
      have sl := r.cut (lo := fromN l.length i) (hi := fromN l.length i + sizeN l.length i) (by omega) htop (by omega)
      have hsub := r.sub (lo := fromN l.length i) (hi := fromN l.length i + sizeN l.length i) (by omega) htop
      have e1 : fromN l.length i + sizeN l.length i - fromN l.length i = sizeN l.length i := by omega
      rw [e1] at sl hsub
      have hrow : RowAt h' (.slice (some ⟨x, p + fromN l.length i * 2, none⟩) (sizeN l.length i) (cap - fromN l.length i)) 2 (partL l i).length (flat (partL l i)) u := by
        refine .inr ⟨x, _, _, hux, by rw [hpl], ?_⟩
        rw [partL, flat_take, flat_drop]
        rw [partL] at hpl
        rw [hpl]; exact hsub
      have hlen : (ordK (ordF f) l (i + 1)).length = (ordK (ordF f) l i).length + (ordF f (partL l i)).length := by simp [ordK]
      have hmono : (ordK (ordF f) l (i + 1)).length ≤ (ordK (ordF f) l (degN l.length)).length := by
        have : ∀ a b, a ≤ b → (ordK (ordF f) l a).length ≤ (ordK (ordF f) l b).length := by
          intro a b hab
          induction b with
          | zero => have : a = 0 := by omega
                    subst this; exact Nat.le_refl _
          | succ b ihb =>
            by_cases c : a = b + 1
            · subst c; exact Nat.le_refl _
            · have := ihb (by omega)
              simp only [ordK, List.length_append]; omega
        exact this _ _ (by omega)
      obtain ⟨v3, h3, F3, ⟨uo3, vs3, rfl, oo3, ee3, hu3⟩, s3⟩ := ih (partL l i) h' _ u uo' (n + (ordK (ordF f) l i).length) (cells ++ vs) (by omega) (by omega) hrow oo (fun y hy => ⟨fun e => hu6 y hy e, Nat.lt_of_lt_of_le (huo y hy).2 sm.next⟩) (by omega)
      simp only [cwf_seq, cwf_ops, c_true, cwf_skip, cwf_block, andThen_normal, owf_nil, o_p, owf_call, bo_eq, optQ_some, pop, popQ, ev, evs, putA, look_put, isB_true, abinF_eq, abin, decide_true, cond_true, cond_false, ite_true, ite_false, Nat.reduceEqDiff, t1, t9, t10, ci]
      refine ⟨_, _, Nu.frm l.length i h2 hl hi _, ?_⟩
      simp only [cwf_ops, andThen_normal, owf_nil, o_p, owf_call, behind_eq, bo_eq, optQ_some, pop, popQ, ev, evs, putA, look_put, cond_false, ite_true, ite_false, Nat.reduceEqDiff, t0, t1]
      refine ⟨_, _, Nu.siz l.length i h2 hl hi _, ?_⟩
      simp only [o_p, o_r, owf_call, behind_eq, bo_eq, optQ_some, pop, popQ, rop_slice, ev, evO, evs, putA, look_put, abinF_eq, abin, decide_true, cond_true, ite_true, ite_false, Nat.reduceEqDiff, wfs, sl]
      refine ⟨_, _, F3, ?_⟩
      simp only [cwf_ops, andThen_normal, blockQ_normal, roundQ_normal, owf_nil, o_p, behind_eq, bo_eq, optQ_some, pop, popQ, ev, putA, look_put, abinF_eq, abin, decide_true, cond_true, ite_true, ite_false, Nat.reduceEqDiff, true_and, t0, t1, t9, t10, wi]
      have e3 : n + (ordK (ordF f) l i).length + (ordF f (partL l i)).length = n + (ordK (ordF f) l (i + 1)).length := by omega
      rw [e3, List.append_assoc] at oo3
      refine ⟨degN l.length - (i + 1), by omega, i + 1, uo3, vs ++ vs3, rfl, by omega, by rw [e3], rfl, oo3, ?_, fun y hy => ?_, ?_⟩
      · rw [ordK]
        refine Elems.app (ee.same s3 (fun j hj e => hu6 j hj e)) ee3
      · rcases hu3 y hy with e | e
        · exact hu' y e
        · exact .inr (Nat.le_trans sm.next e)
      · exact sm.trans s3 (fun j hj e => by
          rcases hu' j e with e2 | e2
          · exact e2
          · omega)
    · have hid : i = degN l.length := by omega
      have ci : ((i : Int) < degN l.length) = False := by simp; omega
      have hcell : RdAt (h'.new ⟨[.slice base l.length cap], 1, 1, true, false⟩) h'.next 0 1 1 1 [.slice base l.length cap] := RdAt.fresh h' [.slice base l.length cap] 1 1 true false rfl
      have s4 : Same h' (h'.new ⟨[.slice base l.length cap], 1, 1, true, false⟩) (fun _ => False) := Same.new
      rw [hid] at t0 oo ee
      obtain ⟨uo5, k5, ha5, oo5, s5, n5⟩ := app_own (bytes := 24) (oo.same s4 (fun _ _ x => x)) hcell.src rfl rfl (Nat.le_refl _) (by omega) (by omega)
      simp only [cwf_seq, cwf_ops, cwf_ret, c_false, cwf_exit, andThen_normal, andThen_exit, blockQ_exit, roundQ_exit, fnQ_ret, owf_nil, o_p, o_e, behind_eq, bo_eq, optQ_some, opt2_some, pop, popQ, ev, putA, look_put, isB_false, abinF_eq, abin, resAll, resA, mkRes1, eop_app, eop_buildS, bldS_some, evP_nil, evP_cons, fillA_nil, fillA_one, List.length_cons, List.length_nil, List.set_cons_zero, Nat.lt_add_one, Nat.mul_one, scalar_slice, decide_true, decide_false, cond_true, ite_true, ite_false, Bool.not_false, Nat.reduceEqDiff, Nat.zero_add, Option.some.injEq, exists_eq_left', t0, t1, t9, t10, ci, ha5]
      have sk : Same h k5 (fun j => uo = some j) := (sm.trans s4 (fun _ _ x => x.elim)).trans s5 (fun j hj e => by
        rcases hu' j e with e2 | e2
        · exact e2
        · omega)
      rw [tail_marks h k5 sk.marks]
      have nx := sm.next
      refine ⟨⟨uo5, vs ++ [.slice base l.length cap], ?_, ?_, ?_, fun y hy => ?_⟩, sk⟩
      · rw [hord, List.length_append, List.length_singleton]; rfl
      · rw [hord, List.length_append, List.length_singleton, ← List.append_assoc]; exact oo5
      · rw [hord]
        refine Elems.app ((ee.same s4 (fun _ _ x => x)).same s5 (fun j hj e => hu6 j hj e)) ⟨⟨u, (hr'.same s4 (fun _ _ x => x)).same s5 (fun j hj e => hu6 j hj e), fun y hy => hy⟩, trivial⟩
      · rcases n5 y hy with e | e
        · exact hu' y e
        · exact .inr (by rw [e, new_next]; omega)
end
end
end Go.Proofs.YtedldiimhbebdaaGreat.Ai
/- What New and Step come to. -/
namespace Go.Proofs.YtedldiimhbebdaaGreat.Ai
open Go.Proofs.YtedldiimhbebdaaGreat
noncomputable section
open Go.RowKit

theorem boxV3 (h : Heap) (a b c : Value) : boxV h 3 (.agg #[a, b, c]) = some (.pointer (some ⟨h.next, 0, none⟩), h.new ⟨[a, b, c], 3, 3, true, false⟩) := (rfl)

section
variable {P : Program} {tab : Nat → Option AFunc} (hT : TabOk P tab) (G : HasG tab)
include hT G

theorem clonep_spec {h : Heap} {v : Value} {l : List Pr} {u : Option Nat} (a : RowAt h v 2 l.length (flat l) u) (hl : l.length < 10000) : FSpec P 22 [v] h fun v' h' => (∃ u', RowAt h' v' 2 l.length (flat l) u' ∧ ∀ y, u' = some y → h.next ≤ y ∧ y < h'.next) ∧ Same h h' (fun _ => False) := by
  refine fspec_cwf hT G.g60 rfl ?_
  have e1 : (h.new ⟨[], 0, 2, true, false⟩).blks.get h.next = some ⟨[], 0, 2, true, false⟩ := by rw [new_get]; exact if_pos rfl
  have s1 : Same h (h.new ⟨[], 0, 2, true, false⟩) (fun _ => False) := Same.new
  have l1 : (h.new ⟨[], 0, 2, true, false⟩).next = h.next + 1 := rfl
  have some_case : ∀ (base : Option Addr) (cap : Nat), v = .slice base l.length cap → base ≠ none → cwf P af22.n none af22.body (putArgs .nil 0 [v]) h (fnQ h af22.res fun v' h' => (∃ u', RowAt h' v' 2 l.length (flat l) u' ∧ ∀ y, u' = some y → h.next ≤ y ∧ y < h'.next) ∧ Same h h' (fun _ => False)) := by
    intro base cap hv hb
    have hs := (a.same s1 (fun _ _ x => x)).src
    obtain ⟨ba, rfl⟩ : ∃ ba, base = some ba := by
      cases base with
      | none => exact (hb rfl).elim
      | some ba => exact ⟨ba, rfl⟩
    generalize hh1 : h.new ⟨[], 0, 2, true, false⟩ = h1 at e1 s1 l1 hs
    obtain ⟨vi, h2, z, ap, mi, s2, ze, _⟩ := app_empty (bytes := 16) e1 (by omega) hs (by simp [flat_len]) (flat_scalar l) (by omega) (by omega) (by omega)
    subst hv
    simp only [af22, cwf_seq, cwf_ops, cwf_ret, c_false, cwf_skip, andThen_normal, fnQ_ret, owf_nil, o_p, o_e, behind_eq, bo_eq, optQ_some, opt2_some, pop, popQ, ev, putA, putArgs, look_put, isB_false, resAll, resA, mkRes1, eop_app, eop_buildS, bldS_some, evP_nil, fillA_nil, Nat.zero_mul, isNilV, Option.isNone_some, cond_false, ite_true, ite_false, Bool.not_false, Nat.reduceEqDiff, Option.some.injEq, exists_eq_left', hh1, ap]
    have sf : Same h h2 (fun _ => False) := s1.trans s2 (fun _ _ x => x)
    rw [tail_marks h h2 sf.marks]
    refine ⟨⟨some z, ?_, fun y hy => by cases hy; rcases mi with ⟨_, _, _, _, hz⟩ | ⟨_, o⟩ <;> refine ⟨by omega, ?_⟩ <;> first | exact hz | exact (o.use _ rfl).2.1⟩, sf⟩
    rcases mi with ⟨h0, hf, rfl, hz7, hz⟩ | ⟨rfl, o⟩
    · refine .inr ⟨z, 0, 0, rfl, by rw [h0], ⟨⟨_, hz7, rfl, by rw [hf, h0]; simp, by rw [h0]; simp⟩, by omega, hz⟩⟩
    · exact RowAt.of_own o
  rcases a with ⟨e, ef, rfl | ⟨b, o, k, rfl⟩⟩ | ⟨x, p, cap, e, rfl, r⟩
  · simp only [af22, cwf_seq, cwf_ops, cwf_ret, c_true, andThen_normal, andThen_ret, fnQ_ret, owf_nil, o_p, bo_eq, optQ_some, pop, popQ, ev, putA, putArgs, look_put, isB_true, resAll, resA, mkRes1, isNilV, Option.isNone_none, cond_false, ite_true, ite_false, Bool.not_true, Nat.reduceEqDiff, Option.some.injEq, exists_eq_left']
    exact ⟨⟨none, .inl ⟨e, ef, .inl rfl⟩, fun y hy => by cases hy⟩, Same.refl _ _⟩
  · exact some_case _ _ (by rw [e]) (by simp)
  · exact some_case _ _ rfl (by simp)

theorem gnew_spec (H : Has tab) (Nu : Num P) {h : Heap} {v : Value} {l : List Pr} {u : Option Nat} (a : RowAt h v 2 l.length (flat l) u) (pa : PrAt h v l u) (hl : l.length ≤ 120) (hord : (ordF (l.length + 1) l).length < 90000) :
    FSpec P 9 [v] h fun v' h' => (∃ b K, v' = .pointer (some ⟨b, 0, none⟩) ∧ h.next ≤ b ∧ (∀ j, K j → h.next ≤ j) ∧ (Asc l ∧ FrAt h' b none K (ordF (l.length + 1) l) [] false ∨ ¬ Asc l ∧ FrAt h' b none K [] [] true)) ∧ Same h h' (fun _ => False) := by
  refine fspec_cwf hT G.g15 rfl ?_
  obtain ⟨v1, h1, F1, hr, rfl⟩ := right_spec hT H pa (by omega)
  simp only [af9, cwf_seq, cwf_ops, andThen_normal, owf_nil, o_p, owf_call, bo_eq, optQ_some, pop, popQ, ev, evs, putA, putArgs, look_put, ite_true, ite_false, Nat.reduceEqDiff]
  refine ⟨_, _, F1, ?_⟩
  rcases hr with ⟨rfl, hasc, _⟩ | ⟨rfl, hn⟩
  · simp only [cwf_seq, cwf_ops, c_false, cwf_skip, andThen_normal, owf_nil, o_p, owf_call, behind_eq, bo_eq, optQ_some, pop, popQ, ev, evs, putA, look_put, isB_false, ite_true, ite_false, Bool.not_true, Bool.not_false, Nat.reduceEqDiff]
    obtain ⟨v2, h2, F2, ⟨u2, r2, hu2⟩, s2⟩ := clonep_spec hT G a (by omega)
    refine ⟨_, _, F2, ?_⟩
    obtain ⟨v3, h3, F3, ⟨uo, vs, rfl, oo, ee, huo⟩, s3⟩ := order_spec hT G Nu (l.length + 1) l h2 v2 u2 none 0 [] (by omega) hl r2 (OwnAt.nil _ _) (fun y hy => ⟨by simp, (hu2 y hy).2⟩) (by omega)
    rw [Nat.zero_add, List.nil_append] at oo
    simp only [Nat.zero_add] at F3
    have x2 := s2.next
    have x3 := s3.next
    have F3' : Fact P 21 [.slice none 0 0, v2] h2 (ownSl uo (ordF (l.length + 1) l).length) h3 := F3
    simp only [owf_call, behind_eq, ev, evs, putA, look_put, ite_true, ite_false, Nat.reduceEqDiff]
    refine ⟨_, _, F3', ?_⟩
    simp only [cwf_ret, andThen_normal, fnQ_ret, owf_nil, o_p, o_e, behind_eq, bo_eq, optQ_some, opt2_some, pop, popQ, ev, putA, look_put, resAll, resA, mkRes1, eop_box, evP_nil, evP_cons, fillA_nil, fillA_one, List.length_cons, List.length_nil, List.set_cons_zero, Nat.reduceLT, scalar_slice, ite_true, ite_false, Nat.reduceEqDiff, Nat.reduceAdd, Nat.zero_add, Option.some.injEq, exists_eq_left', ownSl, boxV3]
    have sb : Same h3 (h3.new ⟨[.slice (uo.map fun x => ⟨x, 0, none⟩) (ordF (l.length + 1) l).length (ordF (l.length + 1) l).length, .slice none 0 0, .bool false], 3, 3, true, false⟩) (fun _ => False) := Same.new
    have sf : Same h1 (h3.new ⟨[.slice (uo.map fun x => ⟨x, 0, none⟩) (ordF (l.length + 1) l).length (ordF (l.length + 1) l).length, .slice none 0 0, .bool false], 3, 3, true, false⟩) (fun _ => False) := (s2.trans s3 (fun j hj e => by cases e)).trans sb (fun _ _ x => x)
    rw [tail_marks h1 _ sf.marks]
    have uol := fun y hy => (oo.use y hy).2.1
    refine ⟨⟨h3.next, fun j => u2 = some j ∨ uo = some j, rfl, by omega, fun j hj => ?_, .inl ⟨hasc, ⟨_, _, vs, by rw [new_get]; exact if_pos rfl, ?_, ?_, .inl ⟨rfl, rfl, rfl⟩⟩, Nat.lt_succ_self _, fun e => ?_, fun y hy => (by cases hy), fun j hj => ?_⟩⟩, sf⟩
    · rcases hj with hj | hj
      · exact (hu2 j hj).1
      · rcases huo j hj with e | e
        · cases e
        · omega
    · rcases uo with _ | y
      · have := oo.non rfl
        exact (ord_last _ _ (List.eq_nil_of_length_eq_zero this)).elim
      · exact .inr ⟨y, 0, .inr rfl, rfl, (oo.use y rfl).2.2, (oo.same sb (fun _ _ x => x)).rd⟩
    · exact (ee.mono (fun j hj => .inl hj)).same sb (fun _ _ x => x)
    · rcases e with e | e
      · have := (hu2 _ e).2; omega
      · have := uol _ e; omega
    · rw [new_next]
      rcases hj with hj | hj
      · have := (hu2 j hj).2; omega
      · have := uol j hj; omega
  · simp only [cwf_seq, cwf_ops, cwf_ret, c_true, andThen_normal, andThen_ret, fnQ_ret, owf_nil, o_p, o_e, behind_eq, bo_eq, optQ_some, opt2_some, pop, popQ, ev, putA, look_put, isB_true, resAll, resA, mkRes1, eop_box, evP_nil, evP_cons, fillA_nil, fillA_one, List.length_cons, List.length_nil, List.set_cons_zero, List.set_cons_succ, Nat.lt_add_one, scalar_bool, ite_true, ite_false, Bool.not_false, Nat.reduceEqDiff, Nat.reduceAdd, Nat.zero_add, Option.some.injEq, exists_eq_left', boxV3]
    have sb : Same h1 (h1.new ⟨[.slice none 0 0, .slice none 0 0, .bool true], 3, 3, true, false⟩) (fun _ => False) := Same.new
    rw [tail_marks h1 _ sb.marks]
    refine ⟨⟨h1.next, fun _ => False, rfl, Nat.le_refl _, fun j hj => hj.elim, .inr ⟨fun hx => hn ⟨hx, by omega⟩, ⟨_, _, [], by rw [new_get]; exact if_pos rfl, .inl ⟨rfl, rfl, .inl rfl⟩, trivial, .inl ⟨rfl, rfl, rfl⟩⟩, Nat.lt_succ_self _, fun e => e, fun y hy => (by cases hy), fun j hj => hj.elim⟩⟩, sb⟩
end
end
end Go.Proofs.YtedldiimhbebdaaGreat.Ai
/- What Step comes to. -/
namespace Go.Proofs.YtedldiimhbebdaaGreat.Ai
open Go.Proofs.YtedldiimhbebdaaGreat
noncomputable section
open Go.RowKit

/-- the beginning of a slice -/
def stV (v : Value) (n : Nat) : Value := match v with
  | .slice base _ cap => .slice base n cap
  | v => v

theorem StackAt.to' {h : Heap} {v : Value} {W : List Int} {u : Option Nat} (a : StackAt h v W u) {n : Nat} (hn : n ≤ W.length) : slV h 1 v none (some (I n)) = some (stV v n) ∧ StackAt h (stV v n) (W.take n) u := by
  obtain ⟨v', e, s⟩ := a.to hn
  have e2 : slV h 1 v none (some (I n)) = some (stV v n) := by
    rcases a with ⟨rfl, rfl, rfl⟩ | ⟨x, rest, rfl, rfl, b, l, n1⟩
    · have : n = 0 := by simpa using hn
      subst this; rfl
    · have r : RdAt h x 0 1 W.length (W.length + rest.length) (W.map I) := ⟨⟨_, b, rfl, by simp, by simp⟩, by omega, l⟩
      exact r.to (hi := n) (by omega) (by omega)
  rw [e] at e2
  cases e2
  exact ⟨e, s⟩

/-- what a record's step turns -/
abbrev StepS (bm : Nat) (um : Option Nat) (b : Nat) (uw : Option Nat) (j : Nat) : Prop := j = bm ∨ um = some j ∨ j = b ∨ uw = some j

section
variable {P : Program} {tab : Nat → Option AFunc} (hT : TabOk P tab) (G : HasG tab)
include hT G

theorem gstep_done {h : Heap} {b : Nat} {uw : Option Nat} {K : Nat → Prop} {Ls : List (List Pr)} {W : List Int} {rf : Bool} (f : FrAt h b uw K Ls W rf) (hd : rf = true ∨ Ls = []) (m : Value) : FSpec P 14 [.pointer (some ⟨b, 0, none⟩), m] h fun v h' => v = .bool true ∧ h' = h := by
  refine fspec_cwf hT G.g16 rfl ?_
  obtain ⟨v1, h1, F1, rfl, rfl⟩ := gdone_spec hT G f
  have e : (rf || Ls.isEmpty) = true := by
    rcases hd with rfl | rfl <;> simp
  rw [e] at F1
  simp only [af14, cwf_seq, cwf_ops, andThen_normal, owf_nil, o_p, owf_call, bo_eq, optQ_some, pop, popQ, ev, evs, putA, putArgs, look_put, ite_true, ite_false, Nat.reduceEqDiff, Nat.zero_add]
  refine ⟨_, _, F1, ?_⟩
  simp only [cwf_seq, cwf_ops, cwf_ret, c_true, andThen_normal, andThen_ret, fnQ_ret, owf_nil, o_p, behind_eq, bo_eq, optQ_some, pop, popQ, ev, putA, look_put, isB_true, resAll, resA, mkRes1, ite_true, ite_false, Nat.reduceEqDiff, Option.some.injEq, exists_eq_left', and_true]

theorem gstep_spec (H : Has tab) (Nu : Num P) {h : Heap} {b bm : Nat} {uw um : Option Nat} {K : Nat → Prop} {l : List Pr} {Ls : List (List Pr)} {W C : List Int} {z c o r : Int} (f : FrAt h b uw K (l :: Ls) W false) (m : MemAt h bm um C z c o r)
    (hb : b ≠ bm) (hub : um ≠ some b) (hkm : ¬ K bm) (hku : ∀ y, um = some y → ¬ K y) (huw : ∀ y, uw = some y → y ≠ bm ∧ um ≠ some y) (h120 : l.length ≤ 120) (hk : kidsOf l ≤ W.length) (hWl : W.length < 100000) (hC : (C.length : Int) ≤ z) (hz : z ≤ 65536) (hc : 0 ≤ c ∧ c < 1000000000) (hr : 0 ≤ r ∧ r < 1000000000) :
    FSpec P 14 [.pointer (some ⟨b, 0, none⟩), .pointer (some ⟨bm, 0, none⟩)] h fun v h' =>
      (((gstep (C, W) l).1.length : Int) ≤ z ∧ v = .bool Ls.isEmpty ∧ (∃ um' uw', MemAt h' bm um' (gstep (C, W) l).1 z (c + 1) o r ∧ FrAt h' b uw' K Ls (gstep (C, W) l).2 false ∧ (∀ y, um' = some y → um = some y ∨ h.next ≤ y) ∧ (∀ y, uw' = some y → (uw = some y ∨ h.next ≤ y) ∧ um' ≠ some y)) ∨
       z < ((gstep (C, W) l).1.length : Int) ∧ v = .bool true ∧ MemAt h' bm um C z (c + 1) o (r + 1) ∧ FrAt h' b uw K (l :: Ls) W true) ∧ Same h h' (StepS bm um b uw) := by
  refine fspec_cwf hT G.g16 rfl ?_
  obtain ⟨lv, wv, vs, e1, e2, e3, e4⟩ := f.ex
  obtain ⟨v1, h1, F1, rfl, rfl⟩ := gdone_spec hT G f
  have F1' : Fact P 11 [.pointer (some ⟨b, 0, none⟩)] h1 (.bool false) h1 := F1
  cases vs with
  | nil => exact e3.elim
  | cons vl vs =>
  obtain ⟨⟨ul, rl, hul⟩, e3⟩ := e3
  obtain ⟨⟨xl, pl, hKx, hlv, rd0⟩, lv', sl1, e2'⟩ := e2.tail
  have r0 : h1.rd b 0 = some lv := rd_of e1
  have fl := f.lt
  have fkw := f.kw
  have ml := m.lt
  have mu := fun y hy => (m.use y hy).2.2.1
  obtain ⟨v2, h2, F2, ⟨x2, cap2, rfl, r2, hx2⟩, s2⟩ := record_spec hT G H Nu fl e1 e4 rl h120 hk (by omega)
  have x2n := s2.next
  have hgl : (gstep (C, W) l).1.length = C.length + (recOf l (W.drop (W.length - kidsOf l))).length := by simp [gstep]
  generalize hR : recOf l (W.drop (W.length - kidsOf l)) = R at F2 r2 hgl
  have hR1 : 1 ≤ R.length := hR ▸ recOf_pos _ _
  have hgC : (gstep (C, W) l).1 = C ++ R := by rw [← hR]; rfl
  have hgW : (gstep (C, W) l).2 = W.take (W.length - kidsOf l) ++ [((C.length : Int) + 1) * 8 + kindOf l] := rfl
  have m2 := m.same s2 (fun x => x) (fun _ _ x => x)
  have c0 : ((0 : Int) < ((l :: Ls).length : Int)) = True := by simp
  have c0' : ((0 : Int) < ((Ls.length + 1 : Nat) : Int)) = True := by simp
  by_cases hroom : (C.length : Int) + R.length ≤ z
  · obtain ⟨v3, h3, F3, rfl, ⟨um3, m3, hum3⟩, s3⟩ := make_ok hT H m2 (x := x2) (p := 0) (cap := cap2) (ws := R) r2 (by omega) (fun e => by rw [e] at hR1; simp at hR1) hroom hz hc
    have x3n := s3.next
    have ns3 : ∀ j, j < h1.next → j ≠ bm → um ≠ some j → ¬ (j = bm ∨ um = some j) := fun j _ h1 h2 e => e.elim h1 h2
    have f3 : FrAt h3 b uw K (l :: Ls) W false := (f.same s2 (fun x => x) (fun _ _ x => x) (fun _ _ x => x)).same s3 (ns3 b fl hb hub) (fun y hy => ns3 y (fkw y hy).2.2 (huw y hy).1 (huw y hy).2) (fun j hj => ns3 j (f.klt j hj) (fun e => hkm (e ▸ hj)) (fun e => hku j e hj))
    have sA : Same h1 h3 (StepS bm um b uw) := (s2.mono (fun _ x => x.elim)).trans (s3.mono (fun j hj => hj.elim .inl (fun e => .inr (.inl e)))) (fun _ _ x => x)
    -- the list of what is left
    have b3 : h3.blks.get b = some ⟨[lv, wv, .bool false], 3, 3, true, false⟩ := by
      rw [s3.get b (by omega) (ns3 b fl hb hub), s2.get b fl (fun x => x)]; exact e1
    have r30 : h3.rd b 0 = some lv := rd_of b3
    have sl3 : slV h3 1 lv (some (I 1)) none = some lv' := by
      have hx : h3.blks.get xl = h1.blks.get xl := by
        rw [s3.get xl (Nat.lt_of_lt_of_le (f.klt xl hKx) x2n) (ns3 xl (f.klt xl hKx) (fun e => hkm (e ▸ hKx)) (fun e => hku xl e hKx)), s2.get xl (f.klt xl hKx) (fun x => x)]
      rw [hlv] at sl1 ⊢
      unfold slV at sl1 ⊢
      simp only [hx] at sl1 ⊢
      exact sl1
    have slsc : scalar lv' = true := by
      obtain ⟨base, e⟩ := e2'.len
      rw [e]; exact scalar_slice _ _ _
    have w4 : h3.wrs b 0 [lv'] = some (h3.setB b ⟨[lv', wv, .bool false], 3, 3, true, false⟩) := wrs1_of b3 rfl (by simp) slsc
    generalize hh4 : h3.setB b ⟨[lv', wv, .bool false], 3, 3, true, false⟩ = h4 at w4
    have s4 : Same h3 h4 (fun j => j = b) := hh4 ▸ Same.setB rfl
    have b4 : h4.blks.get b = some ⟨[lv', wv, .bool false], 3, 3, true, false⟩ := hh4 ▸ (by rw [setB_get, if_pos rfl])
    have x4n := s4.next
    have st4 : StackAt h4 wv W uw := ((e4.same s2 (fun _ _ x => x)).same s3 (fun y hy => ns3 y (fkw y hy).2.2 (huw y hy).1 (huw y hy).2)).same s4 (fun y hy e => (fkw y hy).2.1 e)
    -- the words
    have hn : W.length - kidsOf l ≤ W.length := Nat.sub_le _ _
    obtain ⟨a5, st5⟩ := st4.to' hn
    have kind1 : kindOf l ≥ 1 ∧ kindOf l ≤ 5 := by
      unfold kindOf
      by_cases q : l.length = 0
      · rw [if_pos q]; omega
      · rw [if_neg q]
        by_cases q1 : l.length = 1
        · rw [if_pos q1]; omega
        · rw [if_neg q1]; omega
    obtain ⟨v6, h6, F6, rfl, rfl⟩ := of_spec hT H (kindOf l) ((C.length : Int) + 1) h4 kind1.1 kind1.2 (by omega) (by omega)
    have hcell : RdAt (h6.new ⟨[I (((C.length : Int) + 1) * 8 + kindOf l)], 1, 1, true, false⟩) h6.next 0 1 1 1 [I (((C.length : Int) + 1) * 8 + kindOf l)] := RdAt.fresh h6 [I (((C.length : Int) + 1) * 8 + kindOf l)] 1 1 true false rfl
    have s7 : Same h6 (h6.new ⟨[I (((C.length : Int) + 1) * 8 + kindOf l)], 1, 1, true, false⟩) (fun _ => False) := Same.new
    have x7n : (h6.new ⟨[I (((C.length : Int) + 1) * 8 + kindOf l)], 1, 1, true, false⟩).next = h6.next + 1 := rfl
    generalize hh7 : h6.new ⟨[I (((C.length : Int) + 1) * 8 + kindOf l)], 1, 1, true, false⟩ = h7 at hcell s7 x7n
    obtain ⟨wv8, uw8, h8, a8, st8, s8, hu8⟩ := (st5.same s7 (fun _ _ x => x)).push hcell.src (by simp; omega)
    have x8n := s8.next
    have b8 : h8.blks.get b = some ⟨[lv', wv, .bool false], 3, 3, true, false⟩ := by
      rw [s8.get b (by omega) (fun e => (fkw b e).2.1 rfl), s7.get b (by omega) (fun x => x)]; exact b4
    have wsc : scalar wv8 = true := by
      obtain ⟨base, cap, e⟩ := st8.len
      rw [e]; exact scalar_slice _ _ _
    have w9 : h8.wrs b 1 [wv8] = some (h8.setB b ⟨[lv', wv8, .bool false], 3, 3, true, false⟩) := wrs1_of b8 rfl (by simp) wsc
    have s9 : Same h8 (h8.setB b ⟨[lv', wv8, .bool false], 3, 3, true, false⟩) (fun j => j = b) := Same.setB rfl
    have b9 : (h8.setB b ⟨[lv', wv8, .bool false], 3, 3, true, false⟩).blks.get b = some ⟨[lv', wv8, .bool false], 3, 3, true, false⟩ := by rw [setB_get, if_pos rfl]
    generalize hh9 : h8.setB b ⟨[lv', wv8, .bool false], 3, 3, true, false⟩ = h9 at w9 s9 b9
    have x9n := s9.next
    have sB : Same h3 h9 (StepS bm um b uw) := (((s4.mono (T := StepS bm um b uw) (fun j hj => .inr (.inr (.inl hj)))).trans s7 (fun _ _ x => x.elim)).trans s8 (fun j hj e => .inr (.inr (.inr e)))).trans s9 (fun j hj e => .inr (.inr (.inl e)))
    have sF : Same h1 h9 (StepS bm um b uw) := sA.trans sB (fun _ _ x => x)
    have hu8' : ∀ y, uw8 = some y → uw = some y ∨ h3.next ≤ y := fun y hy => (hu8 y hy).imp_right (fun e => by omega)
    have um3l : ∀ y, um3 = some y → y < h3.next := fun y hy => (m3.use y hy).2.2.1
    have kS : ∀ j, K j → ¬ StepS bm um b uw j := fun j hj e => by
      rcases e with e | e | e | e
      · exact hkm (e ▸ hj)
      · exact hku j e hj
      · exact f.kb (e ▸ hj)
      · exact (fkw j e).1 hj
    have n3 : ∀ y, um3 = some y → y ≠ b ∧ uw ≠ some y := fun y hy => by
      rcases hum3 y hy with e | e
      · exact ⟨fun e2 => hub (by rw [e, e2]), fun e2 => (huw y e2).2 e⟩
      · exact ⟨by omega, fun e2 => by have := (fkw y e2).2.2; omega⟩
    have n38 : ∀ y, uw8 = some y → um3 ≠ some y := fun y hy e => by
      rcases hu8' y hy with e2 | e2
      · exact (n3 y e).2 e2
      · have := um3l y e; omega
    have m9 : MemAt h9 bm um3 (C ++ R) z (c + 1) o r := ((((m3.same s4 (fun e => hb e.symm) (fun y hy => (n3 y hy).1)).same s7 (fun x => x) (fun _ _ x => x)).same s8 (fun e => (huw bm e).1 rfl) (fun y hy => (n3 y hy).2)).same s9 (fun e => hb e.symm) (fun y hy => (n3 y hy).1))
    have f9 : FrAt h9 b uw8 K Ls (gstep (C, W) l).2 false := by
      refine ⟨⟨lv', wv8, vs, b9, e2'.same sF kS, e3.same sF kS, ?_⟩, Nat.lt_of_lt_of_le fl sF.next, f.kb, fun y hy => ?_, fun j hj => Nat.lt_of_lt_of_le (f.klt j hj) sF.next⟩
      · rw [hgW]
        refine st8.same s9 (fun y hy e => ?_)
        rcases hu8' y hy with e2 | e2
        · exact (fkw y e2).2.1 e
        · omega
      · have hlt : y < h9.next := by
          rcases st8 with ⟨e, _⟩ | ⟨x, _, e, _, _, q, _⟩
          · rw [e] at hy; cases hy
          · rw [e] at hy; cases hy; omega
        rcases hu8' y hy with e2 | e2
        · exact ⟨(fkw y e2).1, (fkw y e2).2.1, hlt⟩
        · exact ⟨fun e => by have := f.klt y e; omega, by omega, hlt⟩
    obtain ⟨v10, h10, F10, rfl, rfl⟩ := gdone_spec hT G f9
    have F10' : Fact P 11 [.pointer (some ⟨b, 0, none⟩)] h10 (.bool Ls.isEmpty) h10 := F10
    obtain ⟨CF, hcf, g53⟩ : ∃ CF : CallF, CfOk P CF ∧ CF (.fn 25) [I (kindOf l), I ((C.length : Int) + 1)] h6 = some (I (((C.length : Int) + 1) * 8 + kindOf l), h6) := ⟨cfOf 25 _ h6 _ h6 cf00, cfOf_ok F6 cf00_ok, cfOf_eq⟩
    have wl : wrapF .i64 ((W.length : Int) - kidsOf l) = ((W.length - kidsOf l : Nat) : Int) := by rw [wrapI] <;> omega
    obtain ⟨basew, capw, hwv⟩ := e4.len
    simp only [af14, cwf_seq, cwf_ops, andThen_normal, owf_nil, o_p, owf_call, bo_eq, optQ_some, pop, popQ, ev, evs, putA, putArgs, look_put, ite_true, ite_false, Nat.reduceEqDiff, Nat.zero_add]
    refine ⟨_, _, F1', ?_⟩
    subst hlv
    simp only [cwf_seq, cwf_ops, c_false, cwf_skip, andThen_normal, owf_nil, o_p, o_r, owf_call, behind_eq, bo_eq, optQ_some, pop, popQ, rop_load1, ldV_ptr, ev, evs, putA, look_put, isB_false, Int.reduceLE, Int.reduceToNat, Nat.mul_one, Nat.add_zero, inB_eq, decide_true, cond_true, ite_true, ite_false, Bool.and_true, Bool.not_false, Nat.reduceEqDiff, r0, c0', rd0]
    refine ⟨_, _, F2, ?_⟩
    simp only [cwf_seq, cwf_ops, andThen_normal, owf_nil, o_p, owf_call, behind_eq, bo_eq, optQ_some, pop, popQ, ev, evs, putA, look_put, ite_true, ite_false, Nat.reduceEqDiff, List.getElem?_cons_zero, List.getElem?_cons_succ]
    refine ⟨_, _, F3, ?_⟩
    simp only [cwf_seq, cwf_ops, c_false, cwf_skip, andThen_normal, owf_nil, o_p, o_r, o_e, behind_eq, bo_eq, optQ_some, opt2_some, pop, popQ, rop_load1, ldV_ptr, rop_slice, ev, evO, putA, look_put, isB_false, eop_store1, st1, Nat.add_zero, ite_true, ite_false, Bool.not_true, Bool.not_false, Nat.reduceEqDiff, List.getElem?_cons_zero, List.getElem?_cons_succ, r30, sl3, slsc, w4]
    let J : Nat → Heap → Prop := fun i k => i ≤ 2 → k.rd b 1 = some wv ∧ slV k 1 wv none (some (I (W.length - kidsOf l : Nat))) = some (stV wv (W.length - kidsOf l))
    have rb6 : h6.rd b 1 = some wv := rd_of b4
    have rb7 : h7.rd b 1 = some wv := rd_of (by rw [s7.get b (by omega) (fun x => x)]; exact b4)
    have a7 := ((st4.same s7 (fun _ _ x => x)).to' hn).1
    have j0 : J 0 h6 := fun _ => ⟨rb6, a5⟩
    have j1 : J (0 + 1) h6 := fun _ => ⟨rb6, a5⟩
    have j2 : J (0 + 1 + 1) h7 := fun _ => ⟨rb7, a7⟩
    have j3 : J (0 + 1 + 1 + 1) h8 := fun h => by omega
    have j4 : J (0 + 1 + 1 + 1 + 1) h10 := fun h => by omega
    have jr : ∀ j k, 0 ≤ j → j ≤ 2 → J j k → k.rd b 1 = some wv := fun j k _ hj q => (q hj).1
    have js : ∀ j k, 0 ≤ j → j ≤ 2 → J j k → slV k 1 wv none (some (I (W.length - kidsOf l : Nat))) = some (stV wv (W.length - kidsOf l)) := fun j k _ hj q => (q hj).2
    have vw : veq wv wv = true := by rw [hwv]; exact veq_slice _ _ _
    have vs5 : veq (stV wv (W.length - kidsOf l)) (stV wv (W.length - kidsOf l)) = true := by rw [hwv]; exact veq_slice _ _ _
    clear_value J
    refine cwf_win J CF hcf j0 ?_
    subst hwv
    simp only [cwf_seq, cwf_ops, andThen_normal, o_p, owf_call, bo_eq, optQ_some, opt2_some, pop, popQ, rop_load1, ldV_ptr, rop_slice, ev, evO, evs, putA, look_put, abinF_eq, abin, eop_store1, eop_app, st1, eop_buildS, bldS_some, evP_nil, evP_cons, fillA_nil, fillA_one, List.length_cons, List.length_nil, List.set_cons_zero, Nat.lt_add_one, Nat.mul_one, scalar_int, decide_true, cond_true, cond_false, ite_true, ite_false, Nat.reduceEqDiff, Nat.reduceAdd, Nat.zero_add, true_and, w_nil, w_p, w_r, w_e, w_call, bw_eq, bwr_eq, bw2_eq, rb6, wl, a5, g53, hh7, a8, wsc, w9, vw, vs5]
    refine ⟨jr, jr, js, j1, j2, j3, j4, ?_⟩
    refine ⟨_, _, F10', ?_⟩
    simp only [cwf_ret, andThen_normal, fnQ_ret, owf_nil, o_p, behind_eq, bo_eq, optQ_some, pop, popQ, ev, putA, look_put, resAll, resA, mkRes1, ite_true, ite_false, Nat.reduceEqDiff, Option.some.injEq, exists_eq_left', true_and]
    rw [tail_marks h1 h10 sF.marks]
    refine ⟨.inl ⟨by rw [hgl]; simpa using hroom, um3, uw8, by rw [hgC]; exact m9, f9, fun y hy => (hum3 y hy).imp_right (fun e => by omega), fun y hy => ⟨(hu8' y hy).imp_right (fun e => by omega), n38 y hy⟩⟩, sF⟩
  · obtain ⟨v3, h3, F3, rfl, m3, s3⟩ := make_no hT H m2 (base := some ⟨x2, 0, none⟩) (cap := cap2) (n := R.length) (.inr (by omega)) ⟨by omega, hz⟩ hC hc hr
    have x3n := s3.next
    have f3 : FrAt h3 b uw K (l :: Ls) W false := (f.same s2 (fun x => x) (fun _ _ x => x) (fun _ _ x => x)).same s3 (fun e => hb e) (fun y hy => (huw y hy).1) (fun j hj e => hkm (e ▸ hj))
    have b3 : h3.blks.get b = some ⟨[lv, wv, .bool false], 3, 3, true, false⟩ := by
      rw [s3.get b (by omega) (fun e => hb e), s2.get b fl (fun x => x)]; exact e1
    have w4 : h3.wrs b 2 [.bool true] = some (h3.setB b ⟨[lv, wv, .bool true], 3, 3, true, false⟩) := wrs1_of b3 rfl (by simp) rfl
    have s4 : Same h3 (h3.setB b ⟨[lv, wv, .bool true], 3, 3, true, false⟩) (fun j => j = b) := Same.setB rfl
    have b4 : (h3.setB b ⟨[lv, wv, .bool true], 3, 3, true, false⟩).blks.get b = some ⟨[lv, wv, .bool true], 3, 3, true, false⟩ := by rw [setB_get, if_pos rfl]
    generalize hh4 : h3.setB b ⟨[lv, wv, .bool true], 3, 3, true, false⟩ = h4 at w4 s4 b4
    have sF : Same h1 h4 (StepS bm um b uw) := ((s2.mono (T := StepS bm um b uw) (fun _ x => x.elim)).trans s3 (fun j hj e => .inl e)).trans s4 (fun j hj e => .inr (.inr (.inl e)))
    have kS : ∀ j, K j → ¬ StepS bm um b uw j := fun j hj e => by
      rcases e with e | e | e | e
      · exact hkm (e ▸ hj)
      · exact hku j e hj
      · exact f.kb (e ▸ hj)
      · exact (fkw j e).1 hj
    simp only [af14, cwf_seq, cwf_ops, andThen_normal, owf_nil, o_p, owf_call, bo_eq, optQ_some, pop, popQ, ev, evs, putA, putArgs, look_put, ite_true, ite_false, Nat.reduceEqDiff, Nat.zero_add]
    refine ⟨_, _, F1', ?_⟩
    have hlv' := hlv
    subst hlv
    simp only [cwf_seq, cwf_ops, c_false, cwf_skip, andThen_normal, owf_nil, o_p, o_r, owf_call, behind_eq, bo_eq, optQ_some, pop, popQ, rop_load1, ldV_ptr, ev, evs, putA, look_put, isB_false, Int.reduceLE, Int.reduceToNat, Nat.mul_one, Nat.add_zero, inB_eq, decide_true, cond_true, ite_true, ite_false, Bool.and_true, Bool.not_false, Nat.reduceEqDiff, r0, c0', rd0]
    refine ⟨_, _, F2, ?_⟩
    simp only [cwf_seq, cwf_ops, andThen_normal, owf_nil, o_p, owf_call, behind_eq, bo_eq, optQ_some, pop, popQ, ev, evs, putA, look_put, ite_true, ite_false, Nat.reduceEqDiff, List.getElem?_cons_zero, List.getElem?_cons_succ]
    refine ⟨_, _, F3, ?_⟩
    simp only [cwf_seq, cwf_ops, cwf_ret, c_true, andThen_normal, andThen_ret, fnQ_ret, owf_nil, o_p, o_e, behind_eq, bo_eq, optQ_some, opt2_some, pop, popQ, ev, putA, look_put, isB_true, resAll, resA, mkRes1, eop_store1, st1, scalar_bool, ite_true, ite_false, Bool.not_false, Nat.reduceEqDiff, Nat.zero_add, Option.some.injEq, exists_eq_left', true_and, List.getElem?_cons_zero, List.getElem?_cons_succ, w4]
    rw [tail_marks h1 h4 sF.marks]
    refine ⟨.inr ⟨by rw [hgl]; omega, m3.same s4 (fun e => hb e.symm) (fun y hy e => hub (by rw [hy, e])), ⟨⟨_, wv, vl :: vs, b4, (e2.same sF kS), ⟨⟨ul, rl.same sF (fun y hy => kS y (hul y hy)), hul⟩, e3.same sF kS⟩, ((e4.same s2 (fun _ _ x => x)).same s3 (fun y hy => (huw y hy).1)).same s4 (fun y hy => (fkw y hy).2.1)⟩, Nat.lt_of_lt_of_le fl sF.next, f.kb, fun y hy => ⟨(fkw y hy).1, (fkw y hy).2.1, Nat.lt_of_lt_of_le (fkw y hy).2.2 sF.next⟩, fun j hj => Nat.lt_of_lt_of_le (f.klt j hj) sF.next⟩⟩, sF⟩
end
end
end Go.Proofs.YtedldiimhbebdaaGreat.Ai
