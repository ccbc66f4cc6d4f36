/- Texts put together: Plant0, PA, PB, PC2, AiIn2, PD, PE, PF, PG, PH, PI, PJ, QA, QB, QC, QD, QE, QF, ST, RR, SA, SB, SC, SD, SE. -/
import Derived.Test.YthjhlifbdieibaaGreatDoorTh2
import Derived.Test.YthjhlifbdieibaaGreatDoorTabOk
namespace Go.Proofs.YthjhlifbdieibaaGreatDoor.Ai
open Go.Proofs.YthjhlifbdieibaaGreatDoor
noncomputable section
set_option linter.all false
variable {P : Program} {tab : Nat -> Option Aac}
open Go.RowKit
def Atd (n : Nat) : Nat := (List.range 12).foldl (fun r k => if k * k <= n then k else r) 0
def Aex (n : Nat) : Nat := if n < 2 then 0 else max 2 (Atd n)
def Ahb (n i : Nat) : Nat := if i < n % Aex n then n / Aex n + 1 else n / Aex n
def Ahl (n i : Nat) : Nat := n / Aex n * i + min i (n % Aex n)
def As9 (f : Nat -> Nat) : Nat -> Nat
 | 0 => 0
 | i + 1 => As9 f i + f i
def Aon : Nat -> Nat -> Nat
 | 0, _ => 0
 | f + 1, n => if n = 0 then 1 else if n = 1 then 2 else As9 (fun i => Aon f (Ahb n i)) (Aex n) + (5 + (Aex n - 1) + Aex n)
def Ai7 (n : Nat) : Nat := Aon 8 n
structure Ato (n : Nat) : Prop where
 deg2 : 2 <= Aex n
 deg11 : Aex n <= 11
 nq : ∀ i, i < Aex n -> Ahl n (i + 1) = Ahl n i + Ahb n i
 one : ∀ i, i < Aex n -> 1 <= Ahb n i
 less : ∀ i, i < Aex n -> Ahb n i < n
 top : ∀ i, i < Aex n -> Ahl n i + Ahb n i <= n
 cells : Ai7 n = As9 (fun i => Ai7 (Ahb n i)) (Aex n) + (5 + (Aex n - 1) + Aex n)
 most : Ai7 n <= 1100
 zero : Ahl n 0 = 0
abbrev Pr := Int × Int
def Asu (l : List Pr) (i : Nat) : List Pr := (l.drop (Ahl l.length i)).take (Ahb l.length i)
def Ag2 (lay : List Pr -> Nat -> Int × List Int) (l : List Pr) (u : Nat) : Nat -> List Int × List Int
 | 0 => ([], [])
 | i + 1 =>
  let r := Ag2 lay l u i
  let w := lay (Asu l i) (u + r.2.length)
  (r.1 ++ [w.1], r.2 ++ w.2)
def Anu (l : List Pr) : Nat -> List Int
 | 0 => []
 | i + 1 => if i = 0 then [] else Anu l i ++ [((l[Ahl l.length i]?).getD (0, 0)).1]
def Apn : Nat -> List Pr -> Nat -> Int × List Int
 | 0, _, _ => (0, [])
 | f + 1, l, u => match l with
  | [] => (((u : Int) + 1) * 8 + 1, [0])
  | [p] => (((u : Int) + 1) * 8 + 2, [p.1, p.2])
  | l =>
   let r := Ag2 (Apn f) l u (Aex l.length)
   ((((u + r.2.length : Nat) : Int) + 1) * 8 + 3, r.2 ++ ([(Aex l.length : Int), (l.length : Int), 0, 0, 0] ++ Anu l (Aex l.length) ++ r.1))
structure Has (tab : Nat -> Option Aac) : Prop where
 f14 : tab 33 = some af33
 f20 : tab 26 = some af26
 f24 : tab 12 = some af12
 f27 : tab 68 = some af68
 f30 : tab 65 = some af65
 f35 : tab 53 = some af53
 f37 : tab 28 = some af28
 f40 : tab 27 = some af27
 f51 : tab 56 = some af56
 f53 : tab 55 = some af55
 f62 : tab 52 = some af52
 f63 : tab 92 = some af92
 f68 : tab 72 = some af72
 f72 : tab 54 = some af54
 f82 : tab 82 = some af82
 f96 : tab 114 = some af114
 f97 : tab 113 = some af113
 f106 : tab 81 = some af81
 f124 : tab 104 = some af104
theorem has : Has tabT.get := ⟨by kernel_rfl, by kernel_rfl, by kernel_rfl, by kernel_rfl, by kernel_rfl, by kernel_rfl, by kernel_rfl, by kernel_rfl, by kernel_rfl, by kernel_rfl, by kernel_rfl, by kernel_rfl, by kernel_rfl, by kernel_rfl, by kernel_rfl, by kernel_rfl, by kernel_rfl, by kernel_rfl, by kernel_rfl⟩
section
variable (hT : Abk P tab) (H : Has tab)
include hT H
end
section
variable (hT : Abk P tab) (H : Has tab)
include hT H
end
def Atl : List Pr -> List Value
 | [] => []
 | p :: l => I p.1 :: I p.2 :: Atl l
structure Num (P : Program) : Prop where
 deg : ∀ n : Nat, n <= 120 -> ∀ h, Af5 P 91 [I n] h (I (Aex n)) h
 frm : ∀ n i : Nat, 2 <= n -> n <= 120 -> i < Aex n -> ∀ h, Af5 P 115 [I n, I i] h (I (Ahl n i)) h
 siz : ∀ n i : Nat, 2 <= n -> n <= 120 -> i < Aex n -> ∀ h, Af5 P 116 [I n, I i] h (I (Ahb n i)) h
 cel : ∀ n : Nat, n <= 120 -> ∀ h, Af5 P 67 [I n] h (I (Ai7 n)) h
section
variable (hT : Abk P tab) (H : Has tab) (Nu : Num P)
include hT H
include Nu
structure At0 (h : Aaa) (b x p cap : Nat) (u : Option Nat) (C : List Int) (z c o r : Int) (f : Nat) (l : List Pr) (i : Nat) (ts : T Value) (h' : Aaa) : Prop where
 t0 : Aax ts 0 = (pp b)
 t1 : Aax ts 1 = .slice (some ⟨x, p, none⟩) l.length cap
 t5 : Aax ts 5 = I l.length
 t32 : Aax ts 32 = I (Aex l.length)
 t33 : Aax ts 33 = I i
 le : i <= Aex l.length
 ex : ∃ uk uc u' c', Aax ts 6 = Aca uk (i - 1) /\ Aax ts 7 = Aca uc i /\ Abd h' uk 1 (i - 1) ((Anu l i).map I) /\ Abd h' uc 1 i ((Ag2 (Apn f) l C.length i).1.map I) /\
  Ae3 h' b u' (C ++ (Ag2 (Apn f) l C.length i).2) z c' o r /\ c <= c' /\ c' <= c + (Ag2 (Apn f) l C.length i).2.length /\ (∀ y, u' = some y -> u = some y \/ h.nq <= y) /\ (∀ y, uk = some y -> h.nq <= y /\ u' ≠ some y) /\ (∀ y, uc = some y -> h.nq <= y /\ u' ≠ some y /\ uk ≠ some y)
 same : Aa4 h h' (fun j => j = b \/ u = some j)
end
theorem Ais {W : World} {k : IntKind} {x : Addr} {len cap : Nat} {zs : List Int} (hl : len <= cap) (hz : zs.length = cap) (h : ∀ i, i < zs.length -> W.cell? (x.add i) = some (.int k (zs.getD i 0))) : Ahk W (some x) 1 len cap (zs.map (.int k)) := by
 refine .inr ⟨x, rfl, hl, by simp [hz], fun i v hv => ?_, by simp [Aa9]⟩
 have hi : i < zs.length := by
  have := (List.getElem?_eq_some_iff.1 hv).1
  simpa using this
 rw [h i hi]
 simp only [List.getElem?_map, List.getElem?_eq_getElem hi, Option.map_some, Option.some.injEq] at hv
 rw [<- hv]; simp [hi]
theorem Ahk.ints_len {w : World} {a : Option Addr} {len cap : Nat} {k : IntKind} {z : List Int} (r : Ahk w a 1 len cap (z.map (.int k))) : len <= cap /\ z.length = cap := by
 rcases r with ⟨_, rfl, rfl, e⟩ | ⟨_, _, a, b, _⟩
 ·have : (z.map (Value.int k)).length = 0 := by rw [e]; rfl
  rw [List.length_map] at this; omega
 ·rw [List.length_map] at b; omega
def Aq9 (h : Aaa) (v : Value) (l : List Pr) (u : Option Nat) : Prop :=
 (l = [] /\ ∃ base cap, v = .slice base 0 cap) \/ ∃ x p cap, u = some x /\ v = .slice (some ⟨x, p, none⟩) l.length cap /\ 1 <= l.length /\ Ael h x p 2 l.length cap (Atl l)
theorem Aq9.same {h h' : Aaa} {v : Value} {l : List Pr} {u : Option Nat} {S : Nat -> Prop} (a : Aq9 h v l u) (s : Aa4 h h' S) (hu : ∀ x, u = some x -> ¬ S x) : Aq9 h' v l u := by
 rcases a with a | ⟨x, p, cap, e1, e2, e3, e4⟩
 ·exact .inl a
 ·exact .inr ⟨x, p, cap, e1, e2, e3, e4.same s (hu x e1)⟩
section
variable (hT : Abk P tab) (H : Has tab)
include hT H
theorem Anv (h : Aaa) (n k : Int) (k0 : 0 < k) (k1 : k < 1000000) : Ac9 P 12 [I n, I k] h fun v h' => v = I (n % k) /\ h' = h := by
 refine Abf hT H.f24 rfl ?_
 have ck : (k = 0) = False := by simp; omega
 have em := Int.emod_nonneg n (show k ≠ 0 by omega)
 have el := Int.emod_lt_of_pos n k0
 have hk := Aka n k k0
 by_cases hm : n.tmod k < 0
 ·have e : n.tmod k + k = n % k := by omega
  have w : Aaw .i64 (n % k) = n % k := Abh (by omega) (by omega)
  simp only [SS, seval, af12, ck, hm, e, w]
 ·have e : n.tmod k = n % k := by omega
  simp only [SS, seval, af12, ck, hm]
  rw [e]
end
theorem Aq9.len {h : Aaa} {v : Value} {l : List Pr} {u : Option Nat} (a : Aq9 h v l u) : ∃ base cap, v = .slice base l.length cap := by
 rcases a with ⟨rfl, base, cap, rfl⟩ | ⟨x, p, cap, _, rfl, _, _⟩
 ·exact ⟨_, _, rfl⟩
 ·exact ⟨_, _, rfl⟩
section
variable (hT : Abk P tab) (H : Has tab)
include hT H
end
section
variable (hT : Abk P tab) (H : Has tab)
include hT H
end
section
variable (hT : Abk P tab) (H : Has tab)
include hT H
end
section
variable (hT : Abk P tab) (H : Has tab)
include hT H
end
section
variable (hT : Abk P tab) (H : Has tab)
include hT H
end
theorem Aln.same {h h' : Aaa} {v : Value} {L : List Int} (a : Aln h v L) (s : Aa4 h h' (fun _ => False)) : Aln h' v L := by
 rcases a with a | ⟨x, p, cap, e, r⟩
 ·exact .inl a
 ·exact .inr ⟨x, p, cap, e, r.same s (fun x => x)⟩
section
variable (hT : Abk P tab) (H : Has tab)
include hT H
end
structure Arn (tab : Nat -> Option Aac) : Prop where
def Aii (sl : Value) (z c o r : Int) : Blk := ⟨[I z, sl, I c, I o, I r], 5, 5, true, false⟩
structure Adp (h : Aaa) (b : Nat) (u : Option Nat) (C : List Int) (z c o r : Int) : Prop where
 blk : h.bqs.get b = some (Aii (Aid u C) z c o r)
 use : ∀ x, u = some x -> h.bqs.get x = some (Al8 C) /\ x ≠ b /\ x < h.nq /\ C ≠ []
 non : u = none -> C = []
 lt : b < h.nq
theorem Adp.same {h h' : Aaa} {b : Nat} {u : Option Nat} {C : List Int} {z c o r : Int} {S : Nat -> Prop} (m : Adp h b u C z c o r) (s : Aa4 h h' S) (hb : ¬ S b) (hu : ∀ x, u = some x -> ¬ S x) : Adp h' b u C z c o r :=
 ⟨by rw [s.get b m.lt hb]; exact m.blk, fun x hx => by
  obtain ⟨h1, h2, h3, h4⟩ := m.use x hx
  exact ⟨by rw [s.get x h3 (hu x hx)]; exact h1, h2, Nat.lt_of_lt_of_le h3 s.nq, h4⟩, m.non, Nat.lt_of_lt_of_le m.lt s.nq⟩
section
variable {h : Aaa} {b : Nat} {u : Option Nat} {C : List Int} {z c o r : Int} (m : Adp h b u C z c o r)
include m
theorem Adp.rd0 : h.rd b 0 = some (I z) := Amt m.blk
theorem Adp.set (z' c' o' r' : Int) : Adp (h.setB b (Aii (Aid u C) z' c' o' r')) b u C z' c' o' r' :=
 ⟨by rw [Abn, if_pos rfl], fun x hx => by
  obtain ⟨h1, h2, h3, h4⟩ := m.use x hx
  exact ⟨by rw [Abn, if_neg h2]; exact h1, h2, h3, h4⟩, m.non, m.lt⟩
theorem Adp.own : Abd h u 1 C.length (C.map I) :=
 ⟨fun x hx => by
  obtain ⟨h1, _, h3, h4⟩ := m.use x hx
  exact ⟨by rw [h1, Nat.mul_one]; rfl, h3, List.length_pos_iff.2 h4⟩, fun hu => by rw [m.non hu]; rfl, by simp, by simp [Aau]⟩
end
theorem Adp.of_own {h : Aaa} {b : Nat} {u : Option Nat} {C : List Int} (a : Abd h u 1 C.length (C.map I)) (hu : ∀ x, u = some x -> x ≠ b) (hb : b < h.nq) (z c o r : Int) : Adp (h.setB b (Aii (Aid u C) z c o r)) b u C z c o r :=
 ⟨by rw [Abn, if_pos rfl], fun x hx => by
  obtain ⟨h1, h2, h3⟩ := a.use x hx
  exact ⟨by rw [Abn, if_neg (hu x hx), h1, Nat.mul_one]; rfl, hu x hx, h2, List.length_pos_iff.1 h3⟩, fun hn => List.eq_nil_of_length_eq_zero (a.non hn), hb⟩
section
variable (hT : Abk P tab) (H : Arn tab)
include hT H
end
structure Atw (P : Program) : Prop where
section
variable (hT : Abk P tab) (H : Arn tab)
include hT H
variable (NR : Atw P)
include NR
structure Atz (h : Aaa) (b x p cap : Nat) (u : Option Nat) (C : List Int) (z c o r : Int) (f : Nat) (l : List Pr) (i : Nat) (ts : T Value) (h' : Aaa) : Prop where
 t0 : Aax ts 0 = (pp b)
 t1 : Aax ts 1 = .slice (some ⟨x, p, none⟩) l.length cap
 t5 : Aax ts 5 = I l.length
 t12 : Aax ts 12 = I (Ahl l.length i)
 t13 : Aax ts 13 = I i
 le : i <= Aex l.length
 ex : ∃ uk uc u' c', Aax ts 10 = Aca uk (i - 1) /\ Aax ts 11 = Aca uc i /\ Abd h' uk 1 (i - 1) ((Anu l i).map I) /\ Abd h' uc 1 i ((Ag2 (Apn f) l C.length i).1.map I) /\
  Adp h' b u' (C ++ (Ag2 (Apn f) l C.length i).2) z c' o r /\ c <= c' /\ c' <= c + (Ag2 (Apn f) l C.length i).2.length /\ (∀ y, u' = some y -> u = some y \/ h.nq <= y) /\ (∀ y, uk = some y -> h.nq <= y /\ u' ≠ some y) /\ (∀ y, uc = some y -> h.nq <= y /\ u' ≠ some y /\ uk ≠ some y)
 same : Aa4 h h' (fun j => j = b \/ u = some j)
end
section
variable (hT : Abk P tab) (H : Arn tab)
include hT H
end
section
variable (hT : Abk P tab) (H : Arn tab)
include hT H
end
section
variable (hT : Abk P tab)
include hT
end
def ldN (h : Aaa) (n : Nat) (v : Value) : Option Value := match v with
 | .pointer (some ⟨b, o, none⟩) => (match h.rds b o n with
  | some l => some (.agg l.toArray)
  | none => none)
 | _ => none
theorem Aci {ts : T Value} {h : Aaa} {n : Nat} {x : Opd} : rop ts h (.loadN n x) = ldN h n (ev ts x) := (rfl)
theorem Ahv {h : Aaa} {b o n : Nat} {l : List Value} (hr : h.rds b o n = some l) : ldN h n (.pointer (some ⟨b, o, none⟩)) = some (.agg l.toArray) := by
 show (match h.rds b o n with | some l => some (Value.agg l.toArray) | none => none) = _
 rw [hr]
section
variable (hT : Abk P tab)
include hT
end
def Aj2 (h : Aaa) (n : Nat) (p v : Value) : Option (Value × Aaa) := match p with
 | .pointer (some ⟨b, o, none⟩) => (let vs := v.cells.toList
   bif Nat.beq vs.length n && Nat.ble 1 n then (match h.wrs b o vs with
    | some h' => some (undef, h')
    | none => none) else none)
 | _ => none
theorem Abq {ts : T Value} {h : Aaa} {a x : Opd} : eop ts h (.store 3 a x) = Aj2 h 3 (ev ts a) (ev ts x) := (rfl)
theorem Aa0 {ts : T Value} {h : Aaa} {a x : Opd} : eop ts h (.store 6 a x) = Aj2 h 6 (ev ts a) (ev ts x) := (rfl)
theorem Am3 {h : Aaa} {b o : Nat} {k : Blk} {vs : List Value} (hb : h.bqs.get b = some k) (ho : k.own = true) (hl : o + vs.length <= k.cells.length) (hs : vs.all Aau = true) : h.wrs b o vs = some (h.setB b { k with cells := spl vs k.cells o }) := by
 unfold Aaa.wrs; rw [hb]
 simp only [ho, Ago hl, hs, Bool.and_true, cond_true]
 rfl
theorem Ak7 {h h' : Aaa} {b o n : Nat} {l : List Value} (hw : h.wrs b o l = some h') (hl : l.length = n) (h1 : 1 <= n) : Aj2 h n (.pointer (some ⟨b, o, none⟩)) (.agg l.toArray) = some (undef, h') := by
 have e : (Value.agg l.toArray).cells.toList = l := by simp [Value.cells]
 unfold Aj2
 simp only [e, hl, Abw, Aa7 h1, hw, Bool.and_true, cond_true]
theorem T.set_set {α : Type} (x y : α) : ∀ (d : Nat) (t : T α) (k : Nat), T.set d (T.set d t k x) k y = T.set d t k y
 | 0, t, k => rfl
 | d + 1, .nil, k => by
  rw [T.set_nil, T.set_nil]
  rcases Aan k 0 with ⟨b1, _⟩ | ⟨b1, _⟩
  ·simp only [b1, cond_true, T.set_node]
  ·cases b2 : Nat.beq (k % 2) 1 with
   | true => simp only [b1, cond_false, cond_true, T.set_node, b2, T.set_set x y d]
   | false => simp only [b1, cond_false, T.set_node, b2, T.set_set x y d]
 | d + 1, .node l v r, k => by
  rw [T.set_node, T.set_node]
  rcases Aan k 0 with ⟨b1, _⟩ | ⟨b1, _⟩
  ·simp only [b1, cond_true, T.set_node]
  ·cases b2 : Nat.beq (k % 2) 1 with
   | true => simp only [b1, cond_false, cond_true, T.set_node, b2, T.set_set x y d]
   | false => simp only [b1, cond_false, T.set_node, b2, T.set_set x y d]
structure Rcd (h : Aaa) (b : Nat) (L : List Value) : Prop where
 blk : h.bqs.get b = some ⟨L, L.length, L.length, true, false⟩
 lt : b < h.nq
def Aaa.setR (h : Aaa) (b : Nat) (L : List Value) : Aaa := h.setB b ⟨L, L.length, L.length, true, false⟩
def Aaa.newR (h : Aaa) (L : List Value) : Aaa := h.new ⟨L, L.length, L.length, true, false⟩
theorem Rcd.rd {h : Aaa} {b : Nat} {L : List Value} (r : Rcd h b L) (i : Nat) : h.rd b i = L[i]? := Amt r.blk
theorem Rcd.wr {h : Aaa} {b : Nat} {L : List Value} (r : Rcd h b L) (i : Nat) (v : Value) (hi : i < L.length) (hv : Aau v = true) : h.wrs b i [v] = some (h.setR b (L.set i v)) := by
 rw [Apy r.blk rfl hi hv]
 unfold Aaa.setR
 rw [List.length_set]
theorem Rcd.set {h : Aaa} {b : Nat} (L' : List Value) (hb : b < h.nq) : Rcd (h.setR b L') b L' := ⟨by unfold Aaa.setR; rw [Abn]; exact if_pos rfl, hb⟩
theorem Rcd.same {h h' : Aaa} {b : Nat} {L : List Value} {S : Nat -> Prop} (r : Rcd h b L) (m : Aa4 h h' S) (hb : ¬ S b) : Rcd h' b L := ⟨by rw [m.get b r.lt hb]; exact r.blk, Nat.lt_of_lt_of_le r.lt m.nq⟩
theorem Aa4.setR {h : Aaa} {b : Nat} {L : List Value} {S : Nat -> Prop} (hb : S b) : Aa4 h (h.setR b L) S := Aa4.setB hb
theorem Aa4.newR {h : Aaa} {L : List Value} {S : Nat -> Prop} : Aa4 h (h.newR L) S := Aa4.new
theorem Rcd.new (h : Aaa) (L : List Value) : Rcd (h.newR L) h.nq L := ⟨by unfold Aaa.newR; rw [Ach]; exact if_pos rfl, Nat.lt_succ_self _⟩
theorem Agl (h : Aaa) (L L' : List Value) (n : Nat) (hl : L.length = n) (hl' : L'.length = n) (h1 : 1 <= n) (hs : L'.all Aau = true) : Aj2 (h.newR L) n (pp h.nq) (.agg L'.toArray) = some (undef, h.newR L') := by
 have hw : (h.newR L).wrs h.nq 0 L' = some ((h.newR L).setB h.nq ⟨spl L' L 0, L.length, L.length, true, false⟩) := Am3 (Rcd.new h L).blk rfl (by simp only [hl, hl']; omega) hs
 have e : spl L' L 0 = L' := by
  rw [Ag5]; simp only [splice]
  rw [List.take_zero, List.nil_append, Nat.zero_add, List.drop_of_length_le (by omega), List.append_nil]
 have e2 : (h.newR L).setB h.nq ⟨L', L.length, L.length, true, false⟩ = h.newR L' := by
  show ({ h.newR L with bqs := (h.newR L).bqs.put h.nq _ } : Aaa) = _
  have : (h.newR L).bqs.put h.nq ⟨L', L.length, L.length, true, false⟩ = (h.newR L').bqs := by
   show (h.bqs.put h.nq _).put h.nq _ = h.bqs.put h.nq _
   simp only [T.put, T.set_set, hl, hl']
  rw [this]; rfl
 rw [e, e2] at hw
 exact Ak7 hw hl' h1
theorem Ap9 (h : Aaa) (L : List Value) (n : Nat) (hl : L.length = n) : ldN (h.newR L) n (pp h.nq) = some (.agg L.toArray) := Ahv (l := L) (by
 rw [Acu (Rcd.new h L).blk (by simp only [hl]; omega)]
 simp only [List.drop_zero]
 rw [List.take_of_length_le (by omega)])
theorem Aaq {ts : T Value} {h : Aaa} {z : List Value} : eop ts h (.alloc z) = some ((pp h.nq), h.newR z) := (rfl)
structure Am1 (tab : Nat -> Option Aac) : Prop where
 f16 : tab 16 = some af16
 f17 : tab 17 = some af17
 f32 : tab 32 = some af32
theorem Aqv : Am1 tabT.get := ⟨by kernel_rfl, by kernel_rfl, by kernel_rfl⟩
abbrev U (n : Int) : Value := .int .u8 n
def sg (a : Int) : Int := if a > 127 then a - 256 else a
def Adg (k t a c : Int) : List Value :=
 if k % 8 = 0 \/ k % 8 = 1 then [I 2, I (t % 8), I (1 + c % 32), I 0, I 0, I 0]
 else if k % 8 = 2 then [I 2, I (t % 8), I 1, I 0, I 0, I 0]
 else if k % 8 = 3 then [I 3, I 0, I (1 + c % 32), I 0, I 0, I 0]
 else if k % 8 = 7 then [I 4, I 0, I (c % 32), I 0, I (sg a), I (1 + t % 8)]
 else [I 1, I (t % 8), I 0, I (1 + t / 8 % 10), I (sg a), I (sg c)]
def Ady (n : Int) : Prop := 0 <= n /\ n < 256
theorem Ad2 {n : Int} (h : Ady n) (m : Int) (hm : 0 < m) : n.tmod m = n % m := Int.tmod_eq_emod_of_nonneg h.1
theorem Aoo {n : Int} (h : Ady n) (m : Int) (hm : 0 < m) : n.tdiv m = n / m := Int.tdiv_eq_ediv_of_nonneg h.1
theorem Alc {a : Int} (h : Ady a) : Aaw .i64 (Aaw .i8 a) = sg a := by
 obtain ⟨h1, h2⟩ := h
 rw [Ab8, Ab8]
 have e : IntKind.i8.wrap a = sg a := by
  unfold sg
  by_cases c : a > 127
  ·rw [if_pos c]; simp only [IntKind.wrap, IntKind.bits, IntKind.signed]; simp; omega
  ·rw [if_neg c]; simp only [IntKind.wrap, IntKind.bits, IntKind.signed]; simp; omega
 rw [e, IntWalk.i64_in _ (by unfold sg; split <;> omega)]
theorem Ar2 {a : Int} (h : Ady a) : Aaw .u8 a = a := by
 obtain ⟨h1, h2⟩ := h
 rw [Ab8]
 simp only [IntKind.wrap, IntKind.bits, IntKind.signed]; simp; omega
theorem Ai1 (a b c d e f x y z : Value) : Adr [a, b, c, d, e, f] [(3, 3, .agg #[x, y, z])] = some [a, b, c, x, y, z] := (rfl)
abbrev Z6 : List Value := [I 0, I 0, I 0, I 0, I 0, I 0]
theorem st6 (h : Aaa) (a b c d e f : Int) : Aj2 (h.newR Z6) 6 (pp h.nq) (.agg #[I a, I b, I c, I d, I e, I f]) = some (undef, h.newR [I a, I b, I c, I d, I e, I f]) := Agl h Z6 [I a, I b, I c, I d, I e, I f] 6 rfl rfl (by omega) rfl
theorem Aix (h : Aaa) (a b c d e f : Int) : (h.newR [I a, I b, I c, I d, I e, I f]).rds h.nq 0 6 = some [I a, I b, I c, I d, I e, I f] := Acu (Rcd.new h [I a, I b, I c, I d, I e, I f]).blk (by simp)
section
variable (hT : Abk P tab) (H : Am1 tab)
include hT H
theorem Aff (a : Int) (b : Ady a) (h : Aaa) : Ac9 P 32 [I a] h fun v h' => v = I (sg a) /\ h' = h := by
 refine Abf hT H.f32 rfl ?_
 have w : Aaw .i64 (a - 256) = a - 256 := Abh (by have := b.1; omega) (by have := b.2; omega)
 by_cases c : a > 127
 ·simp only [SS, seval, af32, c, w]
  simp [sg, c]
 ·simp only [SS, seval, af32, c, w]
  simp [sg, c]
theorem An8 (k t a c : Int) (bk : Ady k) (bt : Ady t) (ba : Ady a) (bc : Ady c) (h : Aaa) : Ac9 P 16 [U k, U t, U a, U c] h fun v h' => v = .agg (Adg k t a c).toArray /\ Aa4 h h' (fun _ => False) := by
 refine Abf hT H.f16 rfl ?_
 have e1 : t.tmod 8 = t % 8 := Ad2 bt 8 (by omega)
 have e2 : c.tmod 32 = c % 32 := Ad2 bc 32 (by omega)
 have e3 : k.tmod 8 = k % 8 := Ad2 bk 8 (by omega)
 have e4 : t.tdiv 8 = t / 8 := Aoo bt 8 (by omega)
 have w1 : Aaw .i64 (t % 8) = t % 8 := Abh (by omega) (by omega)
 have w2 : Aaw .i64 (c % 32) = c % 32 := Abh (by omega) (by omega)
 have w3 : Aaw .i64 (1 + c % 32) = 1 + c % 32 := Abh (by omega) (by omega)
 have w4 : Aaw .i64 (1 + t % 8) = 1 + t % 8 := Abh (by omega) (by omega)
 have w5 : Aaw .i64 (Aaw .i8 a) = sg a := Alc ba
 have w6 : Aaw .i64 (Aaw .i8 c) = sg c := Alc bc
 have bt1 := bt.1
 have bt2 := bt.2
 have w7 : Aaw .i64 (t / 8) = t / 8 := Abh (by omega) (by omega)
 have w9 : Aaw .u8 (t / 8) = t / 8 := Ar2 ⟨by omega, by omega⟩
 have e7 : (t / 8).tmod 10 = t / 8 % 10 := Int.tmod_eq_emod_of_nonneg (by omega)
 have w8 : Aaw .i64 (1 + t / 8 % 10) = 1 + t / 8 % 10 := Abh (by omega) (by omega)
 have fin : ∀ L : List Value, Aa4 h { h.newR L with mq := h.mq } (fun _ => False) := fun L => Aa4.newR
 by_cases k0 : k % 8 = 0
 ·have b0 : (k % 8 == 0) = true := by simp [k0]
  simp only [SS, seval, af16, Aaq, Aa0, e1, e2, e3, e4, w1, w2, w3, w4, w5, w6, w7, e7, w8, b0, Ai1, st6, Aix]
  exact ⟨by simp [Adg, k0], fin _⟩
 have b0 : (k % 8 == 0) = false := by simp [k0]
 by_cases k1 : k % 8 = 1
 ·have b1 : (k % 8 == 1) = true := by simp [k1]
  simp only [SS, seval, af16, Aaq, Aa0, e1, e2, e3, e4, w1, w2, w3, w4, w5, w6, w7, e7, w8, b0, b1, Ai1, st6, Aix]
  exact ⟨by simp [Adg, k1], fin _⟩
 have b1 : (k % 8 == 1) = false := by simp [k1]
 by_cases k2 : k % 8 = 2
 ·have b2 : (k % 8 == 2) = true := by simp [k2]
  simp only [SS, seval, af16, Aaq, Aa0, e1, e2, e3, e4, w1, w2, w3, w4, w5, w6, w7, e7, w8, b0, b1, b2, Ai1, st6, Aix]
  exact ⟨by simp [Adg, k2], fin _⟩
 have b2 : (k % 8 == 2) = false := by simp [k2]
 by_cases k3 : k % 8 = 3
 ·have b3 : (k % 8 == 3) = true := by simp [k3]
  simp only [SS, seval, af16, Aaq, Aa0, e1, e2, e3, e4, w1, w2, w3, w4, w5, w6, w7, e7, w8, b0, b1, b2, b3, Ai1, st6, Aix]
  exact ⟨by simp [Adg, k3], fin _⟩
 have b3 : (k % 8 == 3) = false := by simp [k3]
 by_cases k7 : k % 8 = 7
 ·have b7 : (k % 8 == 7) = true := by simp [k7]
  simp only [SS, seval, af16, Aaq, Aa0, e1, e2, e3, e4, w1, w2, w3, w4, w5, w6, w7, e7, w8, b0, b1, b2, b3, b7, Ai1, st6, Aix]
  exact ⟨by simp [Adg, k7], fin _⟩
 have b7 : (k % 8 == 7) = false := by simp [k7]
 simp only [SS, seval, af16, Aaq, Aa0, e1, e2, e3, e4, w1, w2, w3, w4, w5, w6, w7, e7, w8, b0, b1, b2, b3, b7, w9, Ai1, st6, Aix]
 exact ⟨by simp [Adg, k0, k1, k2, k3, k7], fin _⟩
theorem Ale (k t a c : Int) (bk : Ady k) (bt : Ady t) (ba : Ady a) (bc : Ady c) (h : Aaa) : Ac9 P 17 [I k, I t, I a, I c] h fun v h' => v = .agg (Adg k t a c).toArray /\ Aa4 h h' (fun _ => False) := by
 refine Abf hT H.f17 rfl ?_
 have e1 : t.tmod 8 = t % 8 := Ad2 bt 8 (by omega)
 have e2 : c.tmod 32 = c % 32 := Ad2 bc 32 (by omega)
 have e3 : k.tmod 8 = k % 8 := Ad2 bk 8 (by omega)
 have e4 : t.tdiv 8 = t / 8 := Aoo bt 8 (by omega)
 have bt1 := bt.1
 have bt2 := bt.2
 have e7 : (t / 8).tmod 10 = t / 8 % 10 := Int.tmod_eq_emod_of_nonneg (by omega)
 have w3 : Aaw .i64 (1 + c % 32) = 1 + c % 32 := Abh (by omega) (by omega)
 have w4 : Aaw .i64 (1 + t % 8) = 1 + t % 8 := Abh (by omega) (by omega)
 have w7 : Aaw .i64 (t / 8) = t / 8 := Abh (by omega) (by omega)
 have w8 : Aaw .i64 (1 + t / 8 % 10) = 1 + t / 8 % 10 := Abh (by omega) (by omega)
 have fin : ∀ L : List Value, Aa4 h { h.newR L with mq := h.mq } (fun _ => False) := fun L => Aa4.newR
 obtain ⟨_, _, A, rfl, rfl⟩ := Aff hT H a ba (h.newR Z6)
 obtain ⟨_, _, C, rfl, rfl⟩ := Aff hT H c bc (h.newR Z6)
 by_cases k0 : k % 8 = 0
 ·have b0 : (k % 8 == 0) = true := by simp [k0]
  simp only [SS, seval, af17, Aaq, Aa0, e1, e2, e3, e4, w3, w4, w7, e7, w8, b0, Ai1, st6, Aix]
  exact ⟨by simp [Adg, k0], fin _⟩
 have b0 : (k % 8 == 0) = false := by simp [k0]
 by_cases k1 : k % 8 = 1
 ·have b1 : (k % 8 == 1) = true := by simp [k1]
  simp only [SS, seval, af17, Aaq, Aa0, e1, e2, e3, e4, w3, w4, w7, e7, w8, b0, b1, Ai1, st6, Aix]
  exact ⟨by simp [Adg, k1], fin _⟩
 have b1 : (k % 8 == 1) = false := by simp [k1]
 by_cases k2 : k % 8 = 2
 ·have b2 : (k % 8 == 2) = true := by simp [k2]
  simp only [SS, seval, af17, Aaq, Aa0, e1, e2, e3, e4, w3, w4, w7, e7, w8, b0, b1, b2, Ai1, st6, Aix]
  exact ⟨by simp [Adg, k2], fin _⟩
 have b2 : (k % 8 == 2) = false := by simp [k2]
 by_cases k3 : k % 8 = 3
 ·have b3 : (k % 8 == 3) = true := by simp [k3]
  simp only [SS, seval, af17, Aaq, Aa0, e1, e2, e3, e4, w3, w4, w7, e7, w8, b0, b1, b2, b3, Ai1, st6, Aix]
  exact ⟨by simp [Adg, k3], fin _⟩
 have b3 : (k % 8 == 3) = false := by simp [k3]
 by_cases k7 : k % 8 = 7
 ·have b7 : (k % 8 == 7) = true := by simp [k7]
  simp only [SS, seval, af17, Aaq, Aa0, e1, e2, e3, e4, w3, w4, w7, e7, w8, b0, b1, b2, b3, b7, Ai1, st6, Aix]
  refine ⟨_, _, A, ?_⟩
  simp only [SS, seval, Aa0, e1, w4, Ai1, st6, Aix]
  exact ⟨by simp [Adg, k7], fin _⟩
 have b7 : (k % 8 == 7) = false := by simp [k7]
 simp only [SS, seval, af17, Aaq, Aa0, e1, e2, e3, e4, w3, w4, w7, e7, w8, b0, b1, b2, b3, b7, Ai1, st6, Aix]
 refine ⟨_, _, A, ?_⟩
 simp only [SS, seval]
 refine ⟨_, _, C, ?_⟩
 simp only [SS, seval, Aa0, Ai1, st6, Aix]
 exact ⟨by simp [Adg, k0, k1, k2, k3, k7], fin _⟩
end
structure An0 (tab : Nat -> Option Aac) : Prop where
 f10 : tab 10 = some af10
 f11 : tab 11 = some af11
theorem Arj : An0 tabT.get := ⟨by kernel_rfl, by kernel_rfl⟩
def Abp : List Int -> List Value
 | k :: t :: a :: c :: r => Adg k t a c ++ Abp r
 | _ => []
theorem Adv (k t a c : Int) : (Adg k t a c).length = 6 := by unfold Adg; (repeat' split) <;> rfl
theorem Agu (k t a c : Int) : ∃ x0 x1 x2 x3 x4 x5 : Int, Adg k t a c = [I x0, I x1, I x2, I x3, I x4, I x5] := by
 unfold Adg; (repeat' split) <;> exact ⟨_, _, _, _, _, _, rfl⟩
theorem Amh (k t a c : Int) : (Adg k t a c).all Aau = true := by
 obtain ⟨_, _, _, _, _, _, e⟩ := Agu k t a c
 rw [e]; rfl
theorem Aqq (k t a c : Int) : Adr [Value.int .i64 0, Value.int .i64 0, Value.int .i64 0, Value.int .i64 0, Value.int .i64 0, Value.int .i64 0] [(0, 6, .agg (Adg k t a c).toArray)] = some (Adg k t a c) := by
 obtain ⟨_, _, _, _, _, _, e⟩ := Agu k t a c
 rw [e]; rfl
theorem Adc {R : List Int} (h : R.length < 4) : Abp R = [] := by
 rcases R with _ | ⟨a, _ | ⟨b, _ | ⟨c, _ | ⟨d, r⟩⟩⟩⟩ <;> first | rfl | (simp at h; omega)
theorem Arr {R : List Int} (h : 4 <= R.length) : ∃ k t a c r, R = k :: t :: a :: c :: r := by
 rcases R with _ | ⟨a, _ | ⟨b, _ | ⟨c, _ | ⟨d, r⟩⟩⟩⟩ <;> first | exact ⟨_, _, _, _, _, rfl⟩ | (simp at h; try omega)
theorem Aav.from {h : Aaa} {v : Value} {n lo : Nat} {cells : List Value} {u : Option Nat} (a : Aav h v 1 n cells u) (hl : lo <= n) (h0 : 0 < n) : ∃ v', slV h 1 v (some (I lo)) none = some v' /\ Aav h v' 1 (n - lo) (cells.drop lo) u := by
 rcases a with ⟨rfl, _, _⟩ | ⟨x, p, cap, e, rfl, r⟩
 ·omega
 ·have hc := r.cap
  have hlen := r.len
  by_cases c : lo = cap
  ·have : n = cap := by omega
   subst this; subst c
   refine ⟨_, r.end, .inl ⟨by omega, ?_, .inr ⟨_, _, _, rfl⟩⟩⟩
   exact List.drop_of_length_le (by omega)
  ·have e1 : (cells.drop (lo * 1)).take ((n - lo) * 1) = cells.drop lo := by
    rw [Nat.mul_one, Nat.mul_one]; exact List.take_of_length_le (by rw [List.length_drop]; omega)
   have := r.sub hl (Nat.le_refl n)
   rw [e1] at this
   exact ⟨_, r.from hl c, .inr ⟨x, _, _, e, rfl, this⟩⟩
section
variable (hT : Abk P tab) (H : Am1 tab) (HB : An0 tab)
include hT H HB
theorem Afh {h : Aaa} {v : Value} {L : List Int} {u0 : Option Nat} (a : Aav h v 1 L.length (L.map U) u0) (hu0 : ∀ y, u0 = some y -> y < h.nq) (hb : ∀ x ∈ L, Ady x) (hl : L.length <= 2000) :
  Ac9 P 10 [v] h fun r h' => (∃ u, r = Aca u (L.length / 4) /\ Abd h' u 6 (L.length / 4) (Abp L) /\ (∀ y, u = some y -> h.nq <= y)) /\ Aa4 h h' (fun _ => False) := by
 refine Abf hT HB.f10 rfl ?_
 simp only [SS, seval, af10]
 refine Aeo (fun m ts h' => ∃ (R : List Int) (v : Value) (u : Option Nat) (C : List Value) (k : Nat), m = R.length /\ Aax ts 0 = v /\ Aav h' v 1 R.length (R.map U) u0 /\ Aax ts 3 = Aca u k /\ Abd h' u 6 k C /\ Abp L = C ++ Abp R /\ k * 4 + R.length = L.length /\ (∀ y, u = some y -> h.nq <= y) /\ Aa4 h h' (fun _ => False) /\ (∀ x ∈ R, Ady x)) ?_ (n := L.length) ⟨L, v, none, [], 0, rfl, by simp only [SS, seval], a, by simp only [SS, seval] <;> rfl, Abd.nil _ _, rfl, by omega, (fun y hy => by cases hy), Aa4.refl _ _, hb⟩
 rintro m ts h' ⟨R, v, u, C, k, rfl, t0, ra, t3, o, ec, hk, hu, hs, hR⟩
 obtain ⟨base, cap, hv⟩ := ra.len
 generalize hn : R.length = n at *
 by_cases c : 4 <= n
 ·obtain ⟨k', t', a', c', r, rfl⟩ := Arr (R := R) (by omega)
  have bk := hR k' (by simp)
  have bt := hR t' (by simp)
  have ba := hR a' (by simp)
  have bc := hR c' (by simp)
  have hlr : r.length + 4 = n := hn
  have c1 : ((n : Int) >= 4) = True := by simp; omega
  have c2 : ((k : Int) < 4096) = True := by simp; omega
  have ra0 := ra
  rcases ra with ⟨h0, _⟩ | ⟨x, p, cap', e, ev', rd⟩
  ·omega
  have q0 := rd.rd (i := 0) (by omega)
  have q1 := rd.rd (i := 1) (by omega)
  have q2 := rd.rd (i := 2) (by omega)
  have q3 := rd.rd (i := 3) (by omega)
  simp only [List.map_cons, List.getElem?_cons_zero, List.getElem?_cons_succ, Nat.add_zero] at q0 q1 q2 q3
  obtain ⟨_, h1, F1, rfl, s1⟩ := An8 hT H k' t' a' c' bk bt ba bc h'
  have g1 := @Ac4 16 [U k', U t', U a', U c'] h' (.agg (Adg k' t' a' c').toArray) h1 Afu
  have i0 : (0 < (n : Int)) = True := by simp; omega
  have i1 : (1 < (n : Int)) = True := by simp; omega
  have i2 : (2 < (n : Int)) = True := by simp; omega
  have i3 : (3 < (n : Int)) = True := by simp; omega
  refine Adf ?_
  simp only [SS, seval, t0, t3, ev', c1, c2]
  refine ⟨Ah4 16 _ h' _ h1 Afu, Ac5 F1 Abx, ?_⟩
  simp only [SS, seval, t0, t3, ev', i0, i1, i2, i3, q0, q1, q2, q3, g1]
  have hx := hu0 x e
  have n1 := hs.nq
  have n2 := s1.nq
  have s2 : Aa4 h1 (h1.new ⟨Adg k' t' a' c', 1 * 6, 6, true, false⟩) (fun _ => False) := Aa4.new
  have s3 := s1.trans s2 (fun _ _ x => x)
  obtain ⟨u', h2, ha, o2, s4, hu2⟩ := Ah7 (bytes := 48) (o.same s3 (fun _ _ x => x)) (Ael.fresh h1 (Adg k' t' a' c') 1 6 true false (Adv _ _ _ _)).src (Adv _ _ _ _) (Amh _ _ _ _) (by omega) (by omega) (by omega)
  have ra2 : Aav h2 v 1 n ((k' :: t' :: a' :: c' :: r).map U) u0 := by
   refine (ra0.same s3 (fun _ _ x => x)).same s4 (fun y hy z => ?_)
   have := hu y z
   have := hu0 y hy
   omega
  obtain ⟨v', sl, ra'⟩ := ra2.from (lo := 4) c (by omega)
  have sl' : slV h2 1 v (some (I 4)) none = some v' := sl
  have e3 : n - 4 = r.length := by omega
  rw [e3] at ra'
  simp only [SS, seval, Aqq, ha, t0, t3, sl']
  refine ⟨r.length, by omega, r, v', u', C ++ Adg k' t' a' c', k + 1, rfl, rfl, ra', rfl, o2, by rw [ec, Abp, List.append_assoc], by omega, fun y hy => ?_, (hs.trans s3 (fun _ _ x => x)).trans s4 (fun j hj z => by have := hu j z; omega), fun x hx => hR x (by simp [hx])⟩
  ·rcases hu2 y hy with z | z
   ·exact hu y z
   ·have := s3.nq; omega
 ·have c1 : ((n : Int) >= 4) = False := by simp; omega
  refine Adf ?_
  simp only [SS, seval, t0, t3, hv, c1]
  rw [Acz h h' hs.mq]
  have e : Abp L = C := by rw [ec, Adc (by omega), List.append_nil]
  have e2 : k = L.length / 4 := by omega
  rw [e, <- e2]
  exact ⟨⟨u, rfl, o, hu⟩, hs⟩
theorem Aj7 {h : Aaa} {v : Value} {L : List Int} {u0 : Option Nat} (a : Aav h v 1 L.length (L.map U) u0) (hu0 : ∀ y, u0 = some y -> y < h.nq) (hb : ∀ x ∈ L, Ady x) (hl : L.length <= 2000) :
  Ac9 P 11 [v] h fun r h' => (∃ u, r = Aca u (L.length / 4) /\ Abd h' u 6 (L.length / 4) (Abp L) /\ (∀ y, u = some y -> h.nq <= y)) /\ Aa4 h h' (fun _ => False) := by
 refine Abf hT HB.f11 rfl ?_
 simp only [SS, seval, af11]
 obtain ⟨base, cap, hv⟩ := a.len
 generalize hn : L.length = n at *
 refine Aeo (fun m ts h' => ∃ (D R : List Int) (u : Option Nat) (C : List Value) (k : Nat), m = R.length /\ Aax ts 0 = v /\ L = D ++ R /\ D.length = k * 4 /\ Aax ts 4 = I (k * 4 : Nat) /\ Aax ts 3 = Aca u k /\ Abd h' u 6 k C /\ Abp L = C ++ Abp R /\ (∀ y, u = some y -> h.nq <= y) /\ Aa4 h h' (fun _ => False) /\ (∀ x ∈ R, Ady x)) ?_ (n := L.length) ⟨[], L, none, [], 0, rfl, by simp only [SS, seval], rfl, rfl, by simp only [SS, seval] <;> rfl, by simp only [SS, seval] <;> rfl, Abd.nil _ _, rfl, (fun y hy => by cases hy), Aa4.refl _ _, hb⟩
 rintro m ts h' ⟨D, R, u, C, k, rfl, t0, hLR, hD, t4, t3, o, ec, hu, hs, hR⟩
 have hlen : D.length + R.length = n := by rw [<- hn, hLR, List.length_append]
 have w3 : Aaw .i64 (((k * 4 : Nat) : Int) + 3) = ((k * 4 + 3 : Nat) : Int) := by rw [Abh] <;> omega
 by_cases c : k * 4 + 3 < n
 ·obtain ⟨k', t', a', c', r, rfl⟩ := Arr (R := R) (by omega)
  have bk := hR k' (by simp)
  have bt := hR t' (by simp)
  have ba := hR a' (by simp)
  have bc := hR c' (by simp)
  have hlr : D.length + (r.length + 4) = n := hlen
  have c1 : (((k * 4 + 3 : Nat) : Int) < n) = True := by simp; omega
  have c2 : ((k : Int) < 4096) = True := by simp; omega
  have j0 : (((k * 4 : Nat) : Int) < n) = True := by simp; omega
  have j1 : (((k * 4 + 1 : Nat) : Int) < n) = True := by simp; omega
  have j2 : (((k * 4 + 2 : Nat) : Int) < n) = True := by simp; omega
  have w1 : Aaw .i64 (((k * 4 : Nat) : Int) + 1) = ((k * 4 + 1 : Nat) : Int) := by rw [Abh] <;> omega
  have w2 : Aaw .i64 (((k * 4 : Nat) : Int) + 2) = ((k * 4 + 2 : Nat) : Int) := by rw [Abh] <;> omega
  have w4 : Aaw .i64 (((k * 4 : Nat) : Int) + 4) = (((k + 1) * 4 : Nat) : Int) := by rw [Abh] <;> omega
  have z1 : Aaw .i64 k' = k' := Abh (by have := bk.1; omega) (by have := bk.2; omega)
  have z2 : Aaw .i64 t' = t' := Abh (by have := bt.1; omega) (by have := bt.2; omega)
  have z3 : Aaw .i64 a' = a' := Abh (by have := ba.1; omega) (by have := ba.2; omega)
  have z4 : Aaw .i64 c' = c' := Abh (by have := bc.1; omega) (by have := bc.2; omega)
  rcases a with ⟨h0, _⟩ | ⟨x, p, cap', e, ev', rd0⟩
  ·omega
  have hx := hu0 x e
  have rd := rd0.same hs (fun x => x)
  have gt : ∀ j, (L.map U)[k * 4 + j]? = ((k' :: t' :: a' :: c' :: r).map U)[j]? := fun j => by
   rw [hLR, List.map_append, List.getElem?_append_right (by simp; omega)]
   congr 1; simp; omega
  have q0 := rd.rd (i := k * 4 + 0) (by omega)
  have q1 := rd.rd (i := k * 4 + 1) (by omega)
  have q2 := rd.rd (i := k * 4 + 2) (by omega)
  have q3 := rd.rd (i := k * 4 + 3) (by omega)
  rw [gt] at q0 q1 q2 q3
  simp only [List.map_cons, List.getElem?_cons_zero, List.getElem?_cons_succ, Nat.add_zero] at q0 q1 q2 q3
  obtain ⟨_, h1, F1, rfl, s1⟩ := Ale hT H k' t' a' c' bk bt ba bc h'
  have g1 := @Ac4 17 [I k', I t', I a', I c'] h' (.agg (Adg k' t' a' c').toArray) h1 Afu
  have n1 := hs.nq
  have n2 := s1.nq
  have s2 : Aa4 h1 (h1.new ⟨Adg k' t' a' c', 1 * 6, 6, true, false⟩) (fun _ => False) := Aa4.new
  have s3 := s1.trans s2 (fun _ _ x => x)
  obtain ⟨u', h2, ha, o2, s4, hu2⟩ := Ah7 (bytes := 48) (o.same s3 (fun _ _ x => x)) (Ael.fresh h1 (Adg k' t' a' c') 1 6 true false (Adv _ _ _ _)).src (Adv _ _ _ _) (Amh _ _ _ _) (by omega) (by omega) (by omega)
  refine Adf ?_
  simp only [SS, seval, t0, t3, t4, ev', w3, c1, c2]
  refine ⟨Ah4 17 _ h' _ h1 Afu, Ac5 F1 Abx, ?_⟩
  simp only [SS, seval, t0, t3, t4, ev', j0, j1, j2, c1, w1, w2, w3, z1, z2, z3, z4, q0, q1, q2, q3, g1, Aqq, ha]
  simp only [SS, seval, t0, t3, t4, w4]
  refine ⟨r.length, by omega, D ++ [k', t', a', c'], r, u', C ++ Adg k' t' a' c', k + 1, rfl, by rw [hLR]; simp, by simp; omega, rfl, rfl, o2, by rw [ec, Abp, List.append_assoc], fun y hy => ?_, (hs.trans s3 (fun _ _ x => x)).trans s4 (fun j hj z => by have := hu j z; omega), fun x hx => hR x (by simp [hx])⟩
  rcases hu2 y hy with z | z
  ·exact hu y z
  ·have := s3.nq; omega
 ·have c1 : (((k * 4 + 3 : Nat) : Int) < n) = False := by simp; omega
  refine Adf ?_
  simp only [SS, seval, t0, t3, t4, hv, w3, c1]
  rw [Acz h h' hs.mq]
  have e : Abp L = C := by rw [ec, Adc (by omega), List.append_nil]
  have e2 : k = n / 4 := by omega
  rw [e, <- e2]
  exact ⟨⟨u, rfl, o, hu⟩, hs⟩
end
structure Aot (tab : Nat -> Option Aac) : Prop where
 f6 : tab 6 = some af6
 f9 : tab 9 = some af9
 f15 : tab 15 = some af15
theorem Ar4 : Aot tabT.get := ⟨by kernel_rfl, by kernel_rfl, by kernel_rfl⟩
def Aak (L : List Int) (i : Nat) : Int := L.getD i 0
def Aar (L : List Int) : List Value := [I (7 + 16 * Aak L 0), I (1 + Aak L 1 % 8), I (1 + Aak L 2 % 4)]
theorem Abl {L : List Int} (hb : ∀ x ∈ L, Ady x) (i : Nat) : Ady (Aak L i) := by
 unfold Aak
 rw [List.getD_eq_getElem?_getD]
 cases h : L[i]? with
 | none => exact ⟨by simp, by simp⟩
 | some x => exact hb x (List.mem_of_getElem? h)
abbrev Z3 : List Value := [I 0, I 0, I 0]
theorem Ama {h : Aaa} {b : Nat} {L : List Value} (r : Rcd h b L) (L' : List Value) (n : Nat) (hl : L.length = n) (hl' : L'.length = n) (h1 : 1 <= n) (hs : L'.all Aau = true) : Aj2 h n (pp b) (.agg L'.toArray) = some (undef, h.setR b L') := by
 have hw : h.wrs b 0 L' = some (h.setB b ⟨spl L' L 0, L.length, L.length, true, false⟩) := Am3 r.blk rfl (by simp only [hl, hl']; omega) hs
 have e : spl L' L 0 = L' := by
  rw [Ag5]; simp only [splice]
  rw [List.take_zero, List.nil_append, Nat.zero_add, List.drop_of_length_le (by omega), List.append_nil]
 have e2 : h.setB b ⟨L', L.length, L.length, true, false⟩ = h.setR b L' := by unfold Aaa.setR; rw [hl, hl']
 rw [e, e2] at hw
 exact Ak7 hw hl' h1
theorem Aim (h : Aaa) (b : Nat) (L : List Value) (n : Nat) (hl : L.length = n) : (h.setR b L).rds b 0 n = some L := by
 have e : (h.setR b L).bqs.get b = some ⟨L, L.length, L.length, true, false⟩ := by unfold Aaa.setR; rw [Abn]; exact if_pos rfl
 rw [Acu e (by simp only [hl]; omega)]
 simp only [List.drop_zero]
 rw [List.take_of_length_le (by omega)]
theorem Mid.row {h : Aaa} {n z : Nat} {v : Value} {cells : List Value} (m : Mid h 1 n v cells z) : Aav h v 1 n cells (some z) := by
 rcases m with ⟨rfl, rfl, rfl, hb, hlt⟩ | ⟨rfl, o⟩
 ·exact .inr ⟨z, 0, 0, rfl, rfl, ⟨⟨_, hb, rfl, rfl, by simp⟩, Nat.le_refl _, hlt⟩⟩
 ·exact Aav.of_own o
theorem Aav.froms {h : Aaa} {v : Value} {n lo : Nat} {cells : List Value} {u : Option Nat} (a : Aav h v 1 n cells u) (hl : lo <= n) :
  ∃ v', (∀ k, Aav k v 1 n cells u -> slV k 1 v (some (I lo)) none = some v' /\ Aav k v' 1 (n - lo) (cells.drop lo) u) /\ veq v' v' = true := by
 rcases a with ⟨rfl, rfl, e | ⟨b, o, q, e⟩⟩ | ⟨x, p, cap, e, rfl, r⟩
 ·have : lo = 0 := by omega
  subst this; subst e
  exact ⟨.slice none 0 0, fun k b => ⟨rfl, b⟩, Ab0 _ _ _⟩
 ·have : lo = 0 := by omega
  subst this; subst e
  exact ⟨.slice (some ⟨b, o, some q⟩) 0 0, fun k b => ⟨rfl, b⟩, Ab0 _ _ _⟩
 ·have hc := r.cap
  have hlen := r.len
  by_cases c : lo = cap
  ·have : n = cap := by omega
   subst this; subst c
   refine ⟨.slice (some ⟨x, p, some 0⟩) 0 0, fun k b => ?_, Ab0 _ _ _⟩
   rcases b with ⟨_, _, ev | ⟨_, _, _, ev⟩⟩ | ⟨x', p', cap', e', ev, r'⟩
   ·cases ev
   ·cases ev
   ·cases ev
    exact ⟨r'.end, .inl ⟨by omega, List.drop_of_length_le (by omega), .inr ⟨_, _, _, rfl⟩⟩⟩
  ·have e1 : (cells.drop (lo * 1)).take ((n - lo) * 1) = cells.drop lo := by
    rw [Nat.mul_one, Nat.mul_one]; exact List.take_of_length_le (by rw [List.length_drop]; omega)
   refine ⟨.slice (some ⟨x, p + lo * 1, none⟩) (n - lo) (cap - lo), fun k b => ?_, Ab0 _ _ _⟩
   rcases b with ⟨_, _, ev | ⟨_, _, _, ev⟩⟩ | ⟨x', p', cap', e', ev, r'⟩
   ·cases ev
   ·cases ev
   ·cases ev
    have := r'.sub hl (Nat.le_refl n)
    rw [e1] at this
    exact ⟨r'.from hl c, .inr ⟨x, _, _, e, rfl, this⟩⟩
theorem Aav.tos {h : Aaa} {v : Value} {n hi : Nat} {cells : List Value} {u : Option Nat} (a : Aav h v 1 n cells u) (hl : hi <= n) :
  ∃ v', slV h 1 v none (some (I hi)) = some v' /\ Aav h v' 1 hi (cells.take hi) u := by
 rcases a with ⟨rfl, rfl, e | ⟨b, o, q, e⟩⟩ | ⟨x, p, cap, e, rfl, r⟩
 ·have : hi = 0 := by omega
  subst this; subst e
  exact ⟨.slice none 0 0, rfl, .inl ⟨rfl, rfl, .inl rfl⟩⟩
 ·have : hi = 0 := by omega
  subst this; subst e
  exact ⟨.slice (some ⟨b, o, some q⟩) 0 0, rfl, .inl ⟨rfl, rfl, .inr ⟨_, _, _, rfl⟩⟩⟩
 ·have hc := r.cap
  have hlen := r.len
  by_cases c : cap = 0
  ·have : n = 0 := by omega
   have : hi = 0 := by omega
   subst this; subst c
   refine ⟨.slice (some ⟨x, p, some 0⟩) 0 0, ?_, .inl ⟨rfl, rfl, .inr ⟨_, _, _, rfl⟩⟩⟩
   obtain ⟨k, k1, k2, _, _⟩ := r.blk
   unfold slV
   simp only [Aev, Aa7 (Nat.le_refl 0), Bool.and_true, cond_true, k1, k2, Abw]
  ·refine ⟨_, r.to (by omega) c, .inr ⟨x, p, cap, e, rfl, ?_⟩⟩
   have := r.sub (Nat.zero_le hi) hl
   simpa using this
def Ahc (L : List Int) (i : Nat) : List Value := (List.range 3).map fun j => I (if j < i then Aak L j else 0)
theorem Aod (L : List Int) {i : Nat} (h : i < 3) : (Ahc L i).set i (I (Aak L i)) = Ahc L (i + 1) := by
 rcases (show i = 0 \/ i = 1 \/ i = 2 by omega) with rfl | rfl | rfl <;> rfl
theorem Ana (L : List Int) {m j : Nat} (h : m = min L.length 3) (hj : j < 3) : (Ahc L m)[j]? = some (I (Aak L j)) := by
 have e : (Ahc L m)[j]? = some (I (if j < m then Aak L j else 0)) := by
  rcases (show j = 0 \/ j = 1 \/ j = 2 by omega) with rfl | rfl | rfl <;> rfl
 rw [e]
 by_cases c : j < m
 ·rw [if_pos c]
 ·rw [if_neg c]
  unfold Aak
  rw [List.getD_eq_getElem?_getD, List.getElem?_eq_none (by omega)]; rfl
theorem Ata (L : List Int) : (L.map U).all Aau = true := by simp [Aau]
section
variable {P : Program} {J : Aaa -> Prop} {cf : Aas} {r : List Aah} {ts : T Value} {dst : Option Nat} {h : Aaa} {S : T Value -> Aaa -> Prop}
theorem Ab2 {s : Nat} {x : Opd} {lo hi : Option Opd} : djf J cf (⟨dst, .r (.slice s x lo hi none), none⟩ :: r) ts h S = ∃ v, (∀ k, J k -> slV k s (ev ts x) (evO ts lo) (evO ts hi) = some v) /\ veq v v = true /\ bj J cf r ts dst h S v := by
 show (∃ v, (∀ k, J k -> rop ts k (.slice s x lo hi none) = some v) /\ veq v v = true /\ bj J cf r ts dst h S v) = _
 simp only [Ahz]
theorem Ab4 {n : Nat} {x : Opd} : djf J cf (⟨dst, .r (.loadN n x), none⟩ :: r) ts h S = ∃ v, (∀ k, J k -> ldN k n (ev ts x) = some v) /\ veq v v = true /\ bj J cf r ts dst h S v := (rfl)
theorem j_e {q : EOp} : djf J cf (⟨dst, .e q, none⟩ :: r) ts h S = Aqd (eop ts h q) (bj2 J cf r ts dst S) := (rfl)
end
section
variable (hT : Abk P tab) (H : Aot tab)
include hT H
theorem Ail {h : Aaa} {v : Value} {L : List Int} {u : Option Nat} (a : Aav h v 1 L.length (L.map U) u) (hb : ∀ x ∈ L, Ady x) (i : Nat) : Ac9 P 15 [v, I i] h fun r h' => r = I (Aak L i) /\ h' = h := by
 refine Abf hT H.f15 rfl ?_
 obtain ⟨base, cap, hv⟩ := a.len
 generalize hn : L.length = n at *
 by_cases c : i < n
 ·have c1 : ((i : Int) < n) = True := by simp; omega
  rcases a with ⟨h0, _⟩ | ⟨x, p, cap', e, ev', rd⟩
  ·omega
  have q := rd.rd (i := i) (by omega)
  have hi : i < L.length := by omega
  have e1 : (L.map U)[i]? = some (U (Aak L i)) := by
   simp [Aak, hi]
  rw [e1] at q
  have b := Abl hb i
  have w : Aaw .i64 (Aak L i) = Aak L i := Abh (by have := b.1; omega) (by have := b.2; omega)
  simp only [SS, seval, af15, ev', c1, q, w]
 ·have c1 : ((i : Int) < n) = False := by simp; omega
  have e1 : Aak L i = 0 := by unfold Aak; rw [List.getD_eq_getElem?_getD, List.getElem?_eq_none (by omega)]; rfl
  simp only [SS, seval, af15, hv, c1, e1]
theorem Ajz {h : Aaa} {v : Value} {L : List Int} {u : Option Nat} (a : Aav h v 1 L.length (L.map U) u) (hu : ∀ y, u = some y -> y < h.nq) (hb : ∀ x ∈ L, Ady x) (hl : L.length <= 2000) :
  Ac9 P 9 [v] h fun r h' => (∃ sv u', r = .tuple #[.agg (Aar L).toArray, sv] /\ Aav h' sv 1 (L.length - 3) ((L.drop 3).map U) u' /\ (∀ y, u' = some y -> h.nq <= y)) /\ Aa4 h h' (fun _ => False) := by
 refine Abf hT H.f9 rfl ?_
 obtain ⟨base, cap, hv⟩ := a.len
 have b0 := Abl hb 0
 have b1 := Abl hb 1
 have b2 := Abl hb 2
 have s1 : Aa4 h (h.newR Z3) (fun _ => False) := Aa4.newR
 have a1 := a.same s1 (fun _ _ x => x)
 obtain ⟨_, _, F0, rfl, rfl⟩ := Ail hT H a1 hb 0
 obtain ⟨_, _, F1, rfl, rfl⟩ := Ail hT H a1 hb 1
 obtain ⟨_, _, F2, rfl, rfl⟩ := Ail hT H a1 hb 2
 have w0 : Aaw .i64 (16 * Aak L 0) = 16 * Aak L 0 := Abh (by have := b0.1; omega) (by have := b0.2; omega)
 have w1 : Aaw .i64 (7 + 16 * Aak L 0) = 7 + 16 * Aak L 0 := Abh (by have := b0.1; omega) (by have := b0.2; omega)
 have w2 : Aaw .i64 (1 + Aak L 1 % 8) = 1 + Aak L 1 % 8 := Abh (by omega) (by omega)
 have w3 : Aaw .i64 (1 + Aak L 2 % 4) = 1 + Aak L 2 % 4 := Abh (by omega) (by omega)
 have e1 : (Aak L 1).tmod 8 = Aak L 1 % 8 := Ad2 b1 8 (by omega)
 have e2 : (Aak L 2).tmod 4 = Aak L 2 % 4 := Ad2 b2 4 (by omega)
 have stA : Aj2 ((h.newR Z3).newR [I 0, I 0, I 0]) 3 (.pointer (some ⟨(h.newR Z3).nq, 0, none⟩)) (.agg #[I (7 + 16 * Aak L 0), I (1 + Aak L 1 % 8), I (1 + Aak L 2 % 4)]) = some (undef, (h.newR Z3).newR (Aar L)) := Agl _ _ (Aar L) 3 rfl rfl (by omega) rfl
 have ldA : ldN ((h.newR Z3).newR (Aar L)) 3 (.pointer (some ⟨(h.newR Z3).nq, 0, none⟩)) = some (.agg (Aar L).toArray) := Ap9 _ _ 3 rfl
 have rcB : Rcd ((h.newR Z3).newR (Aar L)) h.nq Z3 := (Rcd.new h Z3).same Aa4.newR (S := fun _ => False) (fun x => x)
 have stB : Aj2 ((h.newR Z3).newR (Aar L)) 3 (pp h.nq) (.agg (Aar L).toArray) = some (undef, ((h.newR Z3).newR (Aar L)).setR h.nq (Aar L)) := Ama rcB (Aar L) 3 rfl rfl (by omega) rfl
 have rdB := Aim ((h.newR Z3).newR (Aar L)) h.nq (Aar L) 3 rfl
 generalize hn : L.length = n at *
 by_cases c : n < 3
 ·have c1 : ((n : Int) < 3) = True := by simp; omega
  simp only [SS, seval, af9, Aaq]
  refine ⟨_, _, F0, ?_⟩
  simp only [SS, seval, w0, w1]
  refine ⟨_, _, F1, ?_⟩
  simp only [SS, seval, e1, w2]
  refine ⟨_, _, F2, ?_⟩
  simp only [SS, seval, Aaq, Abq, e2, w3, hv, c1, Aci]
  simp only [SS, seval, hv, c1, stA, ldA, Aci, Abq, stB, rdB]
  have e0 : L.drop 3 = [] := List.drop_of_length_le (by omega)
  have e3 : n - 3 = 0 := by omega
  have sm : Aa4 h (((h.newR Z3).newR (Aar L)).setR h.nq (Aar L)) (fun _ => False) := (s1.trans Aa4.newR (fun _ _ x => x)).trans (T := fun j => j = h.nq) (Aa4.setR rfl) (fun j hj z => by omega)
  refine ⟨⟨.slice none 0 0, none, rfl, .inl ⟨e3, by rw [e0]; rfl, .inl rfl⟩, fun y hy => by cases hy⟩, ?_⟩
  rw [Acz h _ sm.mq]
  exact sm
 ·have c1 : ((n : Int) < 3) = False := by simp; omega
  have n0 : 0 < n := by omega
  have sA := s1.trans (Aa4.newR (L := Aar L) (S := fun _ => False)) (fun _ _ x => x)
  have aB := a.same sA (fun _ _ x => x)
  obtain ⟨v', fr, vq⟩ := aB.froms (lo := 3) (by omega)
  generalize hhB : (h.newR Z3).newR (Aar L) = hB at *
  have nB : hB.nq = h.nq + 2 := by rw [<- hhB]; rfl
  have sC : Aa4 hB (hB.new ⟨[], 0, 1, true, false⟩) (fun _ => False) := Aa4.new
  have aC := aB.same sC (fun _ _ x => x)
  obtain ⟨_, rv⟩ := fr _ aC
  obtain ⟨wv, hD, z, ap, mid, sD, zz, _⟩ := Aha (bytes := 1) (h := hB.new ⟨[], 0, 1, true, false⟩) (y := hB.nq) (s := 1) (by rw [Ach]; exact if_pos rfl) (Nat.lt_succ_self _) rv.src (by simp; omega) (by rw [<- List.map_drop]; exact Ata _) (by omega) (by omega) (by omega)
  have aD := aC.same sD (fun _ _ x => x)
  have rcD := (rcB.same sC (fun x => x)).same sD (fun x => x)
  have ldk : ∀ k, Rcd k (h.newR Z3).nq (Aar L) -> ldN k 3 (.pointer (some ⟨(h.newR Z3).nq, 0, none⟩)) = some (.agg (Aar L).toArray) := fun k r => Ahv (l := Aar L) (by
   rw [Acu r.blk (by show 0 + 3 <= 3; omega)]; rfl)
  have rb : Rcd hB (h.newR Z3).nq (Aar L) := by rw [<- hhB]; exact Rcd.new _ _
  have rbC := rb.same sC (fun x => x)
  have rbD := rbC.same sD (fun x => x)
  have stD : Aj2 hD 3 (pp h.nq) (.agg (Aar L).toArray) = some (undef, hD.setR h.nq (Aar L)) := Ama rcD (Aar L) 3 rfl rfl (by omega) rfl
  have rdD := Aim hD h.nq (Aar L) 3 rfl
  have sE : Aa4 hD (hD.setR h.nq (Aar L)) (fun j => j = h.nq) := Aa4.setR rfl
  let J : Aaa -> Prop := fun k => Aav k v 1 n (L.map U) u /\ Rcd k (h.newR Z3).nq (Aar L)
  have jB : J hB := ⟨aB, rb⟩
  have jC : J (hB.new ⟨[], 0, 1, true, false⟩) := ⟨aC, rbC⟩
  have jD : J hD := ⟨aD, rbD⟩
  have jE : J (hD.setR h.nq (Aar L)) := ⟨aD.same sE (fun y hy z => by have := hu y hy; omega), rbD.same sE (fun z => by have : (h.newR Z3).nq = h.nq + 1 := rfl; omega)⟩
  have pjB := fun (r : List Aah) (ts : Ai.T Value) (dst : Option Nat) (q : POp) (S : Ai.T Value -> Aaa -> Prop) => j_p (J := J) (cf := Afu) (r := r) (ts := ts) (dst := dst) (q := q) (S := S) jB
  have pjC := fun (r : List Aah) (ts : Ai.T Value) (dst : Option Nat) (q : POp) (S : Ai.T Value -> Aaa -> Prop) => j_p (J := J) (cf := Afu) (r := r) (ts := ts) (dst := dst) (q := q) (S := S) jC
  have pjE := fun (r : List Aah) (ts : Ai.T Value) (dst : Option Nat) (q : POp) (S : Ai.T Value -> Aaa -> Prop) => j_p (J := J) (cf := Afu) (r := r) (ts := ts) (dst := dst) (q := q) (S := S) jE
  simp only [SS, seval, af9, Aaq]
  refine ⟨_, _, F0, ?_⟩
  simp only [SS, seval, w0, w1]
  refine ⟨_, _, F1, ?_⟩
  simp only [SS, seval, e1, w2]
  refine ⟨_, _, F2, ?_⟩
  simp only [SS, seval, Aaq, Abq, e2, w3, hv, c1, Aci]
  simp only [SS, seval, hv, c1, stA, ldA, Aci, Abq, stB, rdB]
  refine Agm J Afu Abx jB ?_
  simp only [SS, seval, Ae6, Add, Ab4, Ab2, j_e, Ade, Ako, Ae2, Ae1, Adi]
  refine ⟨_, fun k hk => ldk k hk.2, by simp [Aar, veq, Aoe, Aom], jC, ?_⟩
  simp only [SS, seval, Ae6, Add, Ab4, Ab2, j_e, Ade, Ako, Ae2, Ae1, Adi, pjC]
  refine ⟨v', fun k hk => by have := (fr k hk.1).1; rw [hv] at this; exact this, vq, ?_⟩
  simp only [SS, seval, Ae6, Add, Ab4, Ab2, j_e, Ade, Ako, Ae2, Ae1, Adi, ap, Abq, stD, pjE, rdD]
  refine ⟨jD, jE, ?_⟩
  have nC : (hB.new ⟨[], 0, 1, true, false⟩).nq = hB.nq + 1 := rfl
  have sm : Aa4 h (hD.setR h.nq (Aar L)) (fun _ => False) := ((sA.trans sC (fun _ _ x => x)).trans sD (fun _ _ x => x)).trans sE (fun j hj z => by omega)
  rw [Acz h _ sm.mq]
  refine ⟨⟨wv, some z, rfl, ?_, fun y hy => by cases hy; omega⟩, sm⟩
  have := mid.row.same sE (fun y hy zz => by cases hy; omega)
  rw [List.map_drop]
  exact this
theorem Ala {h : Aaa} {v : Value} {L : List Int} {u : Option Nat} (a : Aav h v 1 L.length (L.map U) u) (hu : ∀ y, u = some y -> y < h.nq) (hb : ∀ x ∈ L, Ady x) (hl : L.length <= 2000) :
  Ac9 P 6 [v] h fun r h' => (∃ sv u', r = .tuple #[.agg (Aar L).toArray, sv] /\ Aav h' sv 1 (L.length - 3) ((L.drop 3).map U) u' /\ (∀ y, u' = some y -> h.nq <= y)) /\ Aa4 h h' (fun _ => False) := by
 refine Abf hT H.f6 rfl ?_
 obtain ⟨base, cap, hv⟩ := a.len
 generalize hn : L.length = n at *
 obtain ⟨m, hm⟩ : ∃ m, m = min n 3 := ⟨_, rfl⟩
 have hmn : (bif decide ((3 : Int) < (n : Int)) then (3 : Int) else (n : Int)) = (m : Int) := by
  by_cases c : (3 : Int) < n
  ·simp only [c, decide_true, cond_true]; omega
  ·simp only [c, decide_false, cond_false]; omega
 have s1 : Aa4 h ((h.newR Z3).newR Z3) (fun _ => False) := Aa4.newR.trans Aa4.newR (fun _ _ x => x)
 have a1 := a.same s1 (fun _ _ x => x)
 obtain ⟨v2, sl2, r2⟩ := a1.tos (hi := m) (by omega)
 obtain ⟨base2, cap2, hv2⟩ := r2.len
 have rA : Rcd ((h.newR Z3).newR Z3) h.nq Z3 := (Rcd.new h Z3).same (Aa4.newR (S := fun _ => False)) (fun x => x)
 have rB : Rcd ((h.newR Z3).newR Z3) (h.newR Z3).nq Z3 := Rcd.new _ _
 have nA : (h.newR Z3).nq = h.nq + 1 := rfl
 have nB : ((h.newR Z3).newR Z3).nq = h.nq + 2 := rfl
 simp only [SS, seval, af6, Aaq, hv, hmn]
 rw [<- hv]
 simp only [SS, seval, sl2]
 simp only [SS, seval, hv2]
 rw [<- hv2]
 generalize hhB : (h.newR Z3).newR Z3 = hB at *
 refine Aeo (fun q ts h' => ∃ i, q = m - i /\ i <= m /\ Aax ts 0 = v /\ Aax ts 2 = (pp h.nq) /\ Aax ts 4 = .pointer (some ⟨(h.newR Z3).nq, 0, none⟩) /\ Aax ts 11 = v2 /\ Aax ts 12 = I m /\ Aax ts 13 = I i /\ Rcd h' (h.newR Z3).nq (Ahc L i) /\ Rcd h' h.nq Z3 /\ Aa4 hB h' (fun j => j = (h.newR Z3).nq)) ?_ (n := m) ⟨0, by omega, by omega, by simp only [SS, seval], by simp only [SS, seval], by simp only [SS, seval], by simp only [SS, seval], by simp only [SS, seval], by simp only [SS, seval] <;> rfl, rB, rA, Aa4.refl _ _⟩
 rintro q ts h' ⟨i, rfl, him, t0, t2, t4, t11, t12, t13, rH, rR, sH⟩
 have nh := sH.nq
 by_cases c : i < m
 ·have c1 : ((i : Int) < m) = True := by simp; omega
  have i3 : i < 3 := by omega
  have c3 : ((i : Int) < 3) = True := by simp; omega
  have w : Aaw .i64 ((i : Int) + 1) = ((i + 1 : Nat) : Int) := by rw [Abh] <;> omega
  have r2' : Aav h' v2 1 m ((L.map U).take m) u := r2.same sH (fun y hy z => by have := hu y hy; omega)
  rcases r2' with ⟨h0, _⟩ | ⟨x, p, cap', e, ev', rd⟩
  ·omega
  have q0 := rd.rd (i := i) (by omega)
  have e1 : ((L.map U).take m)[i]? = some (U (Aak L i)) := by
   rw [List.getElem?_take_of_lt (by omega)]
   have : i < L.length := by omega
   simp [Aak, this]
  rw [e1] at q0
  have b := Abl hb i
  have w5 : Aaw .i64 (Aak L i) = Aak L i := Abh (by have := b.1; omega) (by have := b.2; omega)
  have wr := rH.wr i (I (Aak L i)) (by simp [Ahc]; omega) rfl
  rw [Aod L i3] at wr
  refine Adf ?_
  simp only [SS, seval, t0, t2, t4, t11, t12, t13, c1, c3, ev', q0, w5, wr, w]
  refine ⟨m - (i + 1), by omega, i + 1, rfl, by omega, rfl, Rcd.set _ rH.lt, rR.same (Aa4.setR (S := fun j => j = (h.newR Z3).nq) rfl) (by omega), sH.trans (Aa4.setR (S := fun j => j = (h.newR Z3).nq) rfl) (fun _ _ x => x)⟩
 ·have c1 : ((i : Int) < m) = False := by simp; omega
  have him : i = m := by omega
  subst him
  have hd : ∀ j, j < 3 -> (Ahc L i)[j]? = some (I (Aak L j)) := fun j hj => Ana L (by omega) hj
  have b0 := Abl hb 0
  have b1 := Abl hb 1
  have b2 := Abl hb 2
  have w0 : Aaw .i64 (16 * Aak L 0) = 16 * Aak L 0 := Abh (by have := b0.1; omega) (by have := b0.2; omega)
  have w1 : Aaw .i64 (7 + 16 * Aak L 0) = 7 + 16 * Aak L 0 := Abh (by have := b0.1; omega) (by have := b0.2; omega)
  have w2 : Aaw .i64 (1 + Aak L 1 % 8) = 1 + Aak L 1 % 8 := Abh (by omega) (by omega)
  have w3 : Aaw .i64 (1 + Aak L 2 % 4) = 1 + Aak L 2 % 4 := Abh (by omega) (by omega)
  have e1 : (Aak L 1).tmod 8 = Aak L 1 % 8 := Ad2 b1 8 (by omega)
  have e2 : (Aak L 2).tmod 4 = Aak L 2 % 4 := Ad2 b2 4 (by omega)
  have aH : Aav h' v 1 n (L.map U) u := a1.same sH (fun y hy z => by have := hu y hy; omega)
  obtain ⟨v3, fr, vq⟩ := aH.froms (lo := i) (by omega)
  obtain ⟨_, rv⟩ := fr h' aH
  obtain ⟨u', hD, ap, oD, sD, hu'⟩ := Ah7 (bytes := 1) (Abd.nil h' 1) rv.src (by simp; omega) (by rw [<- List.map_drop]; exact Ata _) (by omega) (by omega) (by omega)
  rw [Nat.zero_add, List.nil_append] at oD
  rw [Nat.zero_add] at ap
  have ap' : Aqg h' 1 1 (.slice none 0 0) v3 = some (Aca u' (n - i), hD) := ap
  have aD := aH.same sD (fun y hy z => by cases z)
  have rD := rR.same sD (fun z => by cases z)
  have rHD := rH.same sD (fun z => by cases z)
  have stD : Aj2 hD 3 (pp h.nq) (.agg #[I (7 + 16 * Aak L 0), I (1 + Aak L 1 % 8), I (1 + Aak L 2 % 4)]) = some (undef, hD.setR h.nq (Aar L)) := Ama rD (Aar L) 3 rfl rfl (by omega) rfl
  have rdD := Aim hD h.nq (Aar L) 3 rfl
  have sE : Aa4 hD (hD.setR h.nq (Aar L)) (fun j => j = h.nq) := Aa4.setR rfl
  let J : Aaa -> Prop := fun k => Aav k v 1 n (L.map U) u /\ Rcd k (h.newR Z3).nq (Ahc L i)
  have j0 : J h' := ⟨aH, rH⟩
  have jD : J hD := ⟨aD, rHD⟩
  have jE : J (hD.setR h.nq (Aar L)) := ⟨aD.same sE (fun y hy z => by have := hu y hy; omega), rHD.same sE (fun z => by omega)⟩
  have pj0 := fun (r : List Aah) (ts : Ai.T Value) (dst : Option Nat) (q : POp) (S : Ai.T Value -> Aaa -> Prop) => j_p (J := J) (cf := Afu) (r := r) (ts := ts) (dst := dst) (q := q) (S := S) j0
  have pjE := fun (r : List Aah) (ts : Ai.T Value) (dst : Option Nat) (q : POp) (S : Ai.T Value -> Aaa -> Prop) => j_p (J := J) (cf := Afu) (r := r) (ts := ts) (dst := dst) (q := q) (S := S) jE
  have ld0 : ∀ k, J k -> k.rd (h.newR Z3).nq 0 = some (I (Aak L 0)) := fun k hk => by rw [hk.2.rd, hd 0 (by omega)]
  have ld1 : ∀ k, J k -> k.rd (h.newR Z3).nq 1 = some (I (Aak L 1)) := fun k hk => by rw [hk.2.rd, hd 1 (by omega)]
  have ld2 : ∀ k, J k -> k.rd (h.newR Z3).nq 2 = some (I (Aak L 2)) := fun k hk => by rw [hk.2.rd, hd 2 (by omega)]
  refine Adf ?_
  simp only [SS, seval, t0, t2, t4, t11, t12, t13, c1]
  refine Agm J Afu Abx j0 ?_
  simp only [SS, seval, Ae6, Add, Ab4, Ab2, j_e, Ade, Ako, Ae2, Ae1, Adi, pj0, t0, t2, t4]
  refine ⟨_, ld0, Ah8 _ _, ?_⟩
  simp only [SS, seval, Ae6, Add, Ab4, Ab2, j_e, Ade, Ako, Ae2, Ae1, Adi, pj0, t0, t2, t4, w0, w1]
  refine ⟨_, ld1, Ah8 _ _, ?_⟩
  simp only [SS, seval, Ae6, Add, Ab4, Ab2, j_e, Ade, Ako, Ae2, Ae1, Adi, pj0, t0, t2, t4, e1, w2]
  refine ⟨_, ld2, Ah8 _ _, ?_⟩
  simp only [SS, seval, Ae6, Add, Ab4, Ab2, j_e, Ade, Ako, Ae2, Ae1, Adi, pj0, t0, t2, t4, e2, w3, hv, hmn]
  rw [<- hv]
  refine ⟨v3, fun k hk => (fr k hk.1).1, vq, ?_⟩
  simp only [SS, seval, Ae6, Add, Ab4, Ab2, j_e, Ade, Ako, Ae2, Ae1, Adi, ap', Abq, t2, stD, pjE, rdD]
  refine ⟨jD, jE, ?_⟩
  have sm : Aa4 h (hD.setR h.nq (Aar L)) (fun _ => False) := ((s1.trans sH (fun j hj z => by omega)).trans sD (fun j hj z => by cases z)).trans sE (fun j hj z => by omega)
  rw [Acz h _ sm.mq]
  refine ⟨⟨_, u', rfl, ?_, fun y hy => ?_⟩, sm⟩
  ·have e5 : n - i = n - 3 := by omega
   have e6 : (L.map U).drop i = (L.drop 3).map U := by
    rw [List.map_drop]
    by_cases q : n < 3
    ·rw [List.drop_of_length_le (by simp; omega), List.drop_of_length_le (by simp; omega)]
    ·rw [show i = 3 by omega]
   have := (Aav.of_own oD).same sE (fun y hy zz => ?_)
   ·rw [e6] at this
    rw [e5] at this ⊢
    exact this
   ·rcases hu' y hy with z | z
    ·cases z
    ·have := rR.lt; omega
  ·rcases hu' y hy with z | z
   ·cases z
   ·omega
end
structure Aqn (tab : Nat -> Option Aac) : Prop where
 f4 : tab 4 = some af4
theorem As3 : Aqn tabT.get := ⟨by kernel_rfl⟩
def Agv (L : List Int) : ByteArray := L.foldl (fun s n => s.push (UInt8.ofNat n.toNat)) .empty
theorem Afc : ∀ (L : List Int) (acc : ByteArray), Aeu acc (L.map U) = some (L.foldl (fun s n => s.push (UInt8.ofNat n.toNat)) acc)
 | [], acc => rfl
 | n :: r, acc => Afc r _
theorem Agq {h : Aaa} {v : Value} {n : Nat} {L : List Int} {u : Option Nat} (a : Aav h v 1 n (L.map U) u) : Ani h v = some (.string (Agv L)) := by
 rcases a with ⟨rfl, e, rfl | ⟨b, o, q, rfl⟩⟩ | ⟨x, p, cap, _, rfl, r⟩
 ·have : L = [] := by simpa using e
  subst this; rfl
 ·have : L = [] := by simpa using e
  subst this; rfl
 ·obtain ⟨k, k1, k2, k3, k4⟩ := r.blk
  have e : h.rds x p n = some (L.map U) := by
   rw [Nat.mul_one] at k3 k4
   rw [Acu k1 k4, k3]
  unfold Ani
  simp only [e, Afc]
  rfl
theorem Apf {ts : T Value} {h : Aaa} {x : Opd} : rop ts h (.bts x) = Ani h (ev ts x) := (rfl)
theorem eq3 (a b c : Int) : eqE (.fld false 0 1 .int (.fld false 1 1 .int (.fld false 2 1 .int .done))) (.agg #[I a, I b, I c]) (.agg #[I a, I b, I c]) = some true := by simp [eqE]
theorem Atr (L : List Int) : eqE (.fld false 0 1 .int (.fld false 1 1 .int (.fld false 2 1 .int .done))) (.agg (Aar L).toArray) (.agg (Aar L).toArray) = some true := eq3 _ _ _
theorem eq6 (a b c d e f : Int) : eqE (.fld false 0 1 .int (.fld false 1 1 .int (.fld false 2 1 .int (.fld true 3 3 (.fld false 0 1 .int (.fld false 1 1 .int (.fld false 2 1 .int .done))) .done)))) (.agg #[I a, I b, I c, I d, I e, I f]) (.agg #[I a, I b, I c, I d, I e, I f]) = some true := by simp [eqE]; rfl
theorem Atp (k t a c : Int) : eqE (.fld false 0 1 .int (.fld false 1 1 .int (.fld false 2 1 .int (.fld true 3 3 (.fld false 0 1 .int (.fld false 1 1 .int (.fld false 2 1 .int .done))) .done)))) (.agg (Adg k t a c).toArray) (.agg (Adg k t a c).toArray) = some true := by
 obtain ⟨_, _, _, _, _, _, e⟩ := Agu k t a c
 rw [e]; exact eq6 _ _ _ _ _ _
theorem Ajf : ∀ (i : Nat) (L : List Int), i < L.length / 4 -> (∀ x ∈ L, Ady x) -> ∃ k t a c, ((Abp L).drop (i * 6)).take 6 = Adg k t a c /\ Ady k /\ Ady t /\ Ady a /\ Ady c /\ i * 6 + 6 <= (Abp L).length
 | i, L, hi, hb => by
  obtain ⟨k, t, a, c, r, rfl⟩ := Arr (R := L) (by omega)
  have hl := Adv k t a c
  cases i with
  | zero =>
   refine ⟨k, t, a, c, ?_, hb k (by simp), hb t (by simp), hb a (by simp), hb c (by simp), by simp [Abp, hl]⟩
   rw [Abp, Nat.zero_mul, List.drop_zero, List.take_append_of_le_length (by omega), List.take_of_length_le (by omega)]
  | succ i =>
   have hr : (k :: t :: a :: c :: r).length = r.length + 4 := rfl
   obtain ⟨k', t', a', c', e1, e2⟩ := Ajf i r (by omega) (fun x hx => hb x (by simp [hx]))
   refine ⟨k', t', a', c', ?_, e2.1, e2.2.1, e2.2.2.1, e2.2.2.2.1, by rw [Abp, List.length_append, hl]; omega⟩
   rw [Abp, show (i + 1) * 6 = 6 + i * 6 by omega, <- List.drop_drop, List.drop_append_of_le_length (by omega), List.drop_of_length_le (by omega : (Adg k t a c).length <= 6), List.nil_append, e1]
theorem Mid.lt {h : Aaa} {s n z : Nat} {v : Value} {cells : List Value} (m : Mid h s n v cells z) : z < h.nq := by
 rcases m with ⟨_, _, _, _, hlt⟩ | ⟨_, o⟩
 ·exact hlt
 ·exact (o.use z rfl).2.1
theorem Abd.ld6 {h : Aaa} {u : Option Nat} {N : Nat} {C : List Value} (o : Abd h u 6 N C) {i : Nat} (hi : i < N) {A : List Value} (hA : (C.drop (i * 6)).take 6 = A) (hC : i * 6 + 6 <= C.length) : ∃ x, u = some x /\ ldN h 6 (.pointer (some ⟨x, 0 + i * 6, none⟩)) = some (.agg A.toArray) := by
 cases u with
 | none => have := o.non rfl; omega
 | some x =>
  refine ⟨x, rfl, Ahv (l := A) ?_⟩
  rw [Acu (o.use x rfl).1 (by show 0 + i * 6 + 6 <= C.length; omega), <- hA, Nat.zero_add]
section
variable (hT : Abk P tab) (H : Am1 tab) (HB : An0 tab) (HC : Aot tab) (HD : Aqn tab) (kn : ∀ h, Af5 P 8 [] h (.bool true) h)
include hT H HB HC HD kn
theorem Akf {h : Aaa} {v : Value} {L : List Int} {u : Option Nat} (a : Aav h v 1 L.length (L.map U) u) (hu : ∀ y, u = some y -> y < h.nq) (hb : ∀ x ∈ L, Ady x) :
  Ac9 P 4 [v] h fun r h' => r = .bool true := by
 refine Abf hT HD.f4 rfl ?_
 obtain ⟨base, cap, hv⟩ := a.len
 generalize hn : L.length = n at *
 by_cases c : n > 2000
 ·have c1 : ((n : Int) > 2000) = True := by simp; omega
  simp only [SS, seval, af4, hv, c1]
  refine ⟨_, _, kn _, ?_⟩
  simp only [SS, seval]
 ·have c1 : ((n : Int) > 2000) = False := by simp; omega
  have s1 : Aa4 h (h.new ⟨[], 0, 1, true, false⟩) (fun _ => False) := Aa4.new
  have aA := a.same s1 (fun _ _ x => x)
  obtain ⟨wv, hB, z, ap, mid, s2, zz, _⟩ := Aha (bytes := 1) (h := h.new ⟨[], 0, 1, true, false⟩) (y := h.nq) (s := 1) (by rw [Ach]; exact if_pos rfl) (Nat.lt_succ_self _) aA.src (by simp; omega) (Ata _) (by omega) (by omega) (by omega)
  have m2 := (s1.trans s2 (fun _ _ x => x))
  have rin : Aav hB wv 1 n (L.map U) (some z) := mid.row
  have zl := mid.lt
  have hn' : n <= 2000 := by omega
  have rin' : Aav hB wv 1 L.length (L.map U) (some z) := by rw [hn]; exact rin
  obtain ⟨_, h6, F6, ⟨sv1, u1, rfl, r1, n1⟩, s6⟩ := Ala hT HC rin' (fun y hy => by cases hy; exact zl) hb (by omega)
  have aD0 := ((a.same m2 (fun _ _ x => x)).same s6 (fun _ _ x => x)).same (Aa4.newR (L := Aar L) (S := fun _ => False)) (fun _ _ x => x)
  have aD : Aav (h6.newR (Aar L)) v 1 L.length (L.map U) u := by rw [hn]; exact aD0
  have stX : Aj2 (h6.newR [I 0, I 0, I 0]) 3 (pp h6.nq) (.agg (Aar L).toArray) = some (undef, h6.newR (Aar L)) := Agl h6 Z3 (Aar L) 3 rfl rfl (by omega) rfl
  have x2 := m2.nq
  have x6 := s6.nq
  obtain ⟨_, h9, F9, ⟨sv2, u2, rfl, r2, n2⟩, s9⟩ := Ajz hT HC aD (fun y hy => by have := hu y hy; show y < h6.nq + 1; omega) hb (by omega)
  have x9 : h6.nq + 1 <= h9.nq := s9.nq
  have stY : Aj2 (h9.newR [I 0, I 0, I 0]) 3 (pp h9.nq) (.agg (Aar L).toArray) = some (undef, h9.newR (Aar L)) := Agl h9 Z3 (Aar L) 3 rfl rfl (by omega) rfl
  have sX : Aa4 hB (h9.newR (Aar L)) (fun _ => False) := ((s6.trans (Aa4.newR (L := Aar L) (S := fun _ => False)) (fun _ _ x => x)).trans s9 (fun _ _ x => x)).trans Aa4.newR (fun _ _ x => x)
  have rinD : Aav (h9.newR (Aar L)) wv 1 L.length (L.map U) (some z) := rin'.same sX (fun _ _ x => x)
  obtain ⟨_, h10, F10, ⟨u10, rfl, o10, n10⟩, s10⟩ := Afh hT H HB rinD (fun y hy => by cases hy; show z < h9.nq + 1; omega) hb (by omega)
  have s9b := s9.trans (Aa4.newR (L := Aar L) (S := fun _ => False)) (fun _ _ x => x)
  have aE := (aD.same s9b (fun _ _ x => x)).same s10 (fun _ _ x => x)
  have x10 : h9.nq + 1 <= h10.nq := s10.nq
  obtain ⟨_, h11, F11, ⟨u11, rfl, o11, n11⟩, s11⟩ := Aj7 hT H HB aE (fun y hy => by have := hu y hy; omega) hb (by omega)
  have s10b := s10.trans s11 (fun _ _ x => x)
  have o10' := o10.same s11 (fun _ _ x => x)
  have sY := (s9b.trans s10b (fun _ _ x => x))
  have rc4 : Rcd h11 h6.nq (Aar L) := (Rcd.new h6 (Aar L)).same sY (fun x => x)
  have rc6 : Rcd h11 h9.nq (Aar L) := (Rcd.new h9 (Aar L)).same s10b (fun x => x)
  have ld4 : ldN h11 3 (pp h6.nq) = some (.agg (Aar L).toArray) := Ahv (l := Aar L) (by rw [Acu rc4.blk (by show 0 + 3 <= 3; omega)]; rfl)
  have ld6 : ldN h11 3 (pp h9.nq) = some (.agg (Aar L).toArray) := Ahv (l := Aar L) (by rw [Acu rc6.blk (by show 0 + 3 <= 3; omega)]; rfl)
  have bt1 : Ani h11 sv1 = some (.string (Agv (L.drop 3))) := Agq ((r1.same (Aa4.newR (L := Aar L) (S := fun _ => False)) (fun _ _ x => x)).same sY (fun _ _ x => x))
  have bt2 : Ani h11 sv2 = some (.string (Agv (L.drop 3))) := Agq ((r2.same (Aa4.newR (L := Aar L) (S := fun _ => False)) (fun _ _ x => x)).same s10b (fun _ _ x => x))
  have bt3 : Ani h11 wv = some (.string (Agv L)) := Agq (rinD.same s10b (fun _ _ x => x))
  have bt4 : Ani h11 v = some (.string (Agv L)) := Agq (aE.same s11 (fun _ _ x => x))
  have t1 : ((Agv (L.drop 3)).toList == (Agv (L.drop 3)).toList) = true := by simp
  have t2 : ((Agv L).toList == (Agv L).toList) = true := by simp
  generalize hk : L.length / 4 = k at *
  have ek : ((k : Int) == k) = true := by simp
  simp only [SS, seval, af4, hv, c1]
  rw [<- hv]
  simp only [SS, seval, ap]
  refine ⟨_, _, F6, ?_⟩
  simp only [SS, seval, Aaq, Abq, stX]
  refine ⟨_, _, F9, ?_⟩
  simp only [SS, seval, Aaq, Abq, stY]
  refine ⟨_, _, F10, ?_⟩
  simp only [SS, seval]
  refine ⟨_, _, F11, ?_⟩
  simp only [SS, seval, Aci, Apf, ld4, ld6, Atr, bt1, bt2, bt3, bt4, t1, t2, ek, bne]
  refine Aeo (fun q ts h' => ∃ i, q = k - i /\ i <= k /\ h' = h11 /\ Aax ts 8 = Aca u10 k /\ Aax ts 9 = Aca u11 k /\ Aax ts 10 = I i) ?_ (n := k) ⟨0, by omega, by omega, rfl, by simp only [SS, seval], by simp only [SS, seval], by simp only [SS, seval] <;> rfl⟩
  rintro q ts h' ⟨i, rfl, hik, rfl, l8, l9, l10⟩
  by_cases ci : i < k
  ·have ci1 : ((i : Int) < k) = True := by simp; omega
   obtain ⟨k', t', a', c', eA, _, _, _, _, eL⟩ := Ajf i L (by omega) hb
   obtain ⟨y10, e10, g10⟩ := o10'.ld6 ci eA eL
   obtain ⟨y11, e11, g11⟩ := o11.ld6 ci eA eL
   subst e10; subst e11
   have w : Aaw .i64 ((i : Int) + 1) = ((i + 1 : Nat) : Int) := by rw [Abh] <;> omega
   have f10 := g10
   have f11 := g11
   rw [Nat.zero_add] at f10 f11
   have l8' : Aax ts 8 = .slice (some ⟨y10, 0, none⟩) k k := l8
   have l9' : Aax ts 9 = .slice (some ⟨y11, 0, none⟩) k k := l9
   refine Adf ?_
   simp only [SS, seval, l8', l9', l10, ci1]
   refine ⟨Afu, Abx, ?_⟩
   simp only [SS, seval, l8', l9', l10, ci1, Aci, g10, g11, f10, f11, Atp, w]
   exact ⟨k - (i + 1), by omega, i + 1, rfl, by omega, rfl, rfl, rfl⟩
  ·have ci1 : ((i : Int) < k) = False := by simp; omega
   refine Adf ?_
   simp only [SS, seval, l8, l9, l10, ci1]
   refine ⟨_, _, kn _, ?_⟩
   simp only [SS, seval]
end
structure Aq4 (tab : Nat -> Option Aac) : Prop where
 f5 : tab 5 = some af5
theorem Atb : Aq4 tabT.get := ⟨by kernel_rfl⟩
theorem Aav.toss {h : Aaa} {v : Value} {n hi : Nat} {cells : List Value} {u : Option Nat} (a : Aav h v 1 n cells u) (hl : hi <= n) :
  ∃ v', (∀ k, Aav k v 1 n cells u -> slV k 1 v none (some (I hi)) = some v' /\ Aav k v' 1 hi (cells.take hi) u) /\ veq v' v' = true := by
 rcases a with ⟨rfl, rfl, e | ⟨b, o, q, e⟩⟩ | ⟨x, p, cap, e, rfl, r⟩
 ·have : hi = 0 := by omega
  subst this; subst e
  exact ⟨.slice none 0 0, fun k b => ⟨rfl, b⟩, Ab0 _ _ _⟩
 ·have : hi = 0 := by omega
  subst this; subst e
  exact ⟨.slice (some ⟨b, o, some q⟩) 0 0, fun k b => ⟨rfl, b⟩, Ab0 _ _ _⟩
 ·have hc := r.cap
  by_cases c : cap = 0
  ·have : n = 0 := by omega
   have : hi = 0 := by omega
   subst this; subst c
   refine ⟨.slice (some ⟨x, p, some 0⟩) 0 0, fun k b => ?_, Ab0 _ _ _⟩
   rcases b with ⟨_, _, ev | ⟨_, _, _, ev⟩⟩ | ⟨x', p', cap', e', ev, r'⟩
   ·cases ev
   ·cases ev
   ·cases ev
    refine ⟨?_, .inl ⟨rfl, rfl, .inr ⟨_, _, _, rfl⟩⟩⟩
    obtain ⟨k, k1, k2, _, _⟩ := r'.blk
    unfold slV
    simp only [Aev, Aa7 (Nat.le_refl 0), Bool.and_true, cond_true, k1, k2, Abw]
  ·refine ⟨.slice (some ⟨x, p, none⟩) hi cap, fun k b => ?_, Ab0 _ _ _⟩
   rcases b with ⟨_, _, ev | ⟨_, _, _, ev⟩⟩ | ⟨x', p', cap', e', ev, r'⟩
   ·cases ev
   ·cases ev
   ·cases ev
    refine ⟨r'.to (by omega) c, .inr ⟨x, p, cap, e, rfl, ?_⟩⟩
    have := r'.sub (Nat.zero_le hi) hl
    simpa using this
theorem Adu : ∀ (i : Nat) (L : List Int), i < L.length / 4 -> ((Abp L).drop (i * 6)).take 6 = Adg (Aak L (i * 4)) (Aak L (i * 4 + 1)) (Aak L (i * 4 + 2)) (Aak L (i * 4 + 3)) /\ i * 6 + 6 <= (Abp L).length
 | i, L, hi => by
  obtain ⟨k, t, a, c, r, rfl⟩ := Arr (R := L) (by omega)
  have hl := Adv k t a c
  cases i with
  | zero =>
   refine ⟨?_, by simp [Abp, hl]⟩
   rw [Abp, Nat.zero_mul, List.drop_zero, List.take_append_of_le_length (by omega), List.take_of_length_le (by omega)]
   rfl
  | succ i =>
   have hr : (k :: t :: a :: c :: r).length = r.length + 4 := rfl
   obtain ⟨e1, e2⟩ := Adu i r (by omega)
   refine ⟨?_, by rw [Abp, List.length_append, hl]; omega⟩
   have ex : ∀ j, Aak (k :: t :: a :: c :: r) ((i + 1) * 4 + j) = Aak r (i * 4 + j) := fun j => by
    unfold Aak
    rw [show (i + 1) * 4 + j = (i * 4 + j) + 4 by omega]
    rfl
   have ex0 : Aak (k :: t :: a :: c :: r) ((i + 1) * 4) = Aak r (i * 4) := ex 0
   rw [ex0, ex 1, ex 2, ex 3, <- e1, Abp, show (i + 1) * 6 = 6 + i * 6 by omega, <- List.drop_drop, List.drop_append_of_le_length (by omega), List.drop_of_length_le (by omega : (Adg k t a c).length <= 6), List.nil_append]
theorem Ac8 (L : List Int) {k j : Nat} (h : j < k) : Aak (L.take k) j = Aak L j := by
 unfold Aak
 rw [List.getD_eq_getElem?_getD, List.getD_eq_getElem?_getD, List.getElem?_take_of_lt h]
theorem Ap2 (k t a c : Int) : ∃ x0 x1 x2 x3 x4 x5 : Int, Adg k t a c = [I x0, I x1, I x2, I x3, I x4, I x5] /\ 1 <= x0 /\ x0 <= 4 /\ 0 <= x1 /\ x1 <= 7 /\ 0 <= x2 /\ x2 <= 32 := by
 unfold Adg
 (repeat' split) <;> exact ⟨_, _, _, _, _, _, rfl, by omega, by omega, by omega, by omega, by omega, by omega⟩
theorem Ar6 {C : List Value} {i j : Nat} {A : List Value} (h : (C.drop (i * 6)).take 6 = A) (hj : j < 6) : C[i * 6 + j]? = A[j]? := by
 rw [<- h, List.getElem?_take_of_lt hj, List.getElem?_drop]
theorem Apw {f : Nat} {args a : List Value} {h k : Aaa} {v : Value} {h' : Aaa} {cf : Aas} (n : k ≠ h) : Ah4 f args h v h' cf (.fn f) a k = cf (.fn f) a k := by
 unfold Ah4; rw [if_neg]; rintro ⟨_, _, h1⟩; exact n h1
section
variable (hT : Abk P tab) (HP : Has tab) (H : Am1 tab) (HB : An0 tab) (HE : Aq4 tab) (kn : ∀ h, Af5 P 8 [] h (.bool true) h)
include hT HP H HB HE kn
omit HP H HE kn in
theorem Ahu {h : Aaa} {v : Value} {n : Nat} {cells : List Value} {u : Option Nat} (a : Aav h v 1 n cells u) (hn : n < 4) : Af5 P 10 [v] h (.slice none 0 0) h := by
 have : Ac9 P 10 [v] h fun r h' => r = .slice none 0 0 /\ h' = h := by
  refine Abf hT HB.f10 rfl ?_
  obtain ⟨base, cap, hv⟩ := a.len
  have c1 : ((n : Int) >= 4) = False := by simp; omega
  simp only [SS, seval, af10]
  refine Aeo (fun q ts h' => q = 0 /\ Aax ts 0 = v /\ Aax ts 3 = .slice none 0 0 /\ h' = h) ?_ (n := 0) ⟨rfl, by simp only [SS, seval], by simp only [SS, seval], rfl⟩
  rintro q ts h' ⟨rfl, l0, l3, rfl⟩
  refine Adf ?_
  simp only [SS, seval, l0, l3, hv, c1]
 obtain ⟨_, _, F, rfl, rfl⟩ := this
 exact F
theorem Amr {h : Aaa} {v : Value} {L : List Int} {u : Option Nat} (a : Aav h v 1 L.length (L.map U) u) (hu : ∀ y, u = some y -> y < h.nq) (hb : ∀ x ∈ L, Ady x) (at' : Int) :
  Ac9 P 5 [v, I at'] h fun r h' => r = .bool true := by
 refine Abf hT HE.f5 rfl ?_
 obtain ⟨base, cap, hv⟩ := a.len
 generalize hn : L.length = n at *
 by_cases c : n > 2000
 ·have c1 : ((n : Int) > 2000) = True := by simp; omega
  simp only [SS, seval, af5, hv, c1]
  refine ⟨_, _, kn _, ?_⟩
  simp only [SS, seval]
 ·have c1 : ((n : Int) > 2000) = False := by simp; omega
  have w1 : Aaw .i64 ((n : Int) + 1) = n + 1 := Abh (by omega) (by omega)
  obtain ⟨_, _, F1, rfl, e1⟩ := Anv hT HP h at' (n + 1) (by omega) (by omega)
  rw [e1] at F1
  obtain ⟨k, hk, k1⟩ : ∃ k : Nat, at' % ((n : Int) + 1) = (k : Int) /\ k <= n := by
   have p1 := Int.emod_nonneg at' (show (n : Int) + 1 ≠ 0 by omega)
   have p2 := Int.emod_lt_of_pos at' (show (0 : Int) < (n : Int) + 1 by omega)
   exact ⟨(at' % ((n : Int) + 1)).toNat, by omega, by omega⟩
  rw [hk] at F1
  obtain ⟨v2, fr, vq⟩ := a.toss (hi := k) k1
  obtain ⟨_, r2⟩ := fr h a
  have hlt : (L.take k).length = k := by rw [List.length_take]; omega
  have hbt : ∀ x ∈ L.take k, Ady x := fun x hx => hb x (List.mem_of_mem_take hx)
  obtain ⟨CF, hcf, h1, h2, u1, u2, g1, g2, o1, o2, s1, s2⟩ : ∃ (CF : Aas) (_ : Ajj P CF) (h1 h2 : Aaa) (u1 u2 : Option Nat), CF (.fn 10) [v] h = some (Aca u1 (n / 4), h1) /\ CF (.fn 10) [v2] h1 = some (Aca u2 (k / 4), h2) /\
    Abd h1 u1 6 (n / 4) (Abp L) /\ Abd h2 u2 6 (k / 4) (Abp (L.take k)) /\ Aa4 h h1 (fun _ => False) /\ Aa4 h1 h2 (fun _ => False) := by
   by_cases c4 : n < 4
   ·have f1 := Ahu hT HB a c4
    have f2 := Ahu hT HB r2 (by omega)
    have z1 : n / 4 = 0 := by omega
    have z2 : k / 4 = 0 := by omega
    rw [z1, z2, Adc (by omega), Adc (by omega)]
    refine ⟨Ah4 10 [v] h (.slice none 0 0) h (Ah4 10 [v2] h (.slice none 0 0) h Afu), Ac5 f1 (Ac5 f2 Abx), h, h, none, none, Ac4, ?_, Abd.nil _ _, Abd.nil _ _, Aa4.refl _ _, Aa4.refl _ _⟩
    by_cases e : v2 = v
    ·rw [e]; exact Ac4
    ·unfold Ah4; rw [if_neg (by rintro ⟨_, h1, _⟩; exact e (by simpa using h1)), if_pos ⟨rfl, rfl, rfl⟩]; rfl
   ·have a' : Aav h v 1 L.length (L.map U) u := by rw [hn]; exact a
    obtain ⟨_, h1, F10, ⟨u1, rfl, o1, n1⟩, s1⟩ := Afh hT H HB a' hu hb (by omega)
    rw [hn] at F10 o1
    have r3 : Aav h1 v2 1 (L.take k).length ((L.take k).map U) u := by
     rw [hlt, List.map_take]; exact r2.same s1 (fun _ _ x => x)
    have x1 := s1.nq
    obtain ⟨_, h2, F11, ⟨u2, rfl, o2, n2⟩, s2⟩ := Afh hT H HB r3 (fun y hy => by have := hu y hy; omega) hbt (by omega)
    rw [hlt] at F11 o2
    have ne : h1 ≠ h := by
     intro e
     cases u1 with
     | none => have := o1.non rfl; omega
     | some y => have q1 := (o1.use y rfl).2.1; have q2 := n1 y rfl; rw [e] at q1; omega
    exact ⟨Ah4 10 [v] h _ h1 (Ah4 10 [v2] h1 _ h2 Afu), Ac5 F10 (Ac5 F11 Abx), h1, h2, u1, u2, Ac4, by rw [Apw ne]; exact Ac4, o1, o2, s1, s2⟩
  let J : Aaa -> Prop := fun q => Aav q v 1 n (L.map U) u
  have j0 : J h := a
  have j1 : J h1 := a.same s1 (fun _ _ x => x)
  have j2 : J h2 := Aav.same j1 s2 (fun _ _ x => x)
  have pj0 := fun (r : List Aah) (ts : Ai.T Value) (dst : Option Nat) (q : POp) (S : Ai.T Value -> Aaa -> Prop) => j_p (J := J) (cf := CF) (r := r) (ts := ts) (dst := dst) (q := q) (S := S) j0
  have pj1 := fun (r : List Aah) (ts : Ai.T Value) (dst : Option Nat) (q : POp) (S : Ai.T Value -> Aaa -> Prop) => j_p (J := J) (cf := CF) (r := r) (ts := ts) (dst := dst) (q := q) (S := S) j1
  have pj2 := fun (r : List Aah) (ts : Ai.T Value) (dst : Option Nat) (q : POp) (S : Ai.T Value -> Aaa -> Prop) => j_p (J := J) (cf := CF) (r := r) (ts := ts) (dst := dst) (q := q) (S := S) j2
  simp only [SS, seval, af5, hv, c1, w1]
  refine ⟨_, _, F1, ?_⟩
  simp only [SS, seval]
  rw [<- hv]
  refine Agm J CF hcf j0 ?_
  simp only [SS, seval, Ae6, Add, Ab4, Ab2, j_e, Ade, Ako, Ae2, Ae1, Adi, pj0, g1]
  refine ⟨j1, ?_⟩
  simp only [SS, seval, Ae6, Add, Ab4, Ab2, j_e, Ade, Ako, Ae2, Ae1, Adi, pj1]
  refine ⟨v2, fun q hq => (fr q hq).1, vq, ?_⟩
  simp only [SS, seval, Ae6, Add, Ab4, Ab2, j_e, Ade, Ako, Ae2, Ae1, Adi, pj1, g2]
  refine ⟨j2, ?_⟩
  simp only [SS, seval, Ae6, Add, Ab4, Ab2, j_e, Ade, Ako, Ae2, Ae1, Adi, pj2]
  have q1 : Aaw .i64 ((k : Int).tdiv 4) = ((k / 4 : Nat) : Int) := by rw [Int.tdiv_eq_ediv_of_nonneg (by omega), Abh] <;> omega
  have q2 : Aaw .i64 ((n : Int).tdiv 4) = ((n / 4 : Nat) : Int) := by rw [Int.tdiv_eq_ediv_of_nonneg (by omega), Abh] <;> omega
  have q3 : (4096 < ((k / 4 : Nat) : Int)) = False := by simp; omega
  have q4 : (4096 < ((n / 4 : Nat) : Int)) = False := by simp; omega
  have hKN : k / 4 <= n / 4 := by omega
  have hKk : k / 4 * 4 <= k := by omega
  have e1' : ∀ i, i < k / 4 -> ((Abp (L.take k)).drop (i * 6)).take 6 = ((Abp L).drop (i * 6)).take 6 := fun i hi => by
   rw [(Adu i L (by omega)).1, (Adu i (L.take k) (by omega)).1, Ac8 L (by omega), Ac8 L (by omega), Ac8 L (by omega), Ac8 L (by omega)]
  have eB : ∀ i, i < k / 4 -> ∃ x0 x1 x2 x3 x4 x5 : Int, ((Abp L).drop (i * 6)).take 6 = [I x0, I x1, I x2, I x3, I x4, I x5] /\ 1 <= x0 /\ x0 <= 4 /\ 0 <= x1 /\ x1 <= 7 /\ 0 <= x2 /\ x2 <= 32 /\ i * 6 + 6 <= (Abp L).length /\ i * 6 + 6 <= (Abp (L.take k)).length := fun i hi => by
   obtain ⟨x0, x1, x2, x3, x4, x5, e, p0, p1, p2, p3, p4, p5⟩ := Ap2 (Aak L (i * 4)) (Aak L (i * 4 + 1)) (Aak L (i * 4 + 2)) (Aak L (i * 4 + 3))
   exact ⟨x0, x1, x2, x3, x4, x5, by rw [(Adu i L (by omega)).1, e], p0, p1, p2, p3, p4, p5, (Adu i L (by omega)).2, (Adu i (L.take k) (by omega)).2⟩
  generalize k / 4 = K at *
  generalize n / 4 = N at *
  have ek : ((K : Int) == K) = true := by simp
  have en : ((N : Int) == N) = true := by simp
  rw [hv]
  simp only [SS, seval, q1, q2, q3, q4, ek, en, bne]
  have o1' := o1.same s2 (fun _ _ x => x)
  refine Aeo (fun q ts h' => ∃ i, q = K - i /\ i <= K /\ h' = h2 /\ Aax ts 6 = Aca u1 N /\ Aax ts 7 = Aca u2 K /\ Aax ts 8 = I i) ?_ (n := K) ⟨0, by omega, by omega, rfl, by simp only [SS, seval], by simp only [SS, seval], by simp only [SS, seval] <;> rfl⟩
  rintro q ts h' ⟨i, rfl, hik, rfl, l6, l7, l8⟩
  by_cases ci : i < K
  ·have ci1 : ((i : Int) < K) = True := by simp; omega
   have ci2 : ((i : Int) < N) = True := by simp; omega
   obtain ⟨x0, x1, x2, x3, x4, x5, eA, p0, p1, p2, p3, p4, p5, eL, eL2⟩ := eB i ci
   obtain ⟨y1, ee1, gg1⟩ := o1'.ld6 (by omega) eA eL
   obtain ⟨y2, ee2, gg2⟩ := o2.ld6 ci ((e1' i ci).trans eA) eL2
   subst ee1; subst ee2
   have rdj : ∀ j, j < 6 -> h'.rd y1 (i * 6 + j) = [I x0, I x1, I x2, I x3, I x4, I x5][j]? := fun j hj => by rw [Amt (o1'.use y1 rfl).1]; exact Ar6 eA hj
   have r0 := rdj 0 (by omega)
   have r1 := rdj 1 (by omega)
   have r2 := rdj 2 (by omega)
   simp only [List.getElem?_cons_zero, List.getElem?_cons_succ, Nat.add_zero] at r0 r1 r2
   have w : Aaw .i64 ((i : Int) + 1) = ((i + 1 : Nat) : Int) := by rw [Abh] <;> omega
   rw [Nat.zero_add] at gg1 gg2
   have l6' : Aax ts 6 = .slice (some ⟨y1, 0, none⟩) N N := l6
   have l7' : Aax ts 7 = .slice (some ⟨y2, 0, none⟩) K K := l7
   have b0 : (x0 < 1) = False := by simp; omega
   have b1 : (x0 > 4) = False := by simp; omega
   have b2 : (x2 < 0) = False := by simp; omega
   have b3 : (x2 > 32) = False := by simp; omega
   have b4 : (x1 < 0) = False := by simp; omega
   have b5 : (x1 > 7) = False := by simp; omega
   refine Adf ?_
   simp only [SS, seval, l6', l7', l8, ci1, ci2]
   refine ⟨Afu, Abx, ?_⟩
   simp only [SS, seval, l6', l7', l8, ci1, ci2, Aci, gg1, gg2, eq6, r0, r1, r2, b0, b1, b2, b3, b4, b5, w]
   exact ⟨K - (i + 1), by omega, i + 1, rfl, by omega, rfl, rfl, rfl⟩
  ·have ci1 : ((i : Int) < K) = False := by simp; omega
   refine Adf ?_
   simp only [SS, seval, l6, l7, l8, ci1]
   refine ⟨_, _, kn _, ?_⟩
   simp only [SS, seval]
end
end
end Go.Proofs.YthjhlifbdieibaaGreatDoor.Ai
