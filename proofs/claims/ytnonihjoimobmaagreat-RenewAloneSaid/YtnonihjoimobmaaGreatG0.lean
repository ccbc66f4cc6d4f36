/- Texts put together: Plant0, PA, PB, PC2, AiIn2, PD, PE, PF, PG, PH, PI, PJ, QA, QB, QC, QD, QE, QF, ST, RR, View0, VA, VB, VC, VD, VE, VF, VG. -/
import Derived.Test.YtnonihjoimobmaaGreatTh2
import Derived.Test.YtnonihjoimobmaaGreatTabOk
namespace Go.Proofs.YtnonihjoimobmaaGreat.Ai
open Go.Proofs.YtnonihjoimobmaaGreat
noncomputable section
set_option linter.all false
variable {P : Program} {tab : Nat -> Option Aae}
open Go.RowKit
def A7k (n : Nat) : Nat := (List.range 12).foldl (fun r k => if k * k <= n then k else r) 0
def Aar (n : Nat) : Nat := if n < 2 then 0 else max 2 (A7k n)
def Abs (n i : Nat) : Nat := if i < n % Aar n then n / Aar n + 1 else n / Aar n
def Aa1 (n i : Nat) : Nat := n / Aar n * i + min i (n % Aar n)
def A0q (f : Nat -> Nat) : Nat -> Nat
 | 0 => 0
 | i + 1 => A0q f i + f i
def Atl : Nat -> Nat -> Nat
 | 0, _ => 0
 | f + 1, n => if n = 0 then 1 else if n = 1 then 2 else A0q (fun i => Atl f (Abs n i)) (Aar n) + (5 + (Aar n - 1) + Aar n)
def Abf (n : Nat) : Nat := Atl 8 n
theorem Am1 : Abf 0 = 1 := by kernel_rfl
theorem Ate : Abf 1 = 2 := by kernel_rfl
def Aq5 (n : Nat) : Bool := (List.range (Aar n)).all (fun i => Nat.beq (Aa1 n (i + 1)) (Aa1 n i + Abs n i) && Nat.ble 1 (Abs n i) && Nat.blt (Abs n i) n && Nat.ble (Aa1 n i + Abs n i) n) && Nat.beq (Abf n) (A0q (fun i => Abf (Abs n i)) (Aar n) + (5 + (Aar n - 1) + Aar n)) && Nat.ble (Abf n) 1100 && Nat.ble 2 (Aar n) && Nat.ble (Aar n) 11 && Nat.beq (Aa1 n 0) 0
theorem A1l : ((List.range 121).all fun n => Nat.blt n 2 || Aq5 n) = true := by kernel_rfl
theorem A1t {n : Nat} (h2 : 2 <= n) (h : n <= 120) : Aq5 n = true := by
 have := List.all_eq_true.1 A1l n (List.mem_range.2 (by omega))
 simp only [Bool.or_eq_true] at this
 rcases this with h0 | h0
 ·have : Nat.ble (n + 1) 2 = true := h0
  have := Nat.le_of_ble_eq_true this; omega
 ·exact h0
structure A8e (n : Nat) : Prop where
 deg2 : 2 <= Aar n
 deg11 : Aar n <= 11
 nq : ∀ i, i < Aar n -> Aa1 n (i + 1) = Aa1 n i + Abs n i
 one : ∀ i, i < Aar n -> 1 <= Abs n i
 less : ∀ i, i < Aar n -> Abs n i < n
 top : ∀ i, i < Aar n -> Aa1 n i + Abs n i <= n
 cells : Abf n = A0q (fun i => Abf (Abs n i)) (Aar n) + (5 + (Aar n - 1) + Aar n)
 most : Abf n <= 1100
 zero : Aa1 n 0 = 0
theorem Ac7 {n : Nat} (h2 : 2 <= n) (h : n <= 120) : A8e n := by
 have hp := A1t h2 h
 simp only [Aq5, Bool.and_eq_true, List.all_eq_true, List.mem_range] at hp
 obtain ⟨⟨⟨⟨⟨p1, p2⟩, p3⟩, p4⟩, p5⟩, p6⟩ := hp
 have ble : ∀ {a b : Nat}, Nat.ble a b = true -> a <= b := fun h => Nat.le_of_ble_eq_true h
 exact ⟨ble p4, ble p5, fun i hi => Nat.eq_of_beq_eq_true (p1 i hi).1.1.1, fun i hi => ble (p1 i hi).1.1.2, fun i hi => ble (show Nat.ble (_ + 1) _ = true from (p1 i hi).1.2), fun i hi => ble (p1 i hi).2, Nat.eq_of_beq_eq_true p2, ble p3, Nat.eq_of_beq_eq_true p6⟩
abbrev Pr := Int × Int
def Aaq (l : List Pr) (i : Nat) : List Pr := (l.drop (Aa1 l.length i)).take (Abs l.length i)
def Aay (lay : List Pr -> Nat -> Int × List Int) (l : List Pr) (u : Nat) : Nat -> List Int × List Int
 | 0 => ([], [])
 | i + 1 =>
  let r := Aay lay l u i
  let w := lay (Aaq l i) (u + r.2.length)
  (r.1 ++ [w.1], r.2 ++ w.2)
def Acl (l : List Pr) : Nat -> List Int
 | 0 => []
 | i + 1 => if i = 0 then [] else Acl l i ++ [((l[Aa1 l.length i]?).getD (0, 0)).1]
def Abc : Nat -> List Pr -> Nat -> Int × List Int
 | 0, _, _ => (0, [])
 | f + 1, l, u => match l with
  | [] => (((u : Int) + 1) * 8 + 1, [0])
  | [p] => (((u : Int) + 1) * 8 + 2, [p.1, p.2])
  | l =>
   let r := Aay (Abc f) l u (Aar l.length)
   ((((u + r.2.length : Nat) : Int) + 1) * 8 + 3, r.2 ++ ([(Aar l.length : Int), (l.length : Int), 0, 0, 0] ++ Acl l (Aar l.length) ++ r.1))
theorem Afo {f : Nat} {l : List Pr} {u : Nat} (h : 2 <= l.length) : Abc (f + 1) l u = ((((u + (Aay (Abc f) l u (Aar l.length)).2.length : Nat) : Int) + 1) * 8 + 3, (Aay (Abc f) l u (Aar l.length)).2 ++ ([(Aar l.length : Int), (l.length : Int), 0, 0, 0] ++ Acl l (Aar l.length) ++ (Aay (Abc f) l u (Aar l.length)).1)) := by
 match l, h with
 | p :: q :: l, _ => rfl
theorem Age (lay : List Pr -> Nat -> Int × List Int) (l : List Pr) (u : Nat) : ∀ i, (Aay lay l u i).1.length = i
 | 0 => rfl
 | i + 1 => by simp [Aay, Age lay l u i]
theorem Ac0 (l : List Pr) : ∀ i, (Acl l i).length = i - 1
 | 0 => rfl
 | 1 => rfl
 | i + 2 => by
  rw [Acl, if_neg (by omega), List.length_append, Ac0 l (i + 1)]; simp
theorem Abu {l : List Pr} (h2 : 2 <= l.length) (h : l.length <= 120) {i : Nat} (hi : i < Aar l.length) : (Aaq l i).length = Abs l.length i := by
 have := (Ac7 h2 h).top i hi
 simp [Aaq]; omega
theorem Agi : ∀ (f : Nat) (l : List Pr) (u : Nat), l.length < f -> l.length <= 120 -> (Abc f l u).2.length = Abf l.length
 | 0, l, u, hf, _ => by omega
 | f + 1, l, u, hf, hl => by
  by_cases h2 : 2 <= l.length
  ·rw [Afo h2]
   have pn := Ac7 h2 hl
   have key : ∀ i, i <= Aar l.length -> (Aay (Abc f) l u i).2.length = A0q (fun i => Abf (Abs l.length i)) i := by
    intro i
    induction i with
    | zero => intro _; rfl
    | succ i ih =>
     intro hi
     have hp := Abu h2 hl (i := i) (by omega)
     have hless := pn.less i (by omega)
     simp only [Aay, A0q, List.length_append, ih (by omega)]
     rw [Agi f (Aaq l i) _ (by omega) (by omega), hp]
   simp only [List.length_append, key _ (Nat.le_refl _), Age, Ac0, List.length_cons, List.length_nil]
   rw [pn.cells]
  ·match l, h2 with
   | [], _ => rfl
   | [p], _ => rfl
   | _ :: _ :: _, h2 => simp at h2
structure Has (tab : Nat -> Option Aae) : Prop where
 f14 : tab 30 = some af30
 f20 : tab 46 = some af46
 f24 : tab 8 = some af8
 f27 : tab 32 = some af32
 f30 : tab 49 = some af49
 f33 : tab 6 = some af6
 f35 : tab 10 = some af10
 f40 : tab 27 = some af27
 f51 : tab 11 = some af11
 f53 : tab 13 = some af13
 f62 : tab 47 = some af47
 f63 : tab 51 = some af51
 f67 : tab 33 = some af33
 f72 : tab 48 = some af48
 f82 : tab 37 = some af37
 f96 : tab 85 = some af85
 f97 : tab 84 = some af84
 f104 : tab 52 = some af52
 f106 : tab 80 = some af80
 f124 : tab 120 = some af120
theorem has : Has tabT.get := ⟨by kernel_rfl, by kernel_rfl, by kernel_rfl, by kernel_rfl, by kernel_rfl, by kernel_rfl, by kernel_rfl, by kernel_rfl, by kernel_rfl, by kernel_rfl, by kernel_rfl, by kernel_rfl, by kernel_rfl, by kernel_rfl, by kernel_rfl, by kernel_rfl, by kernel_rfl, by kernel_rfl, by kernel_rfl, by kernel_rfl⟩
theorem A6x (a k : Int) (a0 : 0 <= a) (a1 : a <= 65536) (k0 : 0 <= k) (k1 : k < 8) : IntKind.i64.wrap ((BitVec.ofInt 64 (a * 8) ||| BitVec.ofInt 64 k).toNat : Int) = a * 8 + k := by
 obtain ⟨n, rfl⟩ := Int.eq_ofNat_of_zero_le a0
 obtain ⟨m, rfl⟩ := Int.eq_ofNat_of_zero_le k0
 have e1 : ((n : Int) * 8) = ((n * 8 : Nat) : Int) := by simp
 rw [e1]
 simp only [BitVec.ofInt_natCast, BitVec.toNat_or, BitVec.toNat_ofNat]
 rw [Nat.mod_eq_of_lt (show n * 8 < 2 ^ 64 by omega), Nat.mod_eq_of_lt (show m < 2 ^ 64 by omega)]
 have e2 : n * 8 ||| m = n * 8 + m := by
  have := Nat.shiftLeft_add_eq_or_of_lt (a := n) (b := m) (i := 3) (by omega)
  rw [Nat.shiftLeft_eq] at this
  exact this.symm
 rw [e2, IntWalk.i64_in _ (by omega)]
 simp
section
variable (hT : Aa0 P tab) (H : Has tab)
include hT H
theorem At9 (k a : Int) (h : Aac) (c1 : k >= 1) (c2 : k <= 5) (c3 : a >= 1) (c4 : a <= 65536) : Aah P 37 [I k, I a] h fun v h' => v = .bool true /\ h' = h := by
 refine Aaa hT H.f82 rfl ?_
 simp only [SS, seval, af37, c1, c2, c3, c4]
theorem Aed (k a : Int) (h : Aac) (c1 : k >= 1) (c2 : k <= 5) (c3 : a >= 1) (c4 : a <= 65536) : Aah P 13 [I k, I a] h fun v h' => v = I (a * 8 + k) /\ h' = h := by
 refine Aaa hT H.f53 rfl ?_
 simp only [SS, seval, af13]
 obtain ⟨v, h1, F, rfl, rfl⟩ := At9 hT H k a h c1 c2 c3 c4
 refine ⟨_, _, F, ?_⟩
 have w : Aan .i64 (a * 8) = a * 8 := Aav (by omega) (by omega)
 simp only [SS, seval, w]
 exact congrArg (Value.int .i64) (A6x a k (by omega) c4 (by omega) (by omega))
theorem Afz (h : Aac) : Aah P 11 [] h fun v h' => v = .slice (some ⟨h.nq, 0, none⟩) 1 1 /\ Abq h' h.nq 0 1 1 1 [I 0] /\ Aad h h' (fun _ => False) := by
 refine Aaa hT H.f51 rfl ?_
 simp only [SS, seval, af11]
 exact ⟨Abq.fresh h [I 0] 1 1 true false rfl, Aad.new⟩
theorem Ako (h : Aac) (k x : Int) : Aah P 85 [I k, I x] h fun v h' => v = .slice (some ⟨h.nq, 0, none⟩) 2 2 /\ Abq h' h.nq 0 1 2 2 [I k, I x] /\ Aad h h' (fun _ => False) := by
 refine Aaa hT H.f96 rfl ?_
 simp only [SS, seval, af85]
 exact ⟨Abq.fresh h [I k, I x] 2 1 true false rfl, Aad.new⟩
theorem Akh {h : Aac} {b : Nat} {u : Option Nat} {C : List Int} {z c o r : Int} (m : Aa2 h b u C z c o r) {x p cap : Nat} {ws : List Int} (hw : Abq h x p 1 ws.length cap (ws.map I)) (hx : x ≠ b) (n0 : ws ≠ []) (hn : (C.length : Int) + ws.length <= z) (hz : z <= 65536) (hc : 0 <= c /\ c < 1000000000) :
  Aah P 10 [(pp b), .slice (some ⟨x, p, none⟩) ws.length cap] h fun v h' => v = .tuple #[I (C.length + 1), .bool true] /\ (∃ u', Aa2 h' b u' (C ++ ws) z (c + 1) o r /\ (∀ x, u' = some x -> u = some x \/ h.nq <= x)) /\ Aad h h' (fun j => j = b \/ u = some j) := by
 refine Aaa hT H.f35 rfl ?_
 have wc : Aan .i64 (c + 1) = c + 1 := Aav (by omega) (by omega)
 have wz : Aan .i64 (z - C.length) = z - C.length := Aav (by omega) (by omega)
 have wl : Aan .i64 (C.length + 1) = C.length + 1 := Aav (by omega) (by omega)
 have m1 := m.set z (c + 1) o r
 have s1 : Aad h (h.setB b (Ac9 (Ad6 u C) z (c + 1) o r)) (fun j => j = b \/ u = some j) := Aad.setB (.inl rfl)
 have hb : ((ws.length : Int) == 0) = false := by simp [n0]
 have hg : ((ws.length : Int) > z - C.length) = False := by simp; omega
 have hlt := m.lt
 obtain ⟨u', h2, ha, ho, hs, hu'⟩ := Ad5 (bytes := 8) m1.own (hw.same (S := fun j => j = b) (Aad.setB rfl) hx).src (by simp) (by simp [Aas]) (Nat.le_refl _) (by omega) (by omega)
 have hb2 : h2.bqs.get b = some (Ac9 (Ad6 u C) z (c + 1) o r) := by
  rw [hs.get b m1.lt (fun hc => ((m1.use b hc).2.1 rfl))]; exact m1.blk
 have hu2 : ∀ y, u' = some y -> y ≠ b := fun y hy => by
  rcases hu' y hy with e | e
  ·exact (m.use y e).2.1
  ·rw [e, Aqi]; omega
 have hw0 := A39 (v := Aal u' (C.length + ws.length)) hb2 rfl
 simp only [SS, seval, af10, m.rd2, m.wr2, wc]
 refine ⟨Agy, Abo, ?_⟩
 simp only [SS, seval, m1.rd0, m1.rd1, hb, wz, hg, wl, ha, hw0]
 refine ⟨⟨u', ?_, fun y hy => (hu' y hy).imp_right (fun e => by rw [e, Aqi]; exact Nat.le_refl _)⟩, ?_⟩
 ·have hl : (C ++ ws).length = C.length + ws.length := by simp
  rw [<- List.map_append, <- hl] at ho
  have := Aa2.of_own ho hu2 (Nat.lt_of_lt_of_le m1.lt hs.nq) z (c + 1) o r
  have e : (h2.setB b (Ac9 (Ad6 u' (C ++ ws)) z (c + 1) o r)).mq = h.mq := hs.mq
  rw [<- Aab h _ e] at this
  rw [<- hl]
  exact this
 ·have s3 : Aad h (h2.setB b (Ac9 (Aal u' (C.length + ws.length)) z (c + 1) o r)) (fun j => j = b \/ u = some j) := (s1.trans (hs.mono (fun j hj => .inr hj)) (fun _ _ hj => hj)).trans (Aad.setB (S := fun j => j = b \/ u = some j) (.inl rfl)) (fun _ _ hj => hj)
  exact (Aab h (h2.setB b _) s3.mq) ▸ s3
end
section
variable (hT : Aa0 P tab) (H : Has tab)
include hT H
theorem Al6 {h : Aac} {b : Nat} {u : Option Nat} {C : List Int} {z c o r k : Int} (m : Aa2 h b u C z c o r) {x p cap : Nat} {ws : List Int} (hw : Abq h x p 1 ws.length cap (ws.map I)) (hx : x ≠ b) (n0 : ws ≠ []) (hn : (C.length : Int) + ws.length <= z) (hz : z <= 65536) (hc : 0 <= c /\ c < 1000000000) (k1 : k >= 1) (k2 : k <= 5) :
  Aah P 84 [(pp b), I k, .slice (some ⟨x, p, none⟩) ws.length cap] h fun v h' => v = I (((C.length : Int) + 1) * 8 + k) /\ (∃ u', Aa2 h' b u' (C ++ ws) z (c + 1) o r /\ (∀ x, u' = some x -> u = some x \/ h.nq <= x)) /\ Aad h h' (fun j => j = b \/ u = some j) := by
 refine Aaa hT H.f97 rfl ?_
 obtain ⟨v, h1, F, rfl, hm, hs⟩ := Akh hT H m hw hx n0 hn hz hc
 have hpos : 0 < ws.length := List.length_pos_iff.2 n0
 obtain ⟨v2, h2, F2, rfl, rfl⟩ := Aed hT H k ((C.length : Int) + 1) h1 k1 k2 (by omega) (by omega)
 simp only [SS, seval, af84]
 refine ⟨_, _, F, ?_⟩
 simp only [SS, seval]
 refine ⟨_, _, F2, ?_⟩
 simp only [SS, seval]
 rw [Aab h h2 hs.mq]
 exact ⟨hm, hs⟩
theorem Ao7 (h : Aac) {n : Nat} (n0 : 0 < n) (hn : n < 1000000) : Aah P 120 [.slice none 0 0, I n] h fun v h' => v = .slice (some ⟨h.nq, 0, none⟩) 0 n /\ h' = h.new ⟨rep [I 0] n, n, 1, true, true⟩ := by
 refine Aaa hT H.f124 rfl ?_
 have c1 : ((n : Int) < 0) = False := by simp
 have c2 : ((n : Int) > 0) = True := by simp; omega
 have w1 : Aan .i64 (n : Int) = n := by rw [Aav] <;> omega
 have hrep : (rep [I 0] n).all Aas = true := by rw [Alx]; simp [Aas]
 have a1 := A19 (h := h) (s := 1) (bytes := 8) (zero := [I 0]) n0 (by omega) (by omega) (Nat.le_refl _) hrep
 have r1 : Abq (h.new ⟨rep [I 0] n, n, 1, true, true⟩) h.nq 0 1 n n (rep [I 0] n) := by
  have := Abq.fresh h (rep [I 0] n) n 1 true true (by rw [Alx]; simp)
  rwa [Nat.mul_one] at this
 have r2 : _ = _ := r1.to (hi := 0) (Nat.zero_le _) (by omega)
 rw [Int.natCast_zero] at r2
 rw [Nat.mul_one] at a1
 simp only [SS, seval, af120, c1, c2, w1, a1, r2]
 rfl
theorem Aib {h : Aac} {y : Nat} {A B C : List Int} {xa oa ca xb ob cb xc oc cc : Nat} (hy : Abq h y 0 1 3 3 [.slice (some ⟨xa, oa, none⟩) A.length ca, .slice (some ⟨xb, ob, none⟩) B.length cb, .slice (some ⟨xc, oc, none⟩) C.length cc])
  (ha : Abq h xa oa 1 A.length ca (A.map I)) (hb : Abq h xb ob 1 B.length cb (B.map I)) (hc : Abq h xc oc 1 C.length cc (C.map I)) (a0 : A ≠ []) (b0 : B ≠ []) (c0 : C ≠ []) (hl : A.length + B.length + C.length < 100000) :
  Aah P 80 [.slice (some ⟨y, 0, none⟩) 3 3] h fun v h' => v = .slice (some ⟨h.nq, 0, none⟩) (A ++ B ++ C).length (A ++ B ++ C).length /\ Abq h' h.nq 0 1 (A ++ B ++ C).length (A ++ B ++ C).length ((A ++ B ++ C).map I) /\ Aad h h' (fun _ => False) := by
 refine Aaa hT H.f106 rfl ?_
 have y0 : h.rd y 0 = _ := hy.rd (i := 0) (by omega)
 have y1 : h.rd y 1 = _ := hy.rd (i := 1) (by omega)
 have y2 : h.rd y 2 = _ := hy.rd (i := 2) (by omega)
 have pa := List.length_pos_iff.2 a0
 have pb := List.length_pos_iff.2 b0
 have pc := List.length_pos_iff.2 c0
 have w1 : Aan .i64 (0 + (A.length : Int)) = A.length := by rw [Aav] <;> omega
 have w2 : Aan .i64 ((A.length : Int) + B.length) = ((A.length + B.length : Nat) : Int) := by rw [Aav] <;> omega
 have w3 : Aan .i64 (((A.length + B.length : Nat) : Int) + C.length) = ((A.length + B.length + C.length : Nat) : Int) := by rw [Aav] <;> omega
 have w4 : Aan .i64 1 = 1 := by decide
 have w5 : Aan .i64 2 = 2 := by decide
 have w6 : Aan .i64 3 = 3 := by decide
 have n1 : ((A.length : Int) < 0) = False := by simp
 have n2 : (((A.length + B.length : Nat) : Int) < 0) = False := by simp; omega
 have n3 : (((A.length + B.length + C.length : Nat) : Int) < 0) = False := by simp; omega
 obtain ⟨v, h1, F, rfl, rfl⟩ := Ao7 hT H h (n := A.length + B.length + C.length) (by omega) (by omega)
 simp only [SS, seval, af80]
 refine Apt (Acm ?_)
 simp only [SS, seval, y0, w1, w4, n1]
 refine Acm ?_
 simp only [SS, seval, y1, w2, w5, n2]
 refine Acm ?_
 simp only [SS, seval, y2, w3, w6, n3]
 refine Acm ?_
 simp only [SS, seval]
 refine ⟨_, _, F, ?_⟩
 simp only [SS, seval]
 have e0 : (h.new ⟨rep [I 0] (A.length + B.length + C.length), A.length + B.length + C.length, 1, true, true⟩).bqs.get h.nq = some ⟨[] ++ rep [I 0] (A.length + B.length + C.length), A.length + B.length + C.length, 1, true, true⟩ := by rw [Aa5]; exact if_pos rfl
 have lr : (rep [I 0] (A.length + B.length + C.length)).length = A.length + B.length + C.length := by rw [Alx]; simp
 have s0 : Aad h (h.new ⟨rep [I 0] (A.length + B.length + C.length), A.length + B.length + C.length, 1, true, true⟩) (fun _ => False) := Aad.new
 have nx : ∀ j, j < h.nq -> j = h.nq -> False := fun j h1 h2 => by omega
 obtain ⟨k1, i1, e1, t1⟩ := Aig (bytes := 8) (n := 0) (cap := A.length + B.length + C.length) e0 (by simp) ((ha.same s0 (fun x => x)).src) (by simp) (by simp [lr]; try omega) (by simp [Aas]) (Nat.le_refl _) (by omega) (by omega) (by omega) (by omega)
 have s1 : Aad h k1 (fun _ => False) := s0.trans t1 nx
 obtain ⟨k2, i2, e2, t2⟩ := Aig (bytes := 8) (n := 0 + A.length) (cap := A.length + B.length + C.length) e1 (by simp) ((hb.same s1 (fun x => x)).src) (by simp) (by simp [lr]; try omega) (by simp [Aas]) (Nat.le_refl _) (by omega) (by omega) (by omega) (by omega)
 have s2 : Aad h k2 (fun _ => False) := s1.trans t2 nx
 obtain ⟨k3, i3, e3, t3⟩ := Aig (bytes := 8) (n := 0 + A.length + B.length) (cap := A.length + B.length + C.length) e2 (by simp) ((hc.same s2 (fun x => x)).src) (by simp) (by simp [lr]; try omega) (by simp [Aas]) (Nat.le_refl _) (by omega) (by omega) (by omega) (by omega)
 have s3 : Aad h k3 (fun _ => False) := s2.trans t3 nx
 have z0 : (h.new ⟨rep [I 0] (A.length + B.length + C.length), A.length + B.length + C.length, 1, true, true⟩).rd y 0 = _ := (hy.same s0 (fun x => x)).rd (i := 0) (by omega)
 have z1 : k1.rd y 1 = _ := (hy.same s1 (fun x => x)).rd (i := 1) (by omega)
 have z2 : k2.rd y 2 = _ := (hy.same s2 (fun x => x)).rd (i := 2) (by omega)
 simp only [Nat.zero_add] at i1 i2 i3
 refine Apt (Acm ?_)
 simp only [SS, seval, z0, i1, w4]
 refine Acm ?_
 simp only [SS, seval, z1, i2, w5]
 refine Acm ?_
 simp only [SS, seval, z2, i3, w6]
 refine Acm ?_
 simp only [SS, seval]
 have hL : (A ++ B ++ C).length = A.length + B.length + C.length := by simp; omega
 rw [Aab h k3 s3.mq, hL]
 refine ⟨rfl, ⟨⟨_, e3, rfl, ?_, ?_⟩, Nat.le_refl _, ?_⟩, s3⟩
 ·rw [List.drop_zero, List.take_append_of_le_length (by simp; omega)]
  simp only [List.nil_append, List.map_append]
  rw [List.take_of_length_le (by simp; omega)]
 ·simp; omega
 ·have := t1.nq; have := t2.nq; have := t3.nq
  rw [Aet] at *
  omega
theorem Av8 {h : Aac} {n : Int} {uk uc : Nat} {K W : List Int} (hk : Abh h (some uk) 1 K.length (K.map I)) (hw : Abh h (some uc) 1 W.length (W.map I)) (k0 : K ≠ []) (hl : W.length = K.length + 1) (hb : W.length < 1000) :
  Aah P 48 [I n, Aal (some uk) K.length, Aal (some uc) W.length] h fun v h' => ∃ x, h.nq <= x /\ v = .slice (some ⟨x, 0, none⟩) ([(W.length : Int), n, 0, 0, 0] ++ K ++ W).length ([(W.length : Int), n, 0, 0, 0] ++ K ++ W).length /\ Abq h' x 0 1 ([(W.length : Int), n, 0, 0, 0] ++ K ++ W).length ([(W.length : Int), n, 0, 0, 0] ++ K ++ W).length (([(W.length : Int), n, 0, 0, 0] ++ K ++ W).map I) /\ Aad h h' (fun _ => False) := by
 refine Aaa hT H.f72 rfl ?_
 have w1 : Aan .i64 ((K.length : Int) + 1) = W.length := by rw [hl, Aav] <;> omega
 have c1 : ((W.length : Int) != W.length) = false := by simp
 have w0 : W ≠ [] := fun e => by rw [e] at hl; simp at hl
 simp only [SS, seval, af48, w1, c1]
 have r5 : Abq (h.new ⟨[I W.length, I n, I 0, I 0, I 0], 5, 1, true, false⟩) h.nq 0 1 5 5 [I W.length, I n, I 0, I 0, I 0] := Abq.fresh h [I W.length, I n, I 0, I 0, I 0] 5 1 true false rfl
 generalize hk1 : h.new ⟨[I W.length, I n, I 0, I 0, I 0], 5, 1, true, false⟩ = k1 at r5
 have s1 : Aad h k1 (fun _ => False) := hk1 ▸ Aad.new
 have r3 : Abq (k1.new ⟨[.slice (some ⟨h.nq, 0, none⟩) 5 5, Aal (some uk) K.length, Aal (some uc) W.length], 3, 1, true, false⟩) k1.nq 0 1 3 3 [.slice (some ⟨h.nq, 0, none⟩) 5 5, Aal (some uk) K.length, Aal (some uc) W.length] := Abq.fresh k1 _ 3 1 true false rfl
 have s2 : Aad k1 (k1.new ⟨[.slice (some ⟨h.nq, 0, none⟩) 5 5, Aal (some uk) K.length, Aal (some uc) W.length], 3, 1, true, false⟩) (fun _ => False) := Aad.new
 have sA : Aad h (k1.new ⟨[.slice (some ⟨h.nq, 0, none⟩) 5 5, Aal (some uk) K.length, Aal (some uc) W.length], 3, 1, true, false⟩) (fun _ => False) := s1.trans s2 (fun _ _ x => x)
 obtain ⟨v, h3, F, rfl, q2, q3⟩ := Aib hT H (A := [(W.length : Int), n, 0, 0, 0]) (B := K) (C := W) r3 (r5.same s2 (fun x => x)) (hk.rd.same sA (fun x => x)) (hw.rd.same sA (fun x => x)) (by simp) k0 w0 (by simp; omega)
 refine ⟨_, _, F, ?_⟩
 simp only [SS, seval]
 have sB := sA.trans q3 (fun _ _ x => x)
 rw [Aab h h3 sB.mq]
 exact ⟨_, Nat.le_trans s1.nq s2.nq, rfl, q2, sB⟩
end
def Ady : List Pr -> List Value
 | [] => []
 | p :: l => I p.1 :: I p.2 :: Ady l
theorem Ait : ∀ l : List Pr, (Ady l).length = l.length * 2
 | [] => rfl
 | p :: l => by simp [Ady, Ait l]; omega
theorem Afs : ∀ (l : List Pr) (i : Nat) (hi : i < l.length), (Ady l)[i * 2]? = some (I l[i].1)
 | p :: l, 0, _ => rfl
 | p :: l, i + 1, hi => by
  have := Afs l i (by simpa using hi)
  rw [show (i + 1) * 2 = i * 2 + 1 + 1 by omega, Ady, List.getElem?_cons_succ, List.getElem?_cons_succ, this]
  rfl
theorem At1 : ∀ (l : List Pr) (i : Nat) (hi : i < l.length), (Ady l)[i * 2 + 1]? = some (I l[i].2)
 | p :: l, 0, _ => rfl
 | p :: l, i + 1, hi => by
  have := At1 l i (by simpa using hi)
  rw [show (i + 1) * 2 + 1 = i * 2 + 1 + 1 + 1 by omega, Ady, List.getElem?_cons_succ, List.getElem?_cons_succ, this]
  rfl
theorem Ag6 : ∀ (l : List Pr) (i : Nat), Ady (l.drop i) = (Ady l).drop (i * 2)
 | l, 0 => by simp
 | [], i + 1 => by simp [Ady]
 | p :: l, i + 1 => by
  rw [List.drop_succ_cons, Ag6 l i, show (i + 1) * 2 = i * 2 + 1 + 1 by omega, Ady, List.drop_succ_cons, List.drop_succ_cons]
theorem Aha : ∀ (l : List Pr) (i : Nat), Ady (l.take i) = (Ady l).take (i * 2)
 | l, 0 => by simp [Ady]
 | [], i + 1 => by simp [Ady]
 | p :: l, i + 1 => by
  rw [List.take_succ_cons, Ady, Aha l i, show (i + 1) * 2 = i * 2 + 1 + 1 by omega, Ady, List.take_succ_cons, List.take_succ_cons]
structure Num (P : Program) : Prop where
 deg : ∀ n : Nat, n <= 120 -> ∀ h, Aa3 P 83 [I n] h (I (Aar n)) h
 frm : ∀ n i : Nat, 2 <= n -> n <= 120 -> i < Aar n -> ∀ h, Aa3 P 86 [I n, I i] h (I (Aa1 n i)) h
 siz : ∀ n i : Nat, 2 <= n -> n <= 120 -> i < Aar n -> ∀ h, Aa3 P 87 [I n, I i] h (I (Abs n i)) h
 cel : ∀ n : Nat, n <= 120 -> ∀ h, Aa3 P 50 [I n] h (I (Abf n)) h
theorem Ay0 (lay : List Pr -> Nat -> Int × List Int) (l : List Pr) (u : Nat) {i j : Nat} (h : i <= j) : (Aay lay l u i).2.length <= (Aay lay l u j).2.length := by
 induction h with
 | refl => exact Nat.le_refl _
 | step _ ih => refine Nat.le_trans ih ?_; simp [Aay]
section
variable (hT : Aa0 P tab) (H : Has tab) (Nu : Num P)
include hT H
theorem A33 {h : Aac} {b : Nat} {u : Option Nat} {C : List Int} {z c o r : Int} (m : Aa2 h b u C z c o r) {base : Option Addr} {cap : Nat} (hn : (C.length : Int) + 1 <= z) (hz : z <= 65536) (hc : 0 <= c /\ c < 1000000000) :
  Aah P 51 [(pp b), .slice base 0 cap] h fun v h' => v = I (((C.length : Int) + 1) * 8 + 1) /\ (∃ u', Aa2 h' b u' (C ++ [0]) z (c + 1) o r /\ (∀ x, u' = some x -> u = some x \/ h.nq <= x)) /\ Aad h h' (fun j => j = b \/ u = some j) := by
 refine Aaa hT H.f63 rfl ?_
 simp only [SS, seval, af51, beq_self_eq_true]
 obtain ⟨v, h1, F, rfl, hr, hs⟩ := Afz hT H h
 refine ⟨_, _, F, ?_⟩
 simp only [SS, seval]
 obtain ⟨v2, h2, F2, rfl, hm, hs2⟩ := Al6 hT H (k := 1) (ws := [0]) (m.same hs (fun x => x) (fun _ _ x => x)) hr (fun e => absurd e.symm (Nat.ne_of_lt m.lt)) (by simp) hn hz hc (by omega) (by omega)
 refine ⟨_, _, F2, ?_⟩
 simp only [SS, seval]
 have s3 : Aad h h2 (fun j => j = b \/ u = some j) := (hs.mono (T := fun j => j = b \/ u = some j) (fun _ x => x.elim)).trans hs2 (fun _ _ x => x)
 rw [Aab h h2 s3.mq]
 obtain ⟨u', hm1, hm2⟩ := hm
 exact ⟨⟨u', hm1, fun y hy => (hm2 y hy).imp_right (fun e => Nat.le_trans hs.nq e)⟩, s3⟩
theorem A37 {h : Aac} {b : Nat} {u : Option Nat} {C : List Int} {z c o r : Int} (m : Aa2 h b u C z c o r) {x p cap : Nat} {q : Pr} (hl : Abq h x p 2 1 cap (Ady [q])) (hn : (C.length : Int) + 2 <= z) (hz : z <= 65536) (hc : 0 <= c /\ c < 1000000000) :
  Aah P 51 [(pp b), .slice (some ⟨x, p, none⟩) 1 cap] h fun v h' => v = I (((C.length : Int) + 1) * 8 + 2) /\ (∃ u', Aa2 h' b u' (C ++ [q.1, q.2]) z (c + 1) o r /\ (∀ x, u' = some x -> u = some x \/ h.nq <= x)) /\ Aad h h' (fun j => j = b \/ u = some j) := by
 refine Aaa hT H.f63 rfl ?_
 obtain ⟨v, h1, F, rfl, hr, hs⟩ := Ako hT H h q.1 q.2
 obtain ⟨v2, h2, F2, rfl, hm, hs2⟩ := Al6 hT H (k := 2) (ws := [q.1, q.2]) (m.same hs (fun x => x) (fun _ _ x => x)) hr (fun e => absurd e.symm (Nat.ne_of_lt m.lt)) (by simp) hn hz hc (by omega) (by omega)
 have r0 : h.rd x p = some (I q.1) := hl.rd (i := 0) (by omega)
 have r1 : h.rd x (p + 1) = some (I q.2) := hl.rd (i := 1) (by omega)
 simp only [SS, seval, af51]
 refine ⟨Ad9 85 _ h _ h1 (Ad9 84 _ h1 _ h2 Agy), Aba F (Aba F2 Abo), ?_⟩
 have g1 := @Abd 85 [I q.1, I q.2] h (.slice (some ⟨h.nq, 0, none⟩) 2 2) h1 (Ad9 84 [(pp b), I 2, .slice (some ⟨h.nq, 0, none⟩) 2 2] h1 (I (((C.length : Int) + 1) * 8 + 2)) h2 Agy)
 have g2 : Ad9 85 [I q.1, I q.2] h (.slice (some ⟨h.nq, 0, none⟩) 2 2) h1 (Ad9 84 [(pp b), I 2, .slice (some ⟨h.nq, 0, none⟩) 2 2] h1 (I (((C.length : Int) + 1) * 8 + 2)) h2 Agy) (.fn 84) [(pp b), I 2, .slice (some ⟨h.nq, 0, none⟩) 2 2] h1 = some (I (((C.length : Int) + 1) * 8 + 2), h2) := by rw [Acd (by decide)]; exact Abd
 simp only [SS, seval, r0, r1, g1, g2]
 have s3 : Aad h h2 (fun j => j = b \/ u = some j) := (hs.mono (T := fun j => j = b \/ u = some j) (fun _ x => x.elim)).trans hs2 (fun _ _ x => x)
 rw [Aab h h2 s3.mq]
 obtain ⟨u', hm1, hm2⟩ := hm
 exact ⟨⟨u', hm1, fun y hy => (hm2 y hy).imp_right (fun e => Nat.le_trans hs.nq e)⟩, s3⟩
include Nu
structure A81 (h : Aac) (b x p cap : Nat) (u : Option Nat) (C : List Int) (z c o r : Int) (f : Nat) (l : List Pr) (i : Nat) (ts : T Value) (h' : Aac) : Prop where
 t0 : look ts 0 = (pp b)
 t1 : look ts 1 = .slice (some ⟨x, p, none⟩) l.length cap
 t5 : look ts 5 = I l.length
 t32 : look ts 32 = I (Aar l.length)
 t33 : look ts 33 = I i
 le : i <= Aar l.length
 ex : ∃ uk uc u' c', look ts 6 = Aal uk (i - 1) /\ look ts 7 = Aal uc i /\ Abh h' uk 1 (i - 1) ((Acl l i).map I) /\ Abh h' uc 1 i ((Aay (Abc f) l C.length i).1.map I) /\
  Aa2 h' b u' (C ++ (Aay (Abc f) l C.length i).2) z c' o r /\ c <= c' /\ c' <= c + (Aay (Abc f) l C.length i).2.length /\ (∀ y, u' = some y -> u = some y \/ h.nq <= y) /\ (∀ y, uk = some y -> h.nq <= y /\ u' ≠ some y) /\ (∀ y, uc = some y -> h.nq <= y /\ u' ≠ some y /\ uk ≠ some y)
 same : Aad h h' (fun j => j = b \/ u = some j)
theorem A0w : ∀ (f : Nat) (l : List Pr) (h : Aac) (b x p cap : Nat) (u : Option Nat) (C : List Int) (z c o r : Int), l.length < f -> l.length <= 120 -> 1 <= l.length -> Aa2 h b u C z c o r -> Abq h x p 2 l.length cap (Ady l) -> x ≠ b -> u ≠ some x -> (C.length : Int) + Abf l.length <= z -> z <= 65536 -> 0 <= c -> c + Abf l.length < 1000000000 ->
  Aah P 51 [(pp b), .slice (some ⟨x, p, none⟩) l.length cap] h fun v h' => v = I (Abc f l C.length).1 /\ (∃ u' c', Aa2 h' b u' (C ++ (Abc f l C.length).2) z c' o r /\ c <= c' /\ c' <= c + Abf l.length /\ (∀ y, u' = some y -> u = some y \/ h.nq <= y)) /\ Aad h h' (fun j => j = b \/ u = some j) := by
 intro f
 induction f with
 | zero => intro l h b x p cap u C z c o r hf; omega
 | succ f ih =>
  intro l h b x p cap u C z c o r hf hl h1 m hr hxb hxu hroom hz hc0 hc1
  by_cases h2 : 2 <= l.length
  ·have pn := Ac7 h2 hl
   rw [Afo h2]
   refine Aaa hT H.f63 rfl ?_
   have c0 : ((l.length : Int) == 0) = false := by rw [beq_eq_false_iff_ne]; omega
   have c1 : ((l.length : Int) == 1) = false := by rw [beq_eq_false_iff_ne]; omega
   simp only [SS, seval, af51, c0, c1]
   refine ⟨_, _, Nu.deg l.length hl h, ?_⟩
   simp only [SS, seval]
   refine Ac6 (fun k ts h' => ∃ i, k = Aar l.length - i /\ A81 h b x p cap u C z c o r f l i ts h') ?_ (n := Aar l.length) ⟨0, rfl, ?_⟩
   ·rintro k ts h' ⟨i, rfl, L⟩
    obtain ⟨uk, uc, u', c', t6, t7, ok, oc, mm, b1, b2, hu', gk, gc⟩ := L.ex
    have hb1 : b < h.nq := m.lt
    have hlen := Agi (f + 1) l C.length hf hl
    rw [Afo h2] at hlen
    simp only [List.length_append, List.length_cons, List.length_nil, Ac0, Age] at hlen
    by_cases hi : i < Aar l.length
    ·have hnext := pn.nq i hi
     have hone := pn.one i hi
     have hless := pn.less i hi
     have htop := pn.top i hi
     have d11 := pn.deg11
     have hpl := Abu h2 hl hi
     have ci : ((i : Int) < Aar l.length) = True := by simp [hi]
     have wfs : Aan .i64 ((Aa1 l.length i : Int) + Abs l.length i) = ((Aa1 l.length i + Abs l.length i : Nat) : Int) := by rw [Aav] <;> omega
     have wi : Aan .i64 ((i : Int) + 1) = ((i + 1 : Nat) : Int) := by rw [Aav] <;> omega
     have hcap := hr.cap
     have hmono : (Aay (Abc f) l C.length i).2.length + Abf (Aaq l i).length <= (Aay (Abc f) l C.length (Aar l.length)).2.length := by
      have e : (Aay (Abc f) l C.length (i + 1)).2.length = (Aay (Abc f) l C.length i).2.length + Abf (Aaq l i).length := by
       simp only [Aay, List.length_append]
       rw [Agi f (Aaq l i) _ (by omega) (by omega)]
      rw [<- e]
      exact Ay0 _ _ _ (by omega)
     have hCi : (C ++ (Aay (Abc f) l C.length i).2).length = C.length + (Aay (Abc f) l C.length i).2.length := by simp
     have hCz : ((C ++ (Aay (Abc f) l C.length i).2).length : Int) = (C.length : Int) + (Aay (Abc f) l C.length i).2.length := by rw [hCi]; simp
     have hxu' : u' ≠ some x := fun e => by
      rcases hu' x e with e2 | e2
      ·exact hxu e2
      ·have := hr.lt; omega
     refine Acf ?_
     simp only [SS, seval, L.t33, L.t32, ci, L.t5]
     refine ⟨_, _, Nu.frm l.length i h2 hl hi _, ?_⟩
     have hrk := hr.same L.same (fun hs => hs.elim hxb hxu)
     have l5 := L.t5
     rcases Nat.eq_zero_or_pos i with i0 | ip
     ·have k2e : ∃ k2, k2 = h' := ⟨_, rfl⟩
      obtain ⟨k2, k2e⟩ := k2e
      have uk2e : ∃ uk2, uk2 = uk := ⟨_, rfl⟩
      obtain ⟨uk2, uk2e⟩ := uk2e
      have i0 : ((i : Int) > 0) = False := by simp; omega
      have s12 : Aad h' k2 (fun j => uk = some j) := k2e ▸ Aad.refl _ _
      have s2 : Aad h k2 (fun j => j = b \/ u = some j) := k2e ▸ L.same
      have mk2 : Aa2 k2 b u' (C ++ (Aay (Abc f) l C.length i).2) z c' o r := k2e ▸ mm
      have oc2 : Abh k2 uc 1 i ((Aay (Abc f) l C.length i).1.map I) := k2e ▸ oc
      have hsub' := (hr.same s2 (fun hs => hs.elim hxb hxu)).sub (lo := Aa1 l.length i) (hi := Aa1 l.length i + Abs l.length i) (by omega) htop
      have hsub : Abq k2 x (p + Aa1 l.length i * 2) 2 (Aaq l i).length (cap - Aa1 l.length i) (Ady (Aaq l i)) := by
       rw [Aaq, Aha, Ag6]
       have e : Aa1 l.length i + Abs l.length i - Aa1 l.length i = Abs l.length i := by omega
       rw [e] at hsub'
       have e2 := hpl
       rw [Aaq] at e2
       rw [e2]; exact hsub'
      have sl2 := (hr.same s2 (fun hs => hs.elim hxb hxu)).cut (lo := Aa1 l.length i) (hi := Aa1 l.length i + Abs l.length i) (by omega) htop (by omega)
      have e : Aa1 l.length i + Abs l.length i - Aa1 l.length i = Abs l.length i := by omega
      rw [e] at sl2
      have gk2 : ∀ y, uk2 = some y -> h.nq <= y /\ u' ≠ some y := fun y hy => gk y (uk2e ▸ hy)
      have gck : ∀ y, uc = some y -> ¬ uk2 = some y := fun y hy e => (gc y hy).2.2 (uk2e ▸ e)
      have ok2 : Abh k2 uk2 1 (i + 1 - 1) ((Acl l (i + 1)).map I) := by
       have e1 : Acl l (i + 1) = Acl l i := by
        have : i = 0 := by omega
        subst this; rfl
       have e2 : i + 1 - 1 = i - 1 := by omega
       rw [e1, e2, k2e, uk2e]; exact ok
      have t6 : look ts 6 = Aal uk2 (i + 1 - 1) := by
       have e2 : i + 1 - 1 = i - 1 := by omega
       rw [e2, uk2e]; exact t6
      rw [<- k2e]
      obtain ⟨v3, h3, F3, rfl, ⟨u3, c3, m3, b31, b32, n3⟩, s3⟩ := ih (Aaq l i) k2 b x (p + Aa1 l.length i * 2) (cap - Aa1 l.length i) u' _ z c' o r (by omega) (by omega) (by omega) mk2 hsub hxb hxu' (by omega) hz (by omega) (by omega)
      have sk3 : Aad h h3 (fun j => j = b \/ u = some j) := s2.trans s3 (fun j hj hs => hs.elim .inl (fun e => by
       rcases hu' j e with e2 | e2
       ·exact .inr e2
       ·omega))
      have hcell : Abq (h3.new ⟨[I (Abc f (Aaq l i) (C ++ (Aay (Abc f) l C.length i).2).length).1], 1, 1, true, false⟩) h3.nq 0 1 1 1 [I (Abc f (Aaq l i) (C ++ (Aay (Abc f) l C.length i).2).length).1] := Abq.fresh h3 [I (Abc f (Aaq l i) (C ++ (Aay (Abc f) l C.length i).2).length).1] 1 1 true false rfl
      have s4 : Aad h3 (h3.new ⟨[I (Abc f (Aaq l i) (C ++ (Aay (Abc f) l C.length i).2).length).1], 1, 1, true, false⟩) (fun _ => False) := Aad.new
      have oc3 : Abh h3 uc 1 i ((Aay (Abc f) l C.length i).1.map I) := oc2.same s3 (fun y hy hs => hs.elim (fun e => by have := (gc y hy).1; omega) (fun e => (gc y hy).2.1 e))
      obtain ⟨uc', k5, ha5, oc5, s5, n5⟩ := Ad5 (bytes := 8) (oc3.same s4 (fun _ _ x => x)) hcell.src rfl rfl (Nat.le_refl _) (by omega) (by omega)
      have t5 : Aad h3 k5 (fun j => uc = some j) := (s4.mono (T := fun j => uc = some j) (fun _ x => x.elim)).trans s5 (fun _ _ x => x)
      have sk5 : Aad h k5 (fun j => j = b \/ u = some j) := sk3.trans t5 (fun j hj e => by have := (gc j e).1; omega)
      have hpl' := hpl
      simp only [SS, seval, L.t0, L.t1, L.t5, L.t33, t6, t7, l5, i0]
      refine ⟨_, _, Nu.siz l.length i h2 hl hi _, ?_⟩
      simp only [SS, seval, L.t0, L.t1, L.t5, L.t33, t6, t7, l5, wfs, sl2]
      rw [<- hpl]
      refine ⟨_, _, F3, ?_⟩
      simp only [SS, seval, L.t0, L.t1, L.t5, L.t33, t6, t7, l5, ha5, wi]
      have un3 : ∀ y, u3 = some y -> y < h3.nq := fun y hy => (m3.use y hy).2.2.1
      have un : ∀ y, u' = some y -> y < h'.nq := fun y hy => (mm.use y hy).2.2.1
      have cn : ∀ y, uc = some y -> y < h'.nq := fun y hy => (oc.use y hy).2.1
      have kn : ∀ y, uk2 = some y -> y < k2.nq := fun y hy => (ok2.use y hy).2.1
      have nx1 := s12.nq
      have nx3 := s3.nq
      have nx4 := s4.nq
      have nx5 := s5.nq
      have nx0 := L.same.nq
      have nn : (h3.new ⟨[I (Abc f (Aaq l i) (C ++ (Aay (Abc f) l C.length i).2).length).1], 1, 1, true, false⟩).nq = h3.nq + 1 := rfl
      refine ⟨Aar l.length - (i + 1), by omega, i + 1, rfl, ⟨by simp only [SS, seval, L.t0], by simp only [SS, seval, L.t1], by simp only [SS, seval, L.t5], by simp only [SS, seval, L.t32], by simp only [SS, seval], by omega, ⟨uk2, uc', u3, c3, ?_, by simp only [SS, seval], ?_, ?_, ?_, by omega, ?_, ?_, ?_, ?_⟩, sk5⟩⟩
      ·simp only [SS, seval, t6] <;> rfl
      ·refine (ok2.same s3 (fun y hy hs => hs.elim (fun e => ?_) (fun e => (gk2 y hy).2 e))).same t5 (fun y hy e => ?_)
       ·have := (gk2 y hy).1; omega
       ·exact (gck y e).elim hy
      ·have e : (Aay (Abc f) l C.length (i + 1)).1.map I = (Aay (Abc f) l C.length i).1.map I ++ [I (Abc f (Aaq l i) (C ++ (Aay (Abc f) l C.length i).2).length).1] := by
        simp only [Aay, List.map_append, List.map_cons, List.map_nil, hCi]
       rw [e]; exact oc5
      ·have e : C ++ (Aay (Abc f) l C.length (i + 1)).2 = C ++ (Aay (Abc f) l C.length i).2 ++ (Abc f (Aaq l i) (C ++ (Aay (Abc f) l C.length i).2).length).2 := by
        simp only [Aay, hCi, List.append_assoc]
       rw [e]
       exact m3.same t5 (fun e => by have := (gc b e).1; omega) (fun y hy e => by
        have h1 := gc y e
        rcases n3 y hy with e2 | e2
        ·exact h1.2.1 e2
        ·have := cn y e; omega)
      ·simp only [Aay, List.length_append]
       have e := Agi f (Aaq l i) (C.length + (Aay (Abc f) l C.length i).2.length) (by omega) (by omega)
       rw [e]; omega
      ·intro y hy
       rcases n3 y hy with e2 | e2
       ·exact hu' y e2
       ·exact .inr (by omega)
      ·intro y hy
       refine ⟨(gk2 y hy).1, fun e => ?_⟩
       rcases n3 y e with e2 | e2
       ·exact (gk2 y hy).2 e2
       ·have := kn y hy; omega
      ·intro y hy
       rcases n5 y hy with e | e
       ·refine ⟨(gc y e).1, fun e1 => ?_, fun e1 => (gck y e).elim e1⟩
        rcases n3 y e1 with e2 | e2
        ·exact (gc y e).2.1 e2
        ·have := cn y e; omega
       ·refine ⟨by omega, fun e1 => ?_, fun e1 => ?_⟩
        ·have := un3 y e1; omega
        ·have := kn y e1; omega
     ·have i0 : ((i : Int) > 0) = True := by simp; omega
      have hfl : Aa1 l.length i < l.length := by omega
      have cg : ((Aa1 l.length i : Int) < (l.length : Int)) = True := by simp; omega
      have rk : h'.rd x (p + Aa1 l.length i * 2) = some (I l[Aa1 l.length i].1) := by
       rw [hrk.rd (by omega)]; exact Afs l _ hfl
      have hkc : Abq (h'.new ⟨[I l[Aa1 l.length i].1], 1, 1, true, false⟩) h'.nq 0 1 1 1 [I l[Aa1 l.length i].1] := Abq.fresh h' [I l[Aa1 l.length i].1] 1 1 true false rfl
      have s1 : Aad h' (h'.new ⟨[I l[Aa1 l.length i].1], 1, 1, true, false⟩) (fun _ => False) := Aad.new
      obtain ⟨uk2, k2, ha1, ok2', sa, na⟩ := Ad5 (bytes := 8) (ok.same s1 (fun _ _ x => x)) hkc.src rfl rfl (Nat.le_refl _) (by omega) (by omega)
      have s12 : Aad h' k2 (fun j => uk = some j) := (s1.mono (T := fun j => uk = some j) (fun _ x => x.elim)).trans sa (fun _ _ x => x)
      have s2 : Aad h k2 (fun j => j = b \/ u = some j) := L.same.trans s12 (fun j hj e => by have := (gk j e).1; omega)
      have mk2 := mm.same s12 (fun e => by have := (gk b e).1; omega) (fun y hy e => (gk y e).2 hy)
      have oc2 := oc.same s12 (fun y hy e => (gc y hy).2.2 e)
      have hsub' := (hr.same s2 (fun hs => hs.elim hxb hxu)).sub (lo := Aa1 l.length i) (hi := Aa1 l.length i + Abs l.length i) (by omega) htop
      have hsub : Abq k2 x (p + Aa1 l.length i * 2) 2 (Aaq l i).length (cap - Aa1 l.length i) (Ady (Aaq l i)) := by
       rw [Aaq, Aha, Ag6]
       have e : Aa1 l.length i + Abs l.length i - Aa1 l.length i = Abs l.length i := by omega
       rw [e] at hsub'
       have e2 := hpl
       rw [Aaq] at e2
       rw [e2]; exact hsub'
      have sl2 := (hr.same s2 (fun hs => hs.elim hxb hxu)).cut (lo := Aa1 l.length i) (hi := Aa1 l.length i + Abs l.length i) (by omega) htop (by omega)
      have e : Aa1 l.length i + Abs l.length i - Aa1 l.length i = Abs l.length i := by omega
      rw [e] at sl2
      have gk2 : ∀ y, uk2 = some y -> h.nq <= y /\ u' ≠ some y := fun y hy => by
       rcases na y hy with e | e
       ·exact gk y e
       ·have hq := L.same.nq
        refine ⟨by rw [e, Aet]; omega, fun e2 => ?_⟩
        have := (mm.use y e2).2.2.1
        rw [e, Aet] at this; omega
      have gck : ∀ y, uc = some y -> ¬ uk2 = some y := fun y hy e => by
       rcases na y e with e2 | e2
       ·exact (gc y hy).2.2 e2
       ·have := (oc.use y hy).2.1
        rw [e2, Aet] at this; omega
      have eki : (Acl l (i + 1)).map I = (Acl l i).map I ++ [I l[Aa1 l.length i].1] := by
       rw [Acl, if_neg (by omega)]
       simp [List.getElem?_eq_getElem hfl]
      have ei : i - 1 + 1 = i + 1 - 1 := by omega
      have ok2 : Abh k2 uk2 1 (i + 1 - 1) ((Acl l (i + 1)).map I) := by rw [eki, <- ei]; exact ok2'
      rw [ei] at ha1
      obtain ⟨v3, h3, F3, rfl, ⟨u3, c3, m3, b31, b32, n3⟩, s3⟩ := ih (Aaq l i) k2 b x (p + Aa1 l.length i * 2) (cap - Aa1 l.length i) u' _ z c' o r (by omega) (by omega) (by omega) mk2 hsub hxb hxu' (by omega) hz (by omega) (by omega)
      have sk3 : Aad h h3 (fun j => j = b \/ u = some j) := s2.trans s3 (fun j hj hs => hs.elim .inl (fun e => by
       rcases hu' j e with e2 | e2
       ·exact .inr e2
       ·omega))
      have hcell : Abq (h3.new ⟨[I (Abc f (Aaq l i) (C ++ (Aay (Abc f) l C.length i).2).length).1], 1, 1, true, false⟩) h3.nq 0 1 1 1 [I (Abc f (Aaq l i) (C ++ (Aay (Abc f) l C.length i).2).length).1] := Abq.fresh h3 [I (Abc f (Aaq l i) (C ++ (Aay (Abc f) l C.length i).2).length).1] 1 1 true false rfl
      have s4 : Aad h3 (h3.new ⟨[I (Abc f (Aaq l i) (C ++ (Aay (Abc f) l C.length i).2).length).1], 1, 1, true, false⟩) (fun _ => False) := Aad.new
      have oc3 : Abh h3 uc 1 i ((Aay (Abc f) l C.length i).1.map I) := oc2.same s3 (fun y hy hs => hs.elim (fun e => by have := (gc y hy).1; omega) (fun e => (gc y hy).2.1 e))
      obtain ⟨uc', k5, ha5, oc5, s5, n5⟩ := Ad5 (bytes := 8) (oc3.same s4 (fun _ _ x => x)) hcell.src rfl rfl (Nat.le_refl _) (by omega) (by omega)
      have t5 : Aad h3 k5 (fun j => uc = some j) := (s4.mono (T := fun j => uc = some j) (fun _ x => x.elim)).trans s5 (fun _ _ x => x)
      have sk5 : Aad h k5 (fun j => j = b \/ u = some j) := sk3.trans t5 (fun j hj e => by have := (gc j e).1; omega)
      have hpl' := hpl
      simp only [SS, seval, L.t0, L.t1, L.t5, L.t33, t6, t7, l5, i0, cg, rk, ha1]
      refine ⟨_, _, Nu.siz l.length i h2 hl hi _, ?_⟩
      simp only [SS, seval, L.t0, L.t1, L.t5, L.t33, t6, t7, l5, wfs, sl2]
      rw [<- hpl]
      refine ⟨_, _, F3, ?_⟩
      simp only [SS, seval, L.t0, L.t1, L.t5, L.t33, t6, t7, l5, ha5, wi]
      have un3 : ∀ y, u3 = some y -> y < h3.nq := fun y hy => (m3.use y hy).2.2.1
      have un : ∀ y, u' = some y -> y < h'.nq := fun y hy => (mm.use y hy).2.2.1
      have cn : ∀ y, uc = some y -> y < h'.nq := fun y hy => (oc.use y hy).2.1
      have kn : ∀ y, uk2 = some y -> y < k2.nq := fun y hy => (ok2.use y hy).2.1
      have nx1 := s12.nq
      have nx3 := s3.nq
      have nx4 := s4.nq
      have nx5 := s5.nq
      have nx0 := L.same.nq
      have nn : (h3.new ⟨[I (Abc f (Aaq l i) (C ++ (Aay (Abc f) l C.length i).2).length).1], 1, 1, true, false⟩).nq = h3.nq + 1 := rfl
      refine ⟨Aar l.length - (i + 1), by omega, i + 1, rfl, ⟨by simp only [SS, seval, L.t0], by simp only [SS, seval, L.t1], by simp only [SS, seval, L.t5], by simp only [SS, seval, L.t32], by simp only [SS, seval], by omega, ⟨uk2, uc', u3, c3, ?_, by simp only [SS, seval], ?_, ?_, ?_, by omega, ?_, ?_, ?_, ?_⟩, sk5⟩⟩
      ·simp only [SS, seval, t6] <;> rfl
      ·refine (ok2.same s3 (fun y hy hs => hs.elim (fun e => ?_) (fun e => (gk2 y hy).2 e))).same t5 (fun y hy e => ?_)
       ·have := (gk2 y hy).1; omega
       ·exact (gck y e).elim hy
      ·have e : (Aay (Abc f) l C.length (i + 1)).1.map I = (Aay (Abc f) l C.length i).1.map I ++ [I (Abc f (Aaq l i) (C ++ (Aay (Abc f) l C.length i).2).length).1] := by
        simp only [Aay, List.map_append, List.map_cons, List.map_nil, hCi]
       rw [e]; exact oc5
      ·have e : C ++ (Aay (Abc f) l C.length (i + 1)).2 = C ++ (Aay (Abc f) l C.length i).2 ++ (Abc f (Aaq l i) (C ++ (Aay (Abc f) l C.length i).2).length).2 := by
        simp only [Aay, hCi, List.append_assoc]
       rw [e]
       exact m3.same t5 (fun e => by have := (gc b e).1; omega) (fun y hy e => by
        have h1 := gc y e
        rcases n3 y hy with e2 | e2
        ·exact h1.2.1 e2
        ·have := cn y e; omega)
      ·simp only [Aay, List.length_append]
       have e := Agi f (Aaq l i) (C.length + (Aay (Abc f) l C.length i).2.length) (by omega) (by omega)
       rw [e]; omega
      ·intro y hy
       rcases n3 y hy with e2 | e2
       ·exact hu' y e2
       ·exact .inr (by omega)
      ·intro y hy
       refine ⟨(gk2 y hy).1, fun e => ?_⟩
       rcases n3 y e with e2 | e2
       ·exact (gk2 y hy).2 e2
       ·have := kn y hy; omega
      ·intro y hy
       rcases n5 y hy with e | e
       ·refine ⟨(gc y e).1, fun e1 => ?_, fun e1 => (gck y e).elim e1⟩
        rcases n3 y e1 with e2 | e2
        ·exact (gc y e).2.1 e2
        ·have := cn y e; omega
       ·refine ⟨by omega, fun e1 => ?_, fun e1 => ?_⟩
        ·have := un3 y e1; omega
        ·have := kn y e1; omega
    ·have hi : i = Aar l.length := by have := L.le; omega
     subst hi
     have ci : ((Aar l.length : Int) < Aar l.length) = False := by simp
     have eK : (Acl l (Aar l.length)).length = Aar l.length - 1 := Ac0 l _
     have eW : (Aay (Abc f) l C.length (Aar l.length)).1.length = Aar l.length := Age _ _ _ _
     have d2 := pn.deg2
     have d11 := pn.deg11
     refine Acf ?_
     simp only [SS, seval, L.t33, L.t32, ci, L.t0, L.t5, t6, t7]
     obtain ⟨y, rfl⟩ : ∃ y, uk = some y := by
      cases hk : uk with
      | none => have := ok.non hk; omega
      | some y => exact ⟨y, rfl⟩
     obtain ⟨w, rfl⟩ : ∃ y, uc = some y := by
      cases hk : uc with
      | none => have := oc.non hk; omega
      | some y => exact ⟨y, rfl⟩
     obtain ⟨v1, k1, F1, x1, hx1, rfl, r1, s1⟩ := Av8 hT H (h := h') (uk := y) (uc := w) (n := (l.length : Int)) (K := Acl l (Aar l.length)) (W := (Aay (Abc f) l C.length (Aar l.length)).1) (by rw [eK]; exact ok) (by rw [eW]; exact oc) (fun e => by rw [e] at eK; simp at eK; omega) (by omega) (by omega)
     rw [eK, eW] at F1
     refine ⟨_, _, F1, ?_⟩
     simp only [SS, seval, L.t0]
     have mm1 := mm.same s1 (fun x => x) (fun _ _ x => x)
     have hws : ([((Aay (Abc f) l C.length (Aar l.length)).1.length : Int), (l.length : Int), 0, 0, 0] ++ Acl l (Aar l.length) ++ (Aay (Abc f) l C.length (Aar l.length)).1).length = 5 + (Aar l.length - 1) + Aar l.length := by simp only [List.length_append, List.length_cons, List.length_nil, Ac0, Age]
     have hCl : (C ++ (Aay (Abc f) l C.length (Aar l.length)).2).length = C.length + (Aay (Abc f) l C.length (Aar l.length)).2.length := by simp
     have hlt := L.same.nq
     obtain ⟨v2, k2, F2, rfl, ⟨u2, m2, n2⟩, s2⟩ := Al6 hT H (k := 3) mm1 r1 (fun e => by omega) (by simp) (by rw [hws, hCl]; omega) hz ⟨by omega, by omega⟩ (by omega) (by omega)
     refine ⟨_, _, F2, ?_⟩
     simp only [SS, seval]
     have s3 : Aad h k2 (fun j => j = b \/ u = some j) := (L.same.trans s1 (fun _ _ x => x.elim)).trans s2 (fun j hj hs => hs.elim .inl (fun e => by
      rcases hu' j e with e2 | e2
      ·exact .inr e2
      ·omega))
     rw [Aab h k2 s3.mq]
     refine ⟨by rw [hCl], ⟨u2, c' + 1, ?_, by omega, by omega, fun y hy => ?_⟩, s3⟩
     ·rw [List.append_assoc] at m2
      rw [eW] at m2
      exact m2
     ·rcases n2 y hy with e | e
      ·exact hu' y e
      ·exact .inr (Nat.le_trans L.same.nq (Nat.le_trans s1.nq e))
   ·refine ⟨by simp only [SS, seval], by simp only [SS, seval], by simp only [SS, seval], by simp only [SS, seval], by simp only [SS, seval] <;> rfl, Nat.zero_le _, ⟨none, none, u, c, by simp only [SS, seval] <;> rfl, by simp only [SS, seval] <;> rfl, Abh.nil _ _, Abh.nil _ _, by simpa [Aay] using m, Int.le_refl _, by simp [Aay], fun y hy => .inl hy, by simp, by simp⟩, Aad.refl _ _⟩
  ·match l, h1, h2 with
   | [q], _, _ =>
    obtain ⟨v, h', F, rfl, ⟨u', g1, g2⟩, g3⟩ := A37 hT H m hr (by simpa [Abf, Atl] using hroom) hz ⟨hc0, by omega⟩
    exact ⟨_, _, F, rfl, ⟨u', c + 1, g1, by omega, by simp [Abf, Atl], g2⟩, g3⟩
   | _ :: _ :: _, _, h2 => simp at h2
end
theorem As4 {W : World} {k : IntKind} {x : Addr} {len cap : Nat} {zs : List Int} (hl : len <= cap) (hz : zs.length = cap) (h : ∀ i, i < zs.length -> W.cell? (x.add i) = some (.int k (zs.getD i 0))) : Ap6 W (some x) 1 len cap (zs.map (.int k)) := by
 refine .inr ⟨x, rfl, hl, by simp [hz], fun i v hv => ?_, by simp [Acu]⟩
 have hi : i < zs.length := by
  have := (List.getElem?_eq_some_iff.1 hv).1
  simpa using this
 rw [h i hi]
 simp only [List.getElem?_map, List.getElem?_eq_getElem hi, Option.map_some, Option.some.injEq] at hv
 rw [<- hv]; simp [hi]
theorem Adx.ints {h : Aac} {v : Value} {n : Nat} {L : List Int} {u : Option Nat} (a : Adx h v 1 n (L.map I) u) (hn : L.length = n) : Ah5 h v L := by
 rcases a with ⟨rfl, hc, e⟩ | ⟨x, p, cap, _, e, r⟩
 ·have : L = [] := List.eq_nil_of_length_eq_zero hn
  refine .inl ⟨this, ?_⟩
  rcases e with rfl | ⟨b, o, k, rfl⟩ <;> exact ⟨_, _, rfl⟩
 ·rw [<- hn] at e r
  exact .inr ⟨x, p, cap, e, r⟩
theorem Ap6.ints_len {w : World} {a : Option Addr} {len cap : Nat} {k : IntKind} {z : List Int} (r : Ap6 w a 1 len cap (z.map (.int k))) : len <= cap /\ z.length = cap := by
 rcases r with ⟨_, rfl, rfl, e⟩ | ⟨_, _, a, b, _⟩
 ·have : (z.map (Value.int k)).length = 0 := by rw [e]; rfl
  rw [List.length_map] at this; omega
 ·rw [List.length_map] at b; omega
theorem Adx.ints' {h : Aac} {v : Value} {len : Nat} {z : List Int} {u : Option Nat} (a : Adx h v 1 len ((z.map I).take (len * 1)) u) (hl : len <= z.length) : Ah5 h v (z.take len) := by
 rw [Nat.mul_one, <- List.map_take] at a
 exact Adx.ints a (by rw [List.length_take]; omega)
def Asc (l : List Pr) : Prop := ∀ j (h : j + 1 < l.length), l[j].1 < l[j + 1].1
def Asp (h : Aac) (v : Value) (l : List Pr) (u : Option Nat) : Prop :=
 (l = [] /\ ∃ base cap, v = .slice base 0 cap) \/ ∃ x p cap, u = some x /\ v = .slice (some ⟨x, p, none⟩) l.length cap /\ 1 <= l.length /\ Abq h x p 2 l.length cap (Ady l)
theorem Asp.same {h h' : Aac} {v : Value} {l : List Pr} {u : Option Nat} {S : Nat -> Prop} (a : Asp h v l u) (s : Aad h h' S) (hu : ∀ x, u = some x -> ¬ S x) : Asp h' v l u := by
 rcases a with a | ⟨x, p, cap, e1, e2, e3, e4⟩
 ·exact .inl a
 ·exact .inr ⟨x, p, cap, e1, e2, e3, e4.same s (hu x e1)⟩
section
variable (hT : Aa0 P tab) (H : Has tab)
include hT H
theorem Ai9 {h : Aac} {b : Nat} {u : Option Nat} {C : List Int} {z c o r : Int} (m : Aa2 h b u C z c o r) : Aah P 46 [(pp b)] h fun v h' => v = I C.length /\ h' = h := by
 refine Aaa hT H.f20 rfl ?_
 simp only [SS, seval, af46, m.rd0]
theorem Apx {h : Aac} {b : Nat} {u : Option Nat} {C : List Int} {z c o r : Int} (m : Aa2 h b u C z c o r) : Aah P 47 [(pp b)] h fun v h' => v = I z /\ h' = h := by
 refine Aaa hT H.f62 rfl ?_
 simp only [SS, seval, af47, m.rd1]
theorem A1z {h : Aac} {b : Nat} {u : Option Nat} {C : List Int} {z c o r : Int} (m : Aa2 h b u C z c o r) : Aah P 27 [(pp b)] h fun v h' => v = I o /\ h' = h := by
 refine Aaa hT H.f40 rfl ?_
 simp only [SS, seval, af27, m.rd3]
theorem A06 (h : Aac) (z : Int) (h1 : 1 <= z) (h2 : z <= 65536) : Aah P 30 [I z] h fun v h' => v = .tuple #[(pp h.nq), I 0] /\ Aa2 h' h.nq none [] z 0 0 0 /\ Aad h h' (fun _ => False) := by
 refine Aaa hT H.f14 rfl ?_
 have c1 : (z < 1) = False := by simp; omega
 have c2 : (z > 65536) = False := by simp; omega
 simp only [SS, seval, af30, c1, c2]
 exact ⟨⟨by rw [Aa5]; exact if_pos rfl, fun x hx => (by cases hx), fun _ => rfl, Nat.lt_succ_self _⟩, Aad.new⟩
theorem Atb (h : Aac) (n k : Int) (k0 : 0 < k) (k1 : k < 1000000) : Aah P 8 [I n, I k] h fun v h' => v = I (n % k) /\ h' = h := by
 refine Aaa hT H.f24 rfl ?_
 have ck : (k = 0) = False := by simp; omega
 have em := Int.emod_nonneg n (show k ≠ 0 by omega)
 have el := Int.emod_lt_of_pos n k0
 have hk := Auk n k k0
 by_cases hm : n.tmod k < 0
 ·have e : n.tmod k + k = n % k := by omega
  have w : Aan .i64 (n % k) = n % k := Aav (by omega) (by omega)
  simp only [SS, seval, af8, ck, hm, e, w]
 ·have e : n.tmod k = n % k := by omega
  simp only [SS, seval, af8, ck, hm]
  rw [e]
theorem Am6 {h : Aac} {v : Value} {l : List Pr} {u : Option Nat} (a : Asp h v l u) (hl : l.length < 1000000) : Aah P 49 [v] h fun v h' => (v = .bool true /\ Asc l /\ l.length <= 16384 \/ v = .bool false /\ ¬ (Asc l /\ l.length <= 16384)) /\ h' = h := by
 refine Aaa hT H.f30 rfl ?_
 rcases a with ⟨rfl, base, cap, rfl⟩ | ⟨x, p, cap, rfl, rfl, hpos, hr⟩
 ·simp only [SS, seval, af49]
  refine Apt (Acm ?_)
  simp only [SS, seval]
  first | exact .inl ⟨fun j hj => by simp at hj, by simp⟩ | exact .inl (fun j hj => absurd hj (Nat.not_lt_zero _))
 ·simp only [SS, seval, af49]
  refine Ac6 (fun k ts h' => ∃ i : Nat, k = l.length - i /\ 1 <= i /\ i <= l.length /\ h' = h /\ look ts 0 = .slice (some ⟨x, p, none⟩) l.length cap /\ look ts 3 = I i /\ ∀ j (hj : j + 1 < l.length), j + 1 < i -> l[j].1 < l[j + 1].1) ?_ (n := l.length - 1) ⟨1, rfl, Nat.le_refl _, hpos, rfl, by simp only [SS, seval], by simp only [SS, seval] <;> rfl, fun j hj h1 => by omega⟩
  rintro k ts h' ⟨i, rfl, i1, i2, rfl, t0, t3, hasc⟩
  refine Acf ?_
  by_cases hi : i < l.length
  ·have ci : ((i : Int) < l.length) = True := by simp [hi]
   have w1 : Aan .i64 ((i : Int) - 1) = ((i - 1 : Nat) : Int) := by rw [Aav] <;> omega
   have wi : Aan .i64 ((i : Int) + 1) = ((i + 1 : Nat) : Int) := by rw [Aav] <;> omega
   have c2 : (((i - 1 : Nat) : Int) < l.length) = True := by simp; omega
   have r1 : h'.rd x (p + i * 2) = some (I l[i].1) := by rw [hr.rd (by omega)]; exact Afs l i hi
   have r2 : h'.rd x (p + (i - 1) * 2) = some (I l[i - 1].1) := by rw [hr.rd (by omega)]; exact Afs l (i - 1) (by omega)
   simp only [SS, seval, t0, t3, ci]
   refine ⟨Agy, Abo, ?_⟩
   by_cases hc : l[i].1 <= l[i - 1].1
   ·simp only [SS, seval, t0, t3, ci, w1, c2, r1, r2, hc]
    refine .inr (fun ha => ?_)
    have := ha.1 (i - 1) (by omega)
    have e : i - 1 + 1 = i := by omega
    simp only [e] at this
    omega
   ·simp only [SS, seval, t0, t3, ci, w1, c2, r1, r2, hc, wi]
    refine ⟨l.length - (i + 1), by omega, i + 1, rfl, by omega, by omega, rfl, fun j hj hji => ?_⟩
    by_cases hj2 : j + 1 < i
    ·exact hasc j hj hj2
    ·have e : j = i - 1 := by omega
     subst e
     have e : i - 1 + 1 = i := by omega
     simp only [e]
     omega
  ·have ci : ((i : Int) < l.length) = False := by simp; omega
   have ha : Asc l := fun j hj => hasc j hj (by omega)
   by_cases hb : (l.length : Int) <= 16384
   ·simp only [SS, seval, t0, t3, ci, hb]
    exact .inl ⟨ha, by omega⟩
   ·simp only [SS, seval, t0, t3, ci, hb]
    exact .inr (fun hx => by omega)
end
theorem Asp.len {h : Aac} {v : Value} {l : List Pr} {u : Option Nat} (a : Asp h v l u) : ∃ base cap, v = .slice base l.length cap := by
 rcases a with ⟨rfl, base, cap, rfl⟩ | ⟨x, p, cap, _, rfl, _, _⟩
 ·exact ⟨_, _, rfl⟩
 ·exact ⟨_, _, rfl⟩
section
variable (hT : Aa0 P tab) (H : Has tab)
include hT H
theorem Au0 {h : Aac} {v : Value} {l : List Pr} {u : Option Nat} (a : Asp h v l u) (hl : l.length < 1000000) (k : Int) : Aah P 52 [v, I k] h fun v h' => (∃ n : Nat, v = I n /\ n <= l.length /\ (∀ j (hj : j < l.length), j < n -> l[j].1 < k) /\ ∀ hn : n < l.length, ¬ l[n].1 < k) /\ h' = h := by
 refine Aaa hT H.f104 rfl ?_
 rcases a with ⟨rfl, base, cap, rfl⟩ | ⟨x, p, cap, rfl, rfl, hpos, hr⟩
 ·simp only [SS, seval, af52]
  refine Apt (Acm ?_)
  simp only [SS, seval]
  exact ⟨0, rfl, Nat.le_refl _, fun j hj => by simp at hj, fun hn => by simp at hn⟩
 ·simp only [SS, seval, af52]
  refine Ac6 (fun m ts h' => ∃ i : Nat, m = l.length - i /\ i <= l.length /\ h' = h /\ look ts 0 = .slice (some ⟨x, p, none⟩) l.length cap /\ look ts 1 = I k /\ look ts 5 = I i /\ ∀ j (hj : j < l.length), j < i -> l[j].1 < k) ?_ (n := l.length) ⟨0, rfl, Nat.zero_le _, rfl, by simp only [SS, seval], by simp only [SS, seval], by simp only [SS, seval] <;> rfl, fun j hj h1 => by omega⟩
  rintro m ts h' ⟨i, rfl, i2, rfl, t0, t1, t5, hk⟩
  refine Acf ?_
  by_cases hi : i < l.length
  ·have ci : ((i : Int) < l.length) = True := by simp [hi]
   have wi : Aan .i64 ((i : Int) + 1) = ((i + 1 : Nat) : Int) := by rw [Aav] <;> omega
   have r1 : h'.rd x (p + i * 2) = some (I l[i].1) := by rw [hr.rd (by omega)]; exact Afs l i hi
   by_cases hc : l[i].1 < k
   ·simp only [SS, seval, t0, t1, t5, ci, r1, hc, wi]
    refine ⟨l.length - (i + 1), by omega, i + 1, rfl, by omega, rfl, fun j hj hji => ?_⟩
    by_cases hj2 : j < i
    ·exact hk j hj hj2
    ·have e : j = i := by omega
     subst e; exact hc
   ·simp only [SS, seval, t0, t1, t5, ci, r1, hc]
    exact ⟨i, rfl, i2, hk, fun _ => hc⟩
  ·have ci : ((i : Int) < l.length) = False := by simp; omega
   simp only [SS, seval, t0, t1, t5, ci]
   exact ⟨i, rfl, i2, hk, fun hn => absurd hn hi⟩
omit hT H in
theorem A3y {l : List Pr} {k x : Int} {n n' : Nat} (ha : Asc l) (h1 : ∀ j (hj : j < l.length), j < n -> l[j].1 < k) (hn : n <= l.length) (h2 : ∀ j (hj : j < l.length), n' <= j -> k < l[j].1) : Asc (l.take n ++ [(k, x)] ++ l.drop n') := by
 intro j hj
 have hlen : (l.take n ++ [(k, x)] ++ l.drop n').length = n + 1 + (l.length - n') := by simp; omega
 rw [hlen] at hj
 have key : ∀ i (hi : i < (l.take n ++ [(k, x)] ++ l.drop n').length), (l.take n ++ [(k, x)] ++ l.drop n')[i]? = if i < n then l[i]? else if i = n then some (k, x) else l[n' + (i - (n + 1))]? := by
  intro i hi
  rw [List.append_assoc, List.getElem?_append]
  have hm : (l.take n).length = n := by simp; omega
  rw [hm]
  by_cases c1 : i < n
  ·rw [if_pos c1, if_pos c1, List.getElem?_take, if_pos c1]
  ·rw [if_neg c1, if_neg c1]
   by_cases c2 : i = n
   ·subst c2; simp
   ·rw [if_neg c2, List.getElem?_append_right (by simp; omega), List.getElem?_drop]
    congr 1
 have e1 := key j (by rw [hlen]; omega)
 have e2 := key (j + 1) (by rw [hlen]; omega)
 rw [List.getElem?_eq_getElem (by rw [hlen]; omega)] at e1 e2
 by_cases c1 : j + 1 < n
 ·rw [if_pos (by omega), List.getElem?_eq_getElem (by omega)] at e1
  rw [if_pos c1, List.getElem?_eq_getElem (by omega)] at e2
  rw [Option.some.inj e1, Option.some.inj e2]
  exact ha j (by omega)
 ·by_cases c2 : j + 1 = n
  ·rw [if_pos (by omega), List.getElem?_eq_getElem (by omega)] at e1
   rw [if_neg c1, if_pos c2] at e2
   rw [Option.some.inj e1, Option.some.inj e2]
   exact h1 j (by omega) (by omega)
  ·by_cases c3 : j = n
   ·rw [if_neg (by omega), if_pos c3] at e1
    rw [if_neg c1, if_neg c2, List.getElem?_eq_getElem (by omega)] at e2
    rw [Option.some.inj e1, Option.some.inj e2]
    exact h2 _ (by omega) (by omega)
   ·rw [if_neg (by omega), if_neg c3, List.getElem?_eq_getElem (by omega)] at e1
    rw [if_neg c1, if_neg c2, List.getElem?_eq_getElem (by omega)] at e2
    rw [Option.some.inj e1, Option.some.inj e2]
    have e : n' + (j + 1 - (n + 1)) = n' + (j - (n + 1)) + 1 := by omega
    simp only [e]
    exact ha _ (by omega)
omit hT H in
theorem A21 {l : List Pr} (ha : Asc l) : ∀ (i j : Nat) (hi : i < j) (hj : j < l.length), l[i].1 < l[j].1 := by
 intro i j hi
 induction j with
 | zero => omega
 | succ j ih =>
  intro hj
  have h1 := ha j hj
  by_cases c : i = j
  ·subst c; exact h1
  ·have := ih (by omega) (by omega)
   omega
omit hT H in
theorem Ah2 : ∀ (a b : List Pr), Ady (a ++ b) = Ady a ++ Ady b
 | [], b => rfl
 | p :: a, b => by simp [Ady, Ah2 a b]
omit hT H in
theorem Agk : ∀ (l : List Pr), (Ady l).all Aas = true
 | [] => rfl
 | p :: l => by simp [Ady, Aas, Agk l]
end
section
variable (hT : Aa0 P tab) (H : Has tab)
include hT H
end
section
variable (hT : Aa0 P tab) (H : Has tab)
include hT H
theorem Avu (Nu : Num P) {h : Aac} {v : Value} {l : List Pr} {ul : Option Nat} (a : Asp h v l ul) (hl : l.length <= 120) {b : Nat} {u : Option Nat} {C : List Int} {z c o r : Int} (m : Aa2 h b u C z c o r) (hb : ul ≠ some b) (hu : ∀ y, ul = some y -> u ≠ some y) (hC : (C.length : Int) <= z) (hz : z <= 65536) (hc0 : 0 <= c) (hc1 : c < 900000000) :
  Aah P 32 [(pp b), v] h fun v h' =>
   (v = .tuple #[I (Abc (l.length + 1) l C.length).1, .bool true] /\ Asc l /\ (C.length : Int) + Abf l.length <= z /\ (∃ u' c', Aa2 h' b u' (C ++ (Abc (l.length + 1) l C.length).2) z c' o r /\ c <= c' /\ c' <= c + Abf l.length /\ (∀ y, u' = some y -> u = some y \/ h.nq <= y)) /\ Aad h h' (fun j => j = b \/ u = some j)) \/
   (v = .tuple #[I 0, .bool false] /\ ¬ (Asc l /\ (C.length : Int) + Abf l.length <= z) /\ h' = h) := by
 generalize hW : Abc (l.length + 1) l C.length = W
 refine Aaa hT H.f27 rfl ?_
 obtain ⟨base, cap, hv⟩ := a.len
 have hcm : Abf l.length <= 1100 := by
  by_cases h2 : 2 <= l.length
  ·exact (Ac7 h2 hl).most
  ·have : l.length = 0 \/ l.length = 1 := by omega
   rcases this with e | e
   ·rw [e, Am1]; omega
   ·rw [e, Ate]; omega
 obtain ⟨v1, h1, F1, hr, rfl⟩ := Am6 hT H a (by omega)
 obtain ⟨v3, h3, F3, rfl, rfl⟩ := Apx hT H m
 obtain ⟨v4, h4, F4, rfl, rfl⟩ := Ai9 hT H m
 have wz : Aan .i64 (z - C.length) = z - C.length := Aav (by omega) (by omega)
 simp only [SS, seval, af32]
 refine ⟨_, _, F1, ?_⟩
 rcases hr with ⟨rfl, ha, hla⟩ | ⟨rfl, hn⟩
 ·have e : evs ((T.nil.put 0 v)) [.t 0] = [v] := by simp only [SS, seval]
  simp only [SS, seval]
  subst hv
  simp only [SS, seval]
  refine ⟨_, _, Nu.cel l.length hl _, ?_⟩
  simp only [SS, seval]
  refine ⟨_, _, F3, ?_⟩
  simp only [SS, seval]
  refine ⟨_, _, F4, ?_⟩
  by_cases hroom : (C.length : Int) + Abf l.length <= z
  ·have cr : ((Abf l.length : Int) > z - C.length) = False := by simp; omega
   simp only [SS, seval, wz, cr]
   rcases a with ⟨rfl, base', cap', hv'⟩ | ⟨x, p, cap', rfl, hv', hpos, hrd⟩
   ·cases hv'
    obtain ⟨v5, h5, F5, rfl, ⟨u', m5, n5⟩, s5⟩ := A33 hT H m (base := base) (cap := cap) (by rw [List.length_nil, Am1] at hroom; exact hroom) hz ⟨hc0, by omega⟩
    refine ⟨_, _, F5, ?_⟩
    simp only [SS, seval]
    rw [Aab h4 h5 s5.mq]
    subst hW
    exact .inl ⟨rfl, ha, hroom, ⟨u', c + 1, m5, by omega, by rw [Am1]; simp, n5⟩, s5⟩
   ·cases hv'
    obtain ⟨v5, h5, F5, rfl, ⟨u', c', m5, b1, b2, n5⟩, s5⟩ := A0w hT H Nu (l.length + 1) l h4 b x p cap u C z c o r (by omega) hl hpos m hrd (fun e => hb (by rw [e])) (hu x rfl) hroom hz hc0 (by omega)
    rw [hW] at F5 m5
    refine ⟨_, _, F5, ?_⟩
    simp only [SS, seval]
    rw [Aab h4 h5 s5.mq]
    exact .inl ⟨ha, hroom, ⟨u', c', m5, b1, b2, n5⟩, s5⟩
  ·have cr : ((Abf l.length : Int) > z - C.length) = True := by simp; omega
   simp only [SS, seval, wz, cr]
   exact .inr (fun hx => hroom hx.2)
 ·simp only [SS, seval]
  exact .inr (fun hx => hn ⟨hx.1, by omega⟩)
end
theorem Awu {h : Aac} {u : Option Nat} {l : List Pr} (o : Abh h u 2 l.length (Ady l)) : Asp h (Aal u l.length) l u := by
 cases u with
 | none => have := o.non rfl; exact .inl ⟨List.eq_nil_of_length_eq_zero this, none, 0, by rw [this]; rfl⟩
 | some y => exact .inr ⟨y, 0, l.length, rfl, rfl, (o.use y rfl).2.2, o.rd⟩
section
variable (hT : Aa0 P tab) (H : Has tab)
include hT H
end
theorem Abh.ints {h : Aac} {u : Option Nat} {C : List Int} (o : Abh h u 1 C.length (C.map I)) : Ah5 h (Aal u C.length) C := by
 cases u with
 | none => have := o.non rfl; exact .inl ⟨List.eq_nil_of_length_eq_zero this, none, 0, by rw [this]; rfl⟩
 | some y => exact .inr ⟨y, 0, C.length, rfl, o.rd⟩
section
variable (hT : Aa0 P tab) (H : Has tab)
include hT H
end
theorem Ah5.same {h h' : Aac} {v : Value} {L : List Int} (a : Ah5 h v L) (s : Aad h h' (fun _ => False)) : Ah5 h' v L := by
 rcases a with a | ⟨x, p, cap, e, r⟩
 ·exact .inl a
 ·exact .inr ⟨x, p, cap, e, r.same s (fun x => x)⟩
section
variable (hT : Aa0 P tab) (H : Has tab)
include hT H
end
structure A15 (tab : Nat -> Option Aae) : Prop where
 r32 : tab 25 = some af25
theorem A86 : A15 tabT.get := ⟨by kernel_rfl⟩
def Aip (sl : Value) (z c o r : Int) : Blk := ⟨[I z, sl, I c, I o, I r], 5, 5, true, false⟩
structure Aej (h : Aac) (b : Nat) (u : Option Nat) (C : List Int) (z c o r : Int) : Prop where
 blk : h.bqs.get b = some (Aip (Ad6 u C) z c o r)
 use : ∀ x, u = some x -> h.bqs.get x = some (Aeq C) /\ x ≠ b /\ x < h.nq /\ C ≠ []
 non : u = none -> C = []
 lt : b < h.nq
theorem Aej.same {h h' : Aac} {b : Nat} {u : Option Nat} {C : List Int} {z c o r : Int} {S : Nat -> Prop} (m : Aej h b u C z c o r) (s : Aad h h' S) (hb : ¬ S b) (hu : ∀ x, u = some x -> ¬ S x) : Aej h' b u C z c o r :=
 ⟨by rw [s.get b m.lt hb]; exact m.blk, fun x hx => by
  obtain ⟨h1, h2, h3, h4⟩ := m.use x hx
  exact ⟨by rw [s.get x h3 (hu x hx)]; exact h1, h2, Nat.lt_of_lt_of_le h3 s.nq, h4⟩, m.non, Nat.lt_of_lt_of_le m.lt s.nq⟩
section
variable {h : Aac} {b : Nat} {u : Option Nat} {C : List Int} {z c o r : Int} (m : Aej h b u C z c o r)
include m
theorem Aej.rd1 : h.rd b 1 = some (Ad6 u C) := Abb m.blk
theorem Aej.rd0 : h.rd b 0 = some (I z) := Abb m.blk
theorem Aej.rd2 : h.rd b 2 = some (I c) := Abb m.blk
theorem Aej.rd3 : h.rd b 3 = some (I o) := Abb m.blk
theorem Aej.rd4 : h.rd b 4 = some (I r) := Abb m.blk
theorem Aej.wr2 (x : Int) : h.wrs b 2 [I x] = some (h.setB b (Aip (Ad6 u C) z x o r)) := Ab7 m.blk rfl (by simp [Aip]) rfl
theorem Aej.wr4 (x : Int) : h.wrs b 4 [I x] = some (h.setB b (Aip (Ad6 u C) z c o x)) := Ab7 m.blk rfl (by simp [Aip]) rfl
theorem Aej.set (z' c' o' r' : Int) : Aej (h.setB b (Aip (Ad6 u C) z' c' o' r')) b u C z' c' o' r' :=
 ⟨by rw [Aaz, if_pos rfl], fun x hx => by
  obtain ⟨h1, h2, h3, h4⟩ := m.use x hx
  exact ⟨by rw [Aaz, if_neg h2]; exact h1, h2, h3, h4⟩, m.non, m.lt⟩
theorem Aej.own : Abh h u 1 C.length (C.map I) :=
 ⟨fun x hx => by
  obtain ⟨h1, _, h3, h4⟩ := m.use x hx
  exact ⟨by rw [h1, Nat.mul_one]; rfl, h3, List.length_pos_iff.2 h4⟩, fun hu => by rw [m.non hu]; rfl, by simp, by simp [Aas]⟩
end
theorem Aej.of_own {h : Aac} {b : Nat} {u : Option Nat} {C : List Int} (a : Abh h u 1 C.length (C.map I)) (hu : ∀ x, u = some x -> x ≠ b) (hb : b < h.nq) (z c o r : Int) : Aej (h.setB b (Aip (Ad6 u C) z c o r)) b u C z c o r :=
 ⟨by rw [Aaz, if_pos rfl], fun x hx => by
  obtain ⟨h1, h2, h3⟩ := a.use x hx
  exact ⟨by rw [Aaz, if_neg (hu x hx), h1, Nat.mul_one]; rfl, hu x hx, h2, List.length_pos_iff.1 h3⟩, fun hn => List.eq_nil_of_length_eq_zero (a.non hn), hb⟩
section
variable (hT : Aa0 P tab) (H : A15 tab)
include hT H
end
structure A9i (P : Program) : Prop where
section
variable (hT : Aa0 P tab) (H : A15 tab)
include hT H
variable (NR : A9i P)
include NR
structure A80 (h : Aac) (b x p cap : Nat) (u : Option Nat) (C : List Int) (z c o r : Int) (f : Nat) (l : List Pr) (i : Nat) (ts : T Value) (h' : Aac) : Prop where
 t0 : look ts 0 = (pp b)
 t1 : look ts 1 = .slice (some ⟨x, p, none⟩) l.length cap
 t5 : look ts 5 = I l.length
 t12 : look ts 12 = I (Aa1 l.length i)
 t13 : look ts 13 = I i
 le : i <= Aar l.length
 ex : ∃ uk uc u' c', look ts 10 = Aal uk (i - 1) /\ look ts 11 = Aal uc i /\ Abh h' uk 1 (i - 1) ((Acl l i).map I) /\ Abh h' uc 1 i ((Aay (Abc f) l C.length i).1.map I) /\
  Aej h' b u' (C ++ (Aay (Abc f) l C.length i).2) z c' o r /\ c <= c' /\ c' <= c + (Aay (Abc f) l C.length i).2.length /\ (∀ y, u' = some y -> u = some y \/ h.nq <= y) /\ (∀ y, uk = some y -> h.nq <= y /\ u' ≠ some y) /\ (∀ y, uc = some y -> h.nq <= y /\ u' ≠ some y /\ uk ≠ some y)
 same : Aad h h' (fun j => j = b \/ u = some j)
end
section
variable (hT : Aa0 P tab) (H : A15 tab)
include hT H
end
section
variable (hT : Aa0 P tab) (H : A15 tab)
include hT H
end
section
variable (hT : Aa0 P tab)
include hT
theorem A3m (H : Has tab) {h : Aac} {b : Nat} {u : Option Nat} {C : List Int} {z c o r : Int} (m : Aa2 h b u C z c o r) {base : Option Addr} {cap n : Nat} (hn : n = 0 \/ z < (C.length : Int) + n) (hz : 0 <= z /\ z <= 65536) (hC : (C.length : Int) <= z) (hc : 0 <= c /\ c < 1000000000) (hr : 0 <= r /\ r < 1000000000) :
  Aah P 10 [(pp b), .slice base n cap] h fun v h' => v = .tuple #[I 0, .bool false] /\ Aa2 h' b u C z (c + 1) o (r + 1) /\ Aad h h' (fun j => j = b) := by
 refine Aaa hT H.f35 rfl ?_
 have wc : Aan .i64 (c + 1) = c + 1 := Aav (by omega) (by omega)
 have wr : Aan .i64 (r + 1) = r + 1 := Aav (by omega) (by omega)
 have wz : Aan .i64 (z - C.length) = z - C.length := Aav (by omega) (by omega)
 have m1 := m.set z (c + 1) o r
 have m2 := m1.set z (c + 1) o (r + 1)
 have s : Aad h ((h.setB b (Ac9 (Ad6 u C) z (c + 1) o r)).setB b (Ac9 (Ad6 u C) z (c + 1) o (r + 1))) (fun j => j = b) := (Aad.setB (S := fun j => j = b) rfl).trans (Aad.setB (S := fun j => j = b) rfl) (fun _ _ x => x)
 simp only [SS, seval, af10, m.rd2, m.wr2, wc]
 refine ⟨Agy, Abo, ?_⟩
 rcases Nat.eq_zero_or_pos n with e0 | e0
 ·subst e0
  simp only [SS, seval, beq_self_eq_true, m1.rd4, m1.wr4, wr]
  exact ⟨m2, s⟩
 ·have hb : ((n : Int) == 0) = false := by rw [beq_eq_false_iff_ne]; omega
  have hg : ((n : Int) > z - C.length) = True := by simp; omega
  simp only [SS, seval, m1.rd0, m1.rd1, m1.rd4, m1.wr4, hb, wz, wr, hg]
  exact ⟨m2, s⟩
end
theorem A4f (a b : Int) : eqE (.fld false 0 1 .int (.fld false 1 1 .int .done)) (.agg [I a, I b].toArray) (.agg [I a, I b].toArray) = some true := by simp [eqE]
def ldN (h : Aac) (n : Nat) (v : Value) : Option Value := match v with
 | .pointer (some ⟨b, o, none⟩) => (match h.rds b o n with
  | some l => some (.agg l.toArray)
  | none => none)
 | _ => none
theorem Abi {ts : T Value} {h : Aac} {n : Nat} {x : Opd} : rop ts h (.loadN n x) = ldN h n (ev ts x) := (rfl)
theorem Af7 {h : Aac} {b o n : Nat} {l : List Value} (hr : h.rds b o n = some l) : ldN h n (.pointer (some ⟨b, o, none⟩)) = some (.agg l.toArray) := by
 show (match h.rds b o n with | some l => some (Value.agg l.toArray) | none => none) = _
 rw [hr]
theorem Ajh {h : Aac} {x p cap : Nat} {l : List Pr} (r : Abq h x p 2 l.length cap (Ady l)) {i : Nat} (hi : i < l.length) : h.rds x (p + i * 2) 2 = some [I l[i].1, I l[i].2] := by
 have s := r.sub (lo := i) (hi := i + 1) (by omega) (by omega)
 have := s.src
 have e : i + 1 - i = 1 := by omega
 rw [e] at this
 show h.rds x (p + i * 2) 2 = _
 have h2 : Ach h 2 (.slice (some ⟨x, p + i * 2, none⟩) 1 (cap - i)) = (match h.rds x (p + i * 2) (1 * 2) with | some l => some (l, 1) | none => none) := (rfl)
 rw [h2] at this
 cases hq : h.rds x (p + i * 2) (1 * 2) with
 | none => rw [hq] at this; cases this
 | some q =>
  rw [hq] at this
  simp only [Option.some.injEq, Prod.mk.injEq, and_true] at this
  rw [this]
  have hk := Afs l i hi
  have hv := At1 l i hi
  have hlen := Ait l
  apply congrArg some
  apply List.ext_getElem?
  intro j
  match j with
  | 0 => simp [hk]
  | 1 => simp [List.getElem?_take, List.getElem?_drop, hv]
  | j + 2 => simp [List.getElem?_take]; omega
section
variable (hT : Aa0 P tab)
include hT
theorem Avw (HR : A15 tab) {h : Aac} {v w : Value} {l : List Pr} {u u' : Option Nat} (a : Asp h v l u) (b : Asp h w l u') (hl : l.length < 1000000) : Aah P 25 [v, w] h fun x h' => x = .bool true /\ h' = h := by
 refine Aaa hT HR.r32 rfl ?_
 obtain ⟨b1, c1, hv⟩ := a.len
 obtain ⟨b2, c2, hw⟩ := b.len
 have e : ((l.length : Int) != l.length) = false := by simp
 subst hv; subst hw
 simp only [SS, seval, af25, e]
 refine Ac6 (fun k ts h' => ∃ i : Nat, k = l.length - i /\ i <= l.length /\ h' = h /\ look ts 0 = .slice b1 l.length c1 /\ look ts 1 = .slice b2 l.length c2 /\ look ts 5 = I i) ?_ (n := l.length) ⟨0, rfl, Nat.zero_le _, rfl, by simp only [SS, seval], by simp only [SS, seval], by simp only [SS, seval] <;> rfl⟩
 rintro k ts h' ⟨i, rfl, i2, rfl, t0, t1, t5⟩
 refine Acf ?_
 by_cases hi : i < l.length
 ·have ci : ((i : Int) < l.length) = True := by simp [hi]
  have wi : Aan .i64 ((i : Int) + 1) = ((i + 1 : Nat) : Int) := by rw [Aav] <;> omega
  rcases a with ⟨rfl, _⟩ | ⟨x, p, cap, rfl, ha, _, ra⟩
  ·simp at hi
  rcases b with ⟨rfl, _⟩ | ⟨y, q, cap', rfl, hb, _, rb⟩
  ·simp at hi
  cases ha; cases hb
  simp only [SS, seval, t0, t1, t5, ci]
  refine ⟨Agy, Abo, ?_⟩
  have q1 := Af7 (Ajh ra hi)
  have q2 := Af7 (Ajh rb hi)
  simp only [SS, seval, Abi, t0, t1, t5, ci, q1, q2, A4f, wi]
  exact ⟨l.length - (i + 1), by omega, i + 1, rfl, by omega, rfl⟩
 ·have ci : ((i : Int) < l.length) = False := by simp; omega
  simp only [SS, seval, t0, t1, t5, ci]
end
def Aop (h : Aac) (n : Nat) (p v : Value) : Option (Value × Aac) := match p with
 | .pointer (some ⟨b, o, none⟩) => (let vs := v.cells.toList
   bif Nat.beq vs.length n && Nat.ble 1 n then (match h.wrs b o vs with
    | some h' => some (undef, h')
    | none => none) else none)
 | _ => none
theorem Acq {ts : T Value} {h : Aac} {a x : Opd} : eop ts h (.store 4 a x) = Aop h 4 (ev ts a) (ev ts x) := (rfl)
theorem Abn {ts : T Value} {h : Aac} {a x : Opd} : eop ts h (.store 6 a x) = Aop h 6 (ev ts a) (ev ts x) := (rfl)
theorem Ak6 {h : Aac} {b o : Nat} {k : Blk} {vs : List Value} (hb : h.bqs.get b = some k) (ho : k.own = true) (hl : o + vs.length <= k.cells.length) (hs : vs.all Aas = true) : h.wrs b o vs = some (h.setB b { k with cells := spl vs k.cells o }) := by
 unfold Aac.wrs; rw [hb]
 simp only [ho, Aiu hl, hs, Bool.and_true, cond_true]
 rfl
theorem Alq {h h' : Aac} {b o n : Nat} {l : List Value} (hw : h.wrs b o l = some h') (hl : l.length = n) (h1 : 1 <= n) : Aop h n (.pointer (some ⟨b, o, none⟩)) (.agg l.toArray) = some (undef, h') := by
 have e : (Value.agg l.toArray).cells.toList = l := by simp [Value.cells]
 unfold Aop
 simp only [e, hl, Adk, Abl h1, hw, Bool.and_true, cond_true]
theorem A5z {h : Aac} {n m : Nat} {L L' : List Value} (hb : h.bqs.get n = some ⟨L, m, m, true, false⟩) (hl : L.length = m) (hl' : L'.length = m) (h1 : 1 <= m) (hs : L'.all Aas = true) : ∃ h', Aop h m (pp n) (.agg L'.toArray) = some (undef, h') /\ h'.bqs.get n = some ⟨L', m, m, true, false⟩ /\ Aad h h' (· = n) /\ h'.nq = h.nq /\ h'.rds n 0 m = some L' := by
 have hw : h.wrs n 0 L' = some (h.setB n ⟨spl L' L 0, m, m, true, false⟩) := Ak6 hb rfl (by simp only [hl, hl']; omega) hs
 have e : spl L' L 0 = L' := by
  rw [Ai4]; simp only [splice]
  rw [List.take_zero, List.nil_append, Nat.zero_add, List.drop_of_length_le (by omega), List.append_nil]
 rw [e] at hw
 have hg : (h.setB n ⟨L', m, m, true, false⟩).bqs.get n = some ⟨L', m, m, true, false⟩ := by rw [Aaz, if_pos rfl]
 refine ⟨_, Alq hw hl' h1, hg, Aad.setB rfl, rfl, ?_⟩
 rw [Ae8 hg (by simp only [hl']; omega)]
 simp only [List.drop_zero]
 rw [List.take_of_length_le (by omega)]
theorem T.set_set {α : Type} (x y : α) : ∀ (d : Nat) (t : T α) (k : Nat), T.set d (T.set d t k x) k y = T.set d t k y
 | 0, t, k => rfl
 | d + 1, .nil, k => by
  rw [T.set_nil, T.set_nil]
  rcases Aa6 k 0 with ⟨b1, _⟩ | ⟨b1, _⟩
  ·simp only [b1, cond_true, T.set_node]
  ·cases b2 : Nat.beq (k % 2) 1 with
   | true => simp only [b1, cond_false, cond_true, T.set_node, b2, T.set_set x y d]
   | false => simp only [b1, cond_false, T.set_node, b2, T.set_set x y d]
 | d + 1, .node l v r, k => by
  rw [T.set_node, T.set_node]
  rcases Aa6 k 0 with ⟨b1, _⟩ | ⟨b1, _⟩
  ·simp only [b1, cond_true, T.set_node]
  ·cases b2 : Nat.beq (k % 2) 1 with
   | true => simp only [b1, cond_false, cond_true, T.set_node, b2, T.set_set x y d]
   | false => simp only [b1, cond_false, T.set_node, b2, T.set_set x y d]
theorem Aqs (h : Aac) (b : Nat) (k k' : Blk) : (h.setB b k).setB b k' = h.setB b k' := by
 unfold Aac.setB
 simp only [T.put, T.set_set]
structure Rcd (h : Aac) (b : Nat) (L : List Value) : Prop where
 blk : h.bqs.get b = some ⟨L, L.length, L.length, true, false⟩
 lt : b < h.nq
def Aac.setR (h : Aac) (b : Nat) (L : List Value) : Aac := h.setB b ⟨L, L.length, L.length, true, false⟩
def Aac.newR (h : Aac) (L : List Value) : Aac := h.new ⟨L, L.length, L.length, true, false⟩
theorem Rcd.rd {h : Aac} {b : Nat} {L : List Value} (r : Rcd h b L) (i : Nat) : h.rd b i = L[i]? := Abb r.blk
theorem Rcd.wr {h : Aac} {b : Nat} {L : List Value} (r : Rcd h b L) (i : Nat) (v : Value) (hi : i < L.length) (hv : Aas v = true) : h.wrs b i [v] = some (h.setR b (L.set i v)) := by
 rw [Ab7 r.blk rfl hi hv]
 unfold Aac.setR
 rw [List.length_set]
theorem Adc (h : Aac) (b : Nat) (L : List Value) (i : Nat) : (h.setR b L).rd b i = L[i]? := by
 have e : (h.setR b L).bqs.get b = some ⟨L, L.length, L.length, true, false⟩ := by unfold Aac.setR; rw [Aaz]; exact if_pos rfl
 exact Abb e
theorem Abp (h : Aac) (b : Nat) (L : List Value) (i : Nat) (v : Value) (hi : i < L.length) (hv : Aas v = true) : (h.setR b L).wrs b i [v] = some (h.setR b (L.set i v)) := by
 have e : (h.setR b L).bqs.get b = some ⟨L, L.length, L.length, true, false⟩ := by unfold Aac.setR; rw [Aaz]; exact if_pos rfl
 rw [Ab7 e rfl hi hv]
 unfold Aac.setR
 rw [Aqs, List.length_set]
theorem Rcd.set {h : Aac} {b : Nat} (L' : List Value) (hb : b < h.nq) : Rcd (h.setR b L') b L' := ⟨by unfold Aac.setR; rw [Aaz]; exact if_pos rfl, hb⟩
theorem Rcd.same {h h' : Aac} {b : Nat} {L : List Value} {S : Nat -> Prop} (r : Rcd h b L) (m : Aad h h' S) (hb : ¬ S b) : Rcd h' b L := ⟨by rw [m.get b r.lt hb]; exact r.blk, Nat.lt_of_lt_of_le r.lt m.nq⟩
theorem Aad.setR {h : Aac} {b : Nat} {L : List Value} {S : Nat -> Prop} (hb : S b) : Aad h (h.setR b L) S := Aad.setB hb
theorem Aad.newR {h : Aac} {L : List Value} {S : Nat -> Prop} : Aad h (h.newR L) S := Aad.new
theorem Rcd.new (h : Aac) (L : List Value) : Rcd (h.newR L) h.nq L := ⟨by unfold Aac.newR; rw [Aa5]; exact if_pos rfl, Nat.lt_succ_self _⟩
theorem Ax3 (h : Aac) (L : List Value) (i : Nat) : (h.newR L).rd h.nq i = L[i]? := (Rcd.new h L).rd i
theorem Axu (h : Aac) (L : List Value) (i : Nat) (v : Value) (hi : i < L.length) (hv : Aas v = true) : (h.newR L).wrs h.nq i [v] = some (h.newR (L.set i v)) := by
 rw [Ab7 (Rcd.new h L).blk rfl hi hv]
 have e : ∀ k, h.new k = { h.setB h.nq k with nq := h.nq + 1 } := fun k => rfl
 unfold Aac.newR
 have e2 : ∀ k k', (h.new k).setB h.nq k' = h.new k' := fun k k' => by
  show ({ h.new k with bqs := (h.new k).bqs.put h.nq k' } : Aac) = _
  have : (h.new k).bqs.put h.nq k' = (h.new k').bqs := by
   show (h.bqs.put h.nq k).put h.nq k' = h.bqs.put h.nq k'
   simp only [T.put, T.set_set]
  rw [this]; rfl
 rw [e2, List.length_set]
theorem Acw (h : Aac) (L L' : List Value) (n : Nat) (hl : L.length = n) (hl' : L'.length = n) (h1 : 1 <= n) (hs : L'.all Aas = true) : Aop (h.newR L) n (pp h.nq) (.agg L'.toArray) = some (undef, h.newR L') := by
 have hw : (h.newR L).wrs h.nq 0 L' = some ((h.newR L).setB h.nq ⟨spl L' L 0, L.length, L.length, true, false⟩) := Ak6 (Rcd.new h L).blk rfl (by simp only [hl, hl']; omega) hs
 have e : spl L' L 0 = L' := by
  rw [Ai4]; simp only [splice]
  rw [List.take_zero, List.nil_append, Nat.zero_add, List.drop_of_length_le (by omega), List.append_nil]
 have e2 : (h.newR L).setB h.nq ⟨L', L.length, L.length, true, false⟩ = h.newR L' := by
  show ({ h.newR L with bqs := (h.newR L).bqs.put h.nq _ } : Aac) = _
  have : (h.newR L).bqs.put h.nq ⟨L', L.length, L.length, true, false⟩ = (h.newR L').bqs := by
   show (h.bqs.put h.nq _).put h.nq _ = h.bqs.put h.nq _
   simp only [T.put, T.set_set, hl, hl']
  rw [this]; rfl
 rw [e, e2] at hw
 exact Alq hw hl' h1
theorem Afu (h : Aac) (L : List Value) (n : Nat) (hl : L.length = n) : ldN (h.newR L) n (pp h.nq) = some (.agg L.toArray) := Af7 (l := L) (by
 rw [Ae8 (Rcd.new h L).blk (by simp only [hl]; omega)]
 simp only [List.drop_zero]
 rw [List.take_of_length_le (by omega)])
theorem Adn (h : Aac) (L : List Value) (n : Nat) (hl : L.length = n) : A2o h n (.agg L.toArray) = some ((pp h.nq), h.newR L) := by
 have e : (Value.agg L.toArray).cells.toList = L := by simp [Value.cells]
 unfold A2o
 simp only [e, hl, Adk, cond_true]
 unfold Aac.newR
 rw [hl]
theorem Aaw {ts : T Value} {h : Aac} {z : List Value} : eop ts h (.alloc z) = some ((pp h.nq), h.newR z) := (rfl)
inductive Tr where
 | empty (a : Nat)
 | leaf (a : Nat) (k v : Int)
 | inner (a : Nat) (sz sh ch sm : Int) (ks : List Int) (cs : List Tr)
def Tr.adr : Tr -> Nat
 | .empty a => a
 | .leaf a _ _ => a
 | .inner a _ _ _ _ _ _ => a
def Tr.kind : Tr -> Int
 | .empty _ => 1
 | .leaf _ _ _ => 2
 | .inner _ _ _ _ _ _ _ => 3
def Tr.word (t : Tr) : Int := (t.adr : Int) * 8 + t.kind
def at0 (C : List Int) (a : Nat) : Int := if a = 0 then 0 else (C[a - 1]?).getD 0
def Az8 (n : Int) : Int := if 0 <= n /\ n <= 16384 then n / 4 + 2 else 0
mutual
def Tr.ok (C : List Int) : Tr -> Prop
 | .empty a => 1 <= a /\ a <= C.length
 | .leaf a k v => 1 <= a /\ a + 1 <= C.length /\ at0 C a = k /\ at0 C (a + 1) = v
 | .inner a sz sh ch sm ks cs => (1 <= a /\ a + (2 * cs.length + 4) <= C.length + 1 /\ cs.length = ks.length + 1 /\ 1 <= ks.length) /\ (at0 C a = cs.length /\ at0 C (a + 1) = sz /\ at0 C (a + 2) = sh /\ at0 C (a + 3) = ch /\ at0 C (a + 4) = sm) /\
   (sh = 0 \/ sh = 1) /\ (-1000000000000 <= sz /\ sz <= 1000000000000) /\ (∀ i (h : i < ks.length), at0 C (a + 5 + i) = ks[i]) /\ (∀ i (h : i < cs.length), at0 C (a + 4 + cs.length + i) = cs[i].word) /\ oks C cs
def oks (C : List Int) : List Tr -> Prop
 | [] => True
 | t :: cs => t.ok C /\ oks C cs
end
mutual
def Tr.content : Tr -> List Pr
 | .empty _ => []
 | .leaf _ k v => [(k, v)]
 | .inner _ _ _ _ _ _ cs => Aaf cs
def Aaf : List Tr -> List Pr
 | [] => []
 | t :: cs => t.content ++ Aaf cs
end
mutual
def Tr.ord (lo hi : Int) : Tr -> Prop
 | .empty _ => True
 | .leaf _ k _ => lo <= k /\ k <= hi
 | .inner _ _ _ _ _ ks cs => A0b lo hi ks cs
def A0b (lo hi : Int) : List Int -> List Tr -> Prop
 | [], [c] => c.ord lo hi
 | k :: ks, c :: cs => lo < k /\ k <= hi /\ c.ord lo (k - 1) /\ A0b k hi ks cs
 | _, _ => False
end
def setR (T : List Bool) (a n : Nat) : List Bool := (List.range T.length).map fun i => if a <= i /\ i < a + n then true else (T[i]?).getD false
def Avb (T : List Bool) (a n : Nat) : Prop := ∀ i, a <= i -> i < a + n -> T[i]? = some false
mutual
def Tr.mq (T : List Bool) : Tr -> List Bool
 | .empty a => setR T a 1
 | .leaf a _ _ => setR T a 2
 | .inner a _ _ _ _ _ cs => Ac8 (setR T a (2 * cs.length + 4)) cs
def Ac8 (T : List Bool) : List Tr -> List Bool
 | [] => T
 | t :: cs => Ac8 (t.mq T) cs
end
mutual
def Tr.free (T : List Bool) : Tr -> Prop
 | .empty a => Avb T a 1
 | .leaf a _ _ => Avb T a 2
 | .inner a _ _ _ _ _ cs => Avb T a (2 * cs.length + 4) /\ Apv (setR T a (2 * cs.length + 4)) cs
def Apv (T : List Bool) : List Tr -> Prop
 | [] => True
 | t :: cs => t.free T /\ Apv (t.mq T) cs
end
mutual
def Tr.spots : Tr -> List Pr
 | .empty _ => []
 | .leaf _ _ _ => []
 | .inner a _ _ _ _ _ cs => Abx (a + 4 + cs.length) cs
def Abx (s : Nat) : List Tr -> List Pr
 | [] => []
 | t :: cs => ((s : Int), t.word) :: (t.spots ++ Abx (s + 1) cs)
end
mutual
def Tr.busy : Tr -> Bool
 | .empty _ => false
 | .leaf _ _ _ => false
 | .inner _ sz sh ch _ _ cs => (decide (sh = 1) || decide (Az8 sz <= ch)) || Agz cs
def Agz : List Tr -> Bool
 | [] => false
 | t :: cs => t.busy || Agz cs
end
mutual
def Tr.deep : Tr -> Nat
 | .empty _ => 0
 | .leaf _ _ _ => 0
 | .inner _ _ _ _ _ _ cs => 1 + Adg cs
def Adg : List Tr -> Nat
 | [] => 0
 | t :: cs => max t.deep (Adg cs)
end
theorem Tr.ind {M : Tr -> Prop} (e : ∀ a, M (.empty a)) (l : ∀ a k v, M (.leaf a k v)) (i : ∀ a sz sh ch sm ks cs, (∀ c ∈ cs, M c) -> M (.inner a sz sh ch sm ks cs)) : ∀ t, M t := by
 intro t
 exact Tr.rec (motive_1 := M) (motive_2 := fun cs => ∀ c ∈ cs, M c) e l (fun a sz sh ch sm ks cs ih => i a sz sh ch sm ks cs ih) (by simp) (fun h r ih1 ih2 c hc => by
  rcases List.mem_cons.1 hc with rfl | hc
  ·exact ih1
  ·exact ih2 c hc) t
theorem Adi (T : List Bool) (a n : Nat) : (setR T a n).length = T.length := by simp [setR]
theorem Afm {T : List Bool} {a n i : Nat} (hi : i < T.length) : (setR T a n)[i]? = some (if a <= i /\ i < a + n then true else (T[i]?).getD false) := by simp [setR, hi]
theorem Anm : ∀ (t : Tr) (T : List Bool), (t.mq T).length = T.length := by
 intro t
 induction t using Tr.ind with
 | e a => intro T; exact Adi _ _ _
 | l a k v => intro T; exact Adi _ _ _
 | i a sz sh ch sm ks cs ih =>
  intro T
  have key : ∀ (cs : List Tr) (T : List Bool), (∀ c ∈ cs, ∀ T, (c.mq T).length = T.length) -> (Ac8 T cs).length = T.length := by
   intro cs
   induction cs with
   | nil => intro T _; rfl
   | cons c cs ihc =>
    intro T h
    show (Ac8 (c.mq T) cs).length = T.length
    rw [ihc _ (fun c hc => h c (List.mem_cons_of_mem _ hc)), h c (by simp)]
  show (Ac8 _ cs).length = _
  rw [key cs _ ih, Adi]
theorem Ad4 {C : List Int} : ∀ {cs : List Tr}, oks C cs -> ∀ i (h : i < cs.length), cs[i].ok C
 | t :: cs, ⟨a, b⟩, 0, _ => a
 | t :: cs, ⟨a, b⟩, i + 1, h => Ad4 b i (by simpa using h)
theorem Amq : ∀ (a b : List Tr) (T : List Bool), Ac8 T (a ++ b) = Ac8 (Ac8 T a) b
 | [], b, T => rfl
 | t :: a, b, T => Amq a b (t.mq T)
theorem Aqa : ∀ (a b : List Tr) (T : List Bool), Apv T (a ++ b) -> Apv T a /\ Apv (Ac8 T a) b
 | [], b, T, h => ⟨trivial, h⟩
 | t :: a, b, T, ⟨h1, h2⟩ => by
  obtain ⟨h3, h4⟩ := Aqa a b _ h2
  exact ⟨⟨h1, h3⟩, h4⟩
theorem Ahu : ∀ (a b : List Tr) (s : Nat), Abx s (a ++ b) = Abx s a ++ Abx (s + a.length) b
 | [], b, s => by simp [Abx]
 | t :: a, b, s => by
  simp only [List.cons_append, Abx, Ahu a b (s + 1), List.length_cons, List.append_assoc]
  rw [show s + 1 + a.length = s + (a.length + 1) by omega]
theorem Ap4 : ∀ (a b : List Tr), Agz (a ++ b) = (Agz a || Agz b)
 | [], b => by simp [Agz]
 | t :: a, b => by simp [Agz, Ap4 a b, Bool.or_assoc]
theorem Ack : ∀ (a b : List Tr), Aaf (a ++ b) = Aaf a ++ Aaf b
 | [], b => by simp [Aaf]
 | t :: a, b => by simp [Aaf, Ack a b]
theorem Ao4 : ∀ (a b : List Tr), Adg (a ++ b) = max (Adg a) (Adg b)
 | [], b => by simp [Adg]
 | t :: a, b => by simp [Adg, Ao4 a b, Nat.max_assoc]
theorem Aef (cs : List Tr) {i : Nat} (h : i < cs.length) : cs.take (i + 1) = cs.take i ++ [cs[i]] := by
 rw [List.take_add_one]; simp [h]
theorem A0t {T : List Bool} {cs : List Tr} (h : Apv T cs) {i : Nat} (hi : i < cs.length) : cs[i].free (Ac8 T (cs.take i)) := by
 have e : cs = cs.take i ++ (cs[i] :: cs.drop (i + 1)) := by simp
 rw [e] at h
 exact (Aqa _ _ _ h).2.1
theorem Az6 {hi : Int} : ∀ {ks : List Int} {cs : List Tr} {lo : Int}, A0b lo hi ks cs -> ∀ i (h : i < cs.length), cs[i].ord (if i = 0 then lo else (ks[i - 1]?).getD 0) (if i < ks.length then (ks[i]?).getD 0 - 1 else hi)
 | [], [c], lo, h, 0, _ => h
 | k :: ks, c :: cs, lo, ⟨_, _, h3, h4⟩, 0, _ => by simpa using h3
 | k :: ks, c :: cs, lo, ⟨_, _, h3, h4⟩, i + 1, hi' => by
  have := Az6 h4 i (by simpa using hi')
  simp only [List.getElem_cons_succ, Nat.add_sub_cancel, List.length_cons]
  rw [if_neg (by omega)]
  by_cases h0 : i = 0
  ·subst h0; simpa using this
  ·rw [if_neg h0] at this
   have e : ((k :: ks)[i]?) = ks[i - 1]? := by
    obtain ⟨j, rfl⟩ : ∃ j, i = j + 1 := ⟨i - 1, by omega⟩
    simp
   rw [e]
   simpa using this
theorem Aps {hi : Int} : ∀ {ks : List Int} {cs : List Tr} {lo : Int}, A0b lo hi ks cs -> cs.length = ks.length + 1 /\ ∀ i (h : i < ks.length), (if i = 0 then lo else (ks[i - 1]?).getD 0) < ks[i] /\ ks[i] <= hi
 | [], [c], lo, h => ⟨rfl, fun i h => by simp at h⟩
 | k :: ks, c :: cs, lo, ⟨h1, h2, h3, h4⟩ => by
  obtain ⟨e, q⟩ := Aps h4
  refine ⟨by simp [e], fun i hi' => ?_⟩
  cases i with
  | zero => exact ⟨by simpa using h1, h2⟩
  | succ i =>
   have := q i (by simpa using hi')
   simp only [List.getElem_cons_succ, Nat.add_sub_cancel]
   rw [if_neg (by omega)]
   by_cases h0 : i = 0
   ·subst h0; simpa using this
   ·rw [if_neg h0] at this
    have e : ((k :: ks)[i]?) = ks[i - 1]? := by
     obtain ⟨j, rfl⟩ : ∃ j, i = j + 1 := ⟨i - 1, by omega⟩
     simp
    rw [e]; exact this
structure Aea (tab : Nat -> Option Aae) : Prop where
 v58 : tab 21 = some af21
 v76 : tab 18 = some af18
 v91 : tab 26 = some af26
 v108 : tab 9 = some af9
 v118 : tab 93 = some af93
 v121 : tab 35 = some af35
 v130 : tab 119 = some af119
 v131 : tab 124 = some af124
 v137 : tab 141 = some af141
 v138 : tab 142 = some af142
 v141 : tab 140 = some af140
 v142 : tab 146 = some af146
 v69 : tab 81 = some af81
 v128 : tab 90 = some af90
 v112 : tab 55 = some af55
 v135 : tab 122 = some af122
 v126 : tab 88 = some af88
theorem A87 : Aea tabT.get := ⟨by kernel_rfl, by kernel_rfl, by kernel_rfl, by kernel_rfl, by kernel_rfl, by kernel_rfl, by kernel_rfl, by kernel_rfl, by kernel_rfl, by kernel_rfl, by kernel_rfl, by kernel_rfl, by kernel_rfl, by kernel_rfl, by kernel_rfl, by kernel_rfl, by kernel_rfl⟩
theorem A9c (a k : Nat) (h1 : a <= 65536) (h2 : k < 8) : IntKind.i64.wrap ((BitVec.ofInt 64 ((a : Int) * 8 + k) &&& BitVec.ofInt 64 7).toNat : Int) = k := by
 have e1 : ((a : Int) * 8 + k) = ((a * 8 + k : Nat) : Int) := by simp
 have e7 : (BitVec.ofInt 64 7) = BitVec.ofNat 64 7 := by decide
 rw [e1, e7]
 simp only [BitVec.ofInt_natCast, BitVec.toNat_and, BitVec.toNat_ofNat]
 rw [Nat.mod_eq_of_lt (show a * 8 + k < 2 ^ 64 by omega), Nat.mod_eq_of_lt (show 7 < 2 ^ 64 by decide)]
 have := Nat.and_two_pow_sub_one_eq_mod (a * 8 + k) 3
 simp only [Nat.reducePow, Nat.reduceSub] at this
 rw [this, IntWalk.i64_in _ (by omega)]
 omega
section
variable (hT : Aa0 P tab) (V : Aea tab)
include hT V
theorem Anj (H : Has tab) (h : Aac) (a k : Nat) (a1 : 1 <= a) (a2 : a <= 65536) (k1 : 1 <= k) (k2 : k <= 5) : Aah P 35 [I ((a : Int) * 8 + k)] h fun v h' => v = .tuple #[I k, I a, .bool true] /\ h' = h := by
 refine Aaa hT V.v121 rfl ?_
 have c1 : ((a : Int) * 8 + k < 0) = False := by simp; omega
 have c2 : ((a : Int) * 8 + k > 524296) = False := by simp; omega
 have e1 := A9c a k a2 (by omega)
 have e2 : Int.fdiv ((a : Int) * 8 + k) 8 = a := by
  rw [Int.fdiv_eq_ediv_of_nonneg _ (by omega)]; omega
 obtain ⟨_, h1, F, rfl, rfl⟩ := At9 hT H (k : Int) (a : Int) h (by omega) (by omega) (by omega) (by omega)
 simp only [SS, seval, af35, c1, c2, e2]
 erw [e1]
 refine ⟨_, _, F, ?_⟩
 simp only [SS, seval]
theorem Abt (H : Has tab) (h : Aac) (a k : Nat) (a1 : 1 <= a) (a2 : a <= 65536) (k1 : 1 <= k) (k2 : k <= 5) : Aah P 9 [I ((a : Int) * 8 + k)] h fun v h' => v = I k /\ h' = h := by
 refine Aaa hT V.v108 rfl ?_
 obtain ⟨_, h1, F, rfl, rfl⟩ := Anj hT V H h a k a1 a2 k1 k2
 simp only [SS, seval, af9]
 refine ⟨_, _, F, ?_⟩
 simp only [SS, seval]
theorem Ab0 (H : Has tab) (h : Aac) (a k : Nat) (a1 : 1 <= a) (a2 : a <= 65536) (k1 : 1 <= k) (k2 : k <= 5) : Aah P 26 [I ((a : Int) * 8 + k)] h fun v h' => v = I a /\ h' = h := by
 refine Aaa hT V.v91 rfl ?_
 obtain ⟨_, h1, F, rfl, rfl⟩ := Anj hT V H h a k a1 a2 k1 k2
 simp only [SS, seval, af26]
 refine ⟨_, _, F, ?_⟩
 simp only [SS, seval]
theorem Aco {h : Aac} {b : Nat} {u : Option Nat} {C : List Int} {z c o r : Int} (m : Aa2 h b u C z c o r) (a : Nat) (ha : a < 1000000) : Aah P 21 [(pp b), I a] h fun v h' => v = I (at0 C a) /\ h' = h := by
 refine Aaa hT V.v58 rfl ?_
 unfold at0
 by_cases h0 : a = 0
 ·have c1 : ((a : Int) < 1) = True := by simp; omega
  rw [if_pos h0]
  simp only [SS, seval, af21, c1]
 ·have c1 : ((a : Int) < 1) = False := by simp; omega
  rw [if_neg h0]
  by_cases h1 : a <= C.length
  ·have c2 : ((a : Int) > C.length) = False := by simp; omega
   have w : Aan .i64 ((a : Int) - 1) = ((a - 1 : Nat) : Int) := by rw [Aav] <;> omega
   cases u with
   | none => have := m.non rfl; rw [this] at h1; simp at h1; omega
   | some x =>
    have c3 : (((a - 1 : Nat) : Int) < C.length) = True := by simp; omega
    have r1 : h.rd x (a - 1) = some (I ((C[a - 1]?).getD 0)) := by
     rw [Abb (m.use x rfl).1]
     show (C.map I)[a - 1]? = _
     rw [List.getElem?_map, List.getElem?_eq_getElem (by omega)]; rfl
    have r0 : h.rd b 0 = some (.slice (some ⟨x, 0, none⟩) C.length C.length) := m.rd0
    simp only [SS, seval, af21, c1, r0, c2, w, c3, r1]
  ·have c2 : ((a : Int) > C.length) = True := by simp; omega
   rw [List.getElem?_eq_none (by omega)]
   simp only [SS, seval, af21, c1, m.rd0, c2]
   rfl
theorem Avk (h : Aac) (n : Int) (n0 : 0 <= n) (n1 : n <= 1099511627776) : Aah P 142 [I n] h fun v h' => v = .bool false /\ h' = h := by
 refine Aaa hT V.v138 rfl ?_
 have c1 : (n < 0) = False := by simp; omega
 have c2 : (n > 1099511627776) = False := by simp; omega
 simp only [SS, seval, af142, c1, c2]
theorem Apj {h : Aac} {x n : Nat} {L : List Int} (r : Abq h x 0 1 n n (L.map I)) (hn : n < 1000) (hL : ∀ a ∈ L, 0 <= a /\ a <= 1099511627776) : Aah P 124 [.slice (some ⟨x, 0, none⟩) n n] h fun v h' => v = .bool true /\ h' = h := by
 have hl : L.length = n := by have := r.len; simpa using this
 have F142 : Aah P 146 [.slice (some ⟨x, 0, none⟩) n n, .func (.func 142) #[] #[]] h fun v h' => v = I (-1) /\ h' = h := by
  refine Aaa hT V.v142 rfl ?_
  simp only [SS, seval, af146]
  refine Ac6 (fun k ts h' => ∃ i : Nat, k = n - i /\ i <= n /\ h' = h /\ look ts 0 = .slice (some ⟨x, 0, none⟩) n n /\ look ts 1 = .func (.func 142) #[] #[] /\ look ts 7 = I n /\ look ts 8 = I i) ?_ (n := n) ⟨0, rfl, Nat.zero_le _, rfl, by simp only [SS, seval], by simp only [SS, seval], by simp only [SS, seval], by simp only [SS, seval] <;> rfl⟩
  rintro k ts h' ⟨i, rfl, i2, rfl, t0, t1, t7, t8⟩
  refine Acf ?_
  by_cases hi : i < n
  ·have ci : ((i : Int) < n) = True := by simp [hi]
   have wi : Aan .i64 ((i : Int) + 1) = ((i + 1 : Nat) : Int) := by rw [Aav] <;> omega
   have rk : h'.rd x i = some (I (L[i]'(by omega))) := by
    have := r.rd (i := i) (by omega)
    rw [Nat.zero_add] at this
    rw [this]; simp
   have hq := hL (L[i]'(by omega)) (List.getElem_mem _)
   obtain ⟨_, h1, F, rfl, rfl⟩ := Avk hT V h' (L[i]'(by omega)) hq.1 hq.2
   simp only [SV, SS, seval, t0, t1, t7, t8, ci, rk]
   refine ⟨_, _, F, ?_⟩
   simp only [SS, seval, t0, t1, t7, t8, wi]
   exact ⟨n - (i + 1), by omega, i + 1, rfl, by omega, rfl⟩
  ·have ci : ((i : Int) < n) = False := by simp; omega
   simp only [SS, seval, t7, t8, ci]
 obtain ⟨_, h1, F1, rfl, rfl⟩ := F142
 have F137 : Aah P 141 [.slice (some ⟨x, 0, none⟩) n n, .func (.func 142) #[] #[]] h1 fun v h' => v = .bool false /\ h' = h1 := by
  refine Aaa hT V.v137 rfl ?_
  have c1 : ((-1 : Int) >= 0) = False := by simp
  simp only [SS, seval, af141]
  refine ⟨_, _, F1, ?_⟩
  simp only [SS, seval, c1]
 obtain ⟨_, h1, F2, rfl, rfl⟩ := F137
 refine Aaa hT V.v131 rfl ?_
 simp only [SS, seval, af124]
 refine ⟨_, _, F2, ?_⟩
 simp only [SS, seval]
theorem Ahq (h : Aac) (a i : Nat) (ha : a < 1000000) (hi : i < 1000000) : Aah P 119 [I a, I i] h fun v h' => v = I ((a + 4 + i : Nat) : Int) /\ Aad h h' (fun _ => False) := by
 refine Aaa hT V.v130 rfl ?_
 have r := Abq.fresh h [I (a : Int), I (i : Int)] 2 1 true false rfl
 have s : Aad h (h.new ⟨[I (a : Int), I (i : Int)], 2, 1, true, false⟩) (fun _ => False) := Aad.new
 generalize hh : h.new ⟨[I (a : Int), I (i : Int)], 2, 1, true, false⟩ = k at s
 have r' : Abq k h.nq 0 1 2 2 ([(a : Int), (i : Int)].map I) := hh ▸ r
 obtain ⟨_, k, F, rfl, rfl⟩ := Apj hT V r' (by omega) (by intro b hb; simp at hb; rcases hb with rfl | rfl <;> omega)
 have w1 : Aan .i64 ((a : Int) + 4) = ((a + 4 : Nat) : Int) := by rw [Aav] <;> omega
 have w2 : Aan .i64 (((a + 4 : Nat) : Int) + i) = ((a + 4 + i : Nat) : Int) := by rw [Aav] <;> omega
 simp only [SS, seval, af119, hh]
 refine ⟨_, _, F, ?_⟩
 simp only [SS, seval, w1, w2]
 rw [Aab h k s.mq]
 exact s
theorem Ada (h : Aac) (a d i : Nat) (ha : a < 1000000) (hd : d < 1000000) (hi : i < 1000000) : Aah P 93 [I a, I d, I i] h fun v h' => v = I ((a + 4 + d + i : Nat) : Int) /\ Aad h h' (fun _ => False) := by
 refine Aaa hT V.v118 rfl ?_
 have r := Abq.fresh h [I (a : Int), I (d : Int), I (i : Int)] 3 1 true false rfl
 have s : Aad h (h.new ⟨[I (a : Int), I (d : Int), I (i : Int)], 3, 1, true, false⟩) (fun _ => False) := Aad.new
 generalize hh : h.new ⟨[I (a : Int), I (d : Int), I (i : Int)], 3, 1, true, false⟩ = k at s
 have r' : Abq k h.nq 0 1 3 3 ([(a : Int), (d : Int), (i : Int)].map I) := hh ▸ r
 obtain ⟨_, k, F, rfl, rfl⟩ := Apj hT V r' (by omega) (by intro b hb; simp at hb; rcases hb with rfl | rfl | rfl <;> omega)
 have w1 : Aan .i64 ((a : Int) + 4) = ((a + 4 : Nat) : Int) := by rw [Aav] <;> omega
 have w2 : Aan .i64 (((a + 4 : Nat) : Int) + d) = ((a + 4 + d : Nat) : Int) := by rw [Aav] <;> omega
 have w3 : Aan .i64 (((a + 4 + d : Nat) : Int) + i) = ((a + 4 + d + i : Nat) : Int) := by rw [Aav] <;> omega
 simp only [SS, seval, af93, hh]
 refine ⟨_, _, F, ?_⟩
 simp only [SS, seval, w1, w2, w3]
 rw [Aab h k s.mq]
 exact s
theorem Awe (h : Aac) (n : Int) (h1 : -1000000000000 <= n) (h2 : n <= 1000000000000) : Aah P 140 [I n] h fun v h' => v = I (Az8 n) /\ h' = h := by
 have F69 : Aah P 81 [I n] h fun v h' => v = .bool (decide (0 <= n /\ n <= 16384)) /\ h' = h := by
  refine Aaa hT V.v69 rfl ?_
  by_cases c1 : n >= 0
  ·by_cases c2 : n <= 16384
   ·have e : (0 <= n /\ n <= 16384) = True := by simp; omega
    simp only [SS, seval, af81, c1, c2]
   ·have e : (0 <= n /\ n <= 16384) = False := by simp; omega
    simp only [SS, seval, af81, c1, c2]
  ·have e : (0 <= n /\ n <= 16384) = False := by simp; omega
   simp only [SS, seval, af81, c1] <;> simp
 obtain ⟨_, k, F, rfl, rfl⟩ := F69
 refine Aaa hT V.v141 rfl ?_
 simp only [SS, seval, af140]
 refine ⟨_, _, F, ?_⟩
 unfold Az8
 by_cases hc : 0 <= n /\ n <= 16384
 ·have e : (0 <= n /\ n <= 16384) = True := by simp [hc]
  have q : n.tdiv 4 = n / 4 := Int.tdiv_eq_ediv_of_nonneg hc.1
  have c4 : ((4 : Int) = 0) = False := by simp
  have w1 : Aan .i64 (n / 4) = n / 4 := Aav (by omega) (by omega)
  have w2 : Aan .i64 (n / 4 + 2) = n / 4 + 2 := Aav (by omega) (by omega)
  rw [if_pos hc]
  simp only [SS, seval, e, q, c4, w1, w2]
 ·have e : (0 <= n /\ n <= 16384) = False := by simp; omega
  rw [if_neg hc]
  simp only [SS, seval, e]
theorem Ajy (H : Has tab) {h : Aac} {b : Nat} {u : Option Nat} {C : List Int} {z c o r : Int} (m : Aa2 h b u C z c o r) (s : Nat) (hs : s < 1000000) {a k : Nat} (a1 : 1 <= a) (a2 : a <= 65536) (k1 : 1 <= k) (k2 : k <= 4) (hw : at0 C s = (a : Int) * 8 + k) : Aah P 18 [(pp b), I s] h fun v h' => v = I ((a : Int) * 8 + k) /\ h' = h := by
 refine Aaa hT V.v76 rfl ?_
 obtain ⟨_, h1, F1, rfl, rfl⟩ := Aco hT V m s hs
 obtain ⟨_, h1, F2, rfl, rfl⟩ := Abt hT V H h1 a k a1 a2 k1 (by omega)
 have c1 : ((k : Int) != 5) = true := by simp; omega
 rw [hw] at F1
 simp only [SS, seval, af18]
 refine ⟨_, _, F1, ?_⟩
 simp only [SS, seval]
 refine ⟨_, _, F2, ?_⟩
 simp only [SS, seval, c1]
end
structure Aje (tab : Nat -> Option Aae) : Prop where
 v110 : tab 53 = some af53
theorem A7w : Aje tabT.get := ⟨by kernel_rfl⟩
structure Vw (h : Aac) (bt bm ut : Nat) (us um : Option Nat) (C : List Int) (z c o r : Int) (T : List Bool) (Sp : List Pr) (bs : Bool) : Prop where
 mem : Aa2 h bm um C z c o r
 blk : h.bqs.get bt = some ⟨[(pp bm), .slice (some ⟨ut, 0, none⟩) T.length T.length, Aal us Sp.length, .slice none 0 0, .bool bs], 5, 5, true, false⟩
 tk : h.bqs.get ut = some ⟨T.map .bool, T.length * 1, 1, true, false⟩
 sp : Abh h us 2 Sp.length (Ady Sp)
 lt : bt < h.nq /\ ut < h.nq
 ne : bt ≠ bm /\ ut ≠ bm /\ ut ≠ bt /\ (∀ y, um = some y -> y ≠ bt /\ y ≠ ut) /\ ∀ y, us = some y -> y ≠ bt /\ y ≠ ut /\ y ≠ bm /\ um ≠ some y
abbrev VwS (bt ut : Nat) (us : Option Nat) (j : Nat) : Prop := j = bt \/ j = ut \/ us = some j
theorem Vw.same {h h' : Aac} {bt bm ut : Nat} {us um : Option Nat} {C : List Int} {z c o r : Int} {T : List Bool} {Sp : List Pr} {bs : Bool} (w : Vw h bt bm ut us um C z c o r T Sp bs) (m : Aad h h' (fun _ => False)) : Vw h' bt bm ut us um C z c o r T Sp bs :=
 ⟨w.mem.same m (fun x => x) (fun _ _ x => x), by rw [m.get bt w.lt.1 (fun x => x)]; exact w.blk, by rw [m.get ut w.lt.2 (fun x => x)]; exact w.tk, w.sp.same m (fun _ _ x => x), ⟨Nat.lt_of_lt_of_le w.lt.1 m.nq, Nat.lt_of_lt_of_le w.lt.2 m.nq⟩, w.ne⟩
theorem Axh (T : List Bool) (a : Nat) : setR T a 0 = T := by
 apply List.ext_getElem?
 intro i
 by_cases h : i < T.length
 ·rw [Afm h, if_neg (by omega), List.getElem?_eq_getElem h]; rfl
 ·rw [List.getElem?_eq_none (by rw [Adi]; omega), List.getElem?_eq_none (by omega)]
theorem A14 (T : List Bool) (a i : Nat) (h : a + i < T.length) : (setR T a i).set (a + i) true = setR T a (i + 1) := by
 apply List.ext_getElem?
 intro j
 rw [List.getElem?_set, Adi]
 by_cases hj : j < T.length
 ·rw [Afm hj, Afm hj]
  by_cases e : a + i = j
  ·rw [if_pos e, if_pos (by omega), if_pos (by omega)]
  ·rw [if_neg e]
   by_cases q : a <= j /\ j < a + i
   ·rw [if_pos q, if_pos (by omega)]
   ·rw [if_neg q, if_neg (by omega)]
 ·rw [if_neg (by omega), List.getElem?_eq_none (by rw [Adi]; omega), List.getElem?_eq_none (by rw [Adi]; omega)]
section
variable (hT : Aa0 P tab) (V : Aea tab)
include hT V
theorem Asn {h : Aac} {x p n cap : Nat} {T : List Bool} (r : Abq h x p 1 n cap (T.map .bool)) (hT2 : ∀ b ∈ T, b = false) (hn : n < 1000000) : Aah P 88 [.slice (some ⟨x, p, none⟩) n cap, .bool true] h fun v h' => v = .bool false /\ h' = h := by
 have hl : T.length = n := by have := r.len; simpa using this
 have F135 : Aah P 122 [.slice (some ⟨x, p, none⟩) n cap, .bool true] h fun v h' => v = I (-1) /\ h' = h := by
  refine Aaa hT V.v135 rfl ?_
  simp only [SS, seval, af122]
  refine Ac6 (fun k ts h' => ∃ i : Nat, k = n - i /\ i <= n /\ h' = h /\ look ts 0 = .slice (some ⟨x, p, none⟩) n cap /\ look ts 1 = .bool true /\ look ts 7 = I n /\ look ts 8 = I i) ?_ (n := n) ⟨0, rfl, Nat.zero_le _, rfl, by simp only [SS, seval], by simp only [SS, seval], by simp only [SS, seval], by simp only [SS, seval] <;> rfl⟩
  rintro k ts h' ⟨i, rfl, i2, rfl, t0, t1, t7, t8⟩
  refine Acf ?_
  by_cases hi : i < n
  ·have ci : ((i : Int) < n) = True := by simp [hi]
   have wi : Aan .i64 ((i : Int) + 1) = ((i + 1 : Nat) : Int) := by rw [Aav] <;> omega
   have hb := hT2 (T[i]'(by omega)) (List.getElem_mem _)
   have rk : h'.rd x (p + i) = some (.bool false) := by
    rw [r.rd (i := i) (by omega), List.getElem?_map, List.getElem?_eq_getElem (show i < T.length by omega), Option.map_some, hb]
   have ct : ((true : Bool) == false) = false := rfl
   simp only [SS, seval, t0, t1, t7, t8, ci, rk, ct, wi]
   exact ⟨n - (i + 1), by omega, i + 1, rfl, by omega, rfl⟩
  ·have ci : ((i : Int) < n) = False := by simp; omega
   simp only [SS, seval, t7, t8, ci]
 obtain ⟨_, h1, F1, rfl, rfl⟩ := F135
 refine Aaa hT V.v126 rfl ?_
 have c1 : ((-1 : Int) >= 0) = False := by simp
 simp only [SS, seval, af88]
 refine ⟨_, _, F1, ?_⟩
 simp only [SS, seval, c1]
theorem Ai7 (V2 : Aje tab) {h : Aac} {bt bm ut : Nat} {us um : Option Nat} {C : List Int} {z c o r : Int} {T : List Bool} {Sp : List Pr} {bs : Bool} (w : Vw h bt bm ut us um C z c o r T Sp bs) {a n : Nat} (a1 : 1 <= a) (n1 : 1 <= n) (hn : a + n <= T.length) (hl : T.length < 1000000) (hf : Avb T a n) :
  Aah P 53 [(pp bt), I a, I n] h fun v h' => v = .bool true /\ Vw h' bt bm ut us um C z c o r (setR T a n) Sp bs /\ Aad h h' (fun j => j = ut) := by
 refine Aaa hT V2.v110 rfl ?_
 have c1 : ((a : Int) < 1) = False := by simp; omega
 have wn : Aan .i64 ((a : Int) + n) = ((a + n : Nat) : Int) := by rw [Aav] <;> omega
 have c2 : (((a + n : Nat) : Int) > T.length) = False := by simp; omega
 have r1 : h.rd bt 1 = some (.slice (some ⟨ut, 0, none⟩) T.length T.length) := Abb w.blk
 have rt : Abq h ut 0 1 T.length T.length (T.map .bool) := ⟨⟨_, w.tk, rfl, by rw [List.drop_zero, Nat.mul_one, List.take_of_length_le (by simp)], by simp⟩, Nat.le_refl _, w.lt.2⟩
 have sl := rt.cut (lo := a) (hi := a + n) (by omega) hn (by omega)
 have rs := rt.sub (lo := a) (hi := a + n) (by omega) hn
 have e1 : a + n - a = n := by omega
 rw [e1] at sl rs
 simp only [Nat.zero_add, Nat.mul_one] at sl rs
 have e2 : (List.drop a (T.map Value.bool)).take n = ((T.drop a).take n).map Value.bool := by rw [List.map_take, List.map_drop]
 rw [e2] at rs
 obtain ⟨_, h1, F1, rfl, rfl⟩ := Asn hT V rs (fun b hb => by
  obtain ⟨i, hi⟩ := List.getElem?_of_mem hb
  rw [List.getElem?_take] at hi
  split at hi
  ·rename_i hin
   rw [List.getElem?_drop, hf (a + i) (by omega) (by omega)] at hi
   exact (Option.some.inj hi).symm
  ·cases hi) (by omega)
 simp only [SS, seval, af53, c1, r1, wn, c2, sl]
 refine ⟨_, _, F1, ?_⟩
 simp only [SS, seval]
 refine Ac6 (fun k ts h' => ∃ i : Nat, k = n - i /\ i <= n /\ look ts 0 = (pp bt) /\ look ts 1 = I a /\ look ts 33 = I n /\ look ts 34 = I i /\ Vw h' bt bm ut us um C z c o r (setR T a i) Sp bs /\ Aad h1 h' (fun j => j = ut)) ?_ (n := n) ⟨0, rfl, Nat.zero_le _, by simp only [SS, seval], by simp only [SS, seval], by simp only [SS, seval], by simp only [SS, seval] <;> rfl, by rw [Axh]; exact w, Aad.refl _ _⟩
 rintro k ts h' ⟨i, rfl, i2, t0, t1, t33, t34, wi', sm⟩
 refine Acf ?_
 by_cases hi : i < n
 ·have ci : ((i : Int) < n) = True := by simp [hi]
  have wi : Aan .i64 ((i : Int) + 1) = ((i + 1 : Nat) : Int) := by rw [Aav] <;> omega
  have wa : Aan .i64 ((a : Int) + i) = ((a + i : Nat) : Int) := by rw [Aav] <;> omega
  have r1' : h'.rd bt 1 = some (.slice (some ⟨ut, 0, none⟩) T.length T.length) := by
   rw [Abb wi'.blk]; simp [Adi]
  have ca : (((a + i : Nat) : Int) < T.length) = True := by simp; omega
  have hw : h'.wrs ut (a + i) [.bool true] = some (h'.setB ut ⟨(setR T a (i + 1)).map .bool, (setR T a (i + 1)).length * 1, 1, true, false⟩) := by
   rw [Ab7 wi'.tk rfl (by simp [Adi]; omega) rfl, <- A14 T a i (by omega)]
   simp [List.map_set]
  have sw : Aad h' (h'.setB ut ⟨(setR T a (i + 1)).map .bool, (setR T a (i + 1)).length * 1, 1, true, false⟩) (fun j => j = ut) := Aad.setB rfl
  have gu : (h'.setB ut ⟨(setR T a (i + 1)).map .bool, (setR T a (i + 1)).length * 1, 1, true, false⟩).bqs.get ut = some ⟨(setR T a (i + 1)).map .bool, (setR T a (i + 1)).length * 1, 1, true, false⟩ := by rw [Aaz, if_pos rfl]
  generalize h'.setB ut ⟨(setR T a (i + 1)).map .bool, (setR T a (i + 1)).length * 1, 1, true, false⟩ = k at hw sw gu
  simp only [SS, seval, t0, t1, t33, t34, ci, wa, r1', ca, hw, wi]
  refine ⟨n - (i + 1), by omega, i + 1, rfl, by omega, rfl, ⟨wi'.mem.same sw (fun e => wi'.ne.2.1 e.symm) (fun y hy e => (wi'.ne.2.2.2.1 y hy).2 e), ?_, gu, wi'.sp.same sw (fun y hy e => (wi'.ne.2.2.2.2 y hy).2.1 e), ⟨Nat.lt_of_lt_of_le wi'.lt.1 sw.nq, Nat.lt_of_lt_of_le wi'.lt.2 sw.nq⟩, wi'.ne⟩, sm.trans sw (fun _ _ x => x)⟩
  rw [sw.get bt wi'.lt.1 (fun e => wi'.ne.2.2.1 e.symm), wi'.blk]
  simp [Adi]
 ·have hin : i = n := by omega
  have ci : ((i : Int) < n) = False := by simp; omega
  simp only [SS, seval, t33, t34, ci]
  rw [Aab h1 h' sm.mq]
  rw [hin] at wi'
  exact ⟨wi', sm⟩
end
structure Ail (tab : Nat -> Option Aae) : Prop where
 v111 : tab 54 = some af54
 v127 : tab 89 = some af89
 v136 : tab 123 = some af123
theorem A7u : Ail tabT.get := ⟨by kernel_rfl, by kernel_rfl, by kernel_rfl⟩
theorem Amp (t : Tr) : ∃ k : Nat, 1 <= k /\ k <= 3 /\ t.word = (t.adr : Int) * 8 + (k : Int) := by
 cases t
 ·exact ⟨1, by omega, by omega, rfl⟩
 ·exact ⟨2, by omega, by omega, rfl⟩
 ·exact ⟨3, by omega, by omega, rfl⟩
theorem A20 {C : List Int} {t : Tr} (h : t.ok C) (hC : C.length <= 65536) : 1 <= t.adr /\ t.adr <= 65536 := by
 cases t with
 | empty a => exact ⟨h.1, by have := h.2; show a <= _; omega⟩
 | leaf a k v => exact ⟨h.1, by have := h.2.1; show a <= _; omega⟩
 | inner a sz sh ch sm ks cs => exact ⟨h.1.1, by have := h.1.2.1; show a <= _; omega⟩
def A6t (P : Program) (t : Tr) : Prop := ∀ (h : Aac) (bt bm ut : Nat) (us um : Option Nat) (C : List Int) (z c o r : Int) (T : List Bool) (Sp : List Pr) (bs : Bool) (lo hi : Int), Vw h bt bm ut us um C z c o r T Sp bs -> t.ok C -> t.ord lo hi -> t.free T -> C.length <= 65536 -> T.length = C.length + 1 -> Sp.length + t.spots.length <= 100000 -> -9223372036854775808 <= lo -> hi <= 9223372036854775807 ->
 Aah P 89 [(pp bt), I t.word, I lo, I hi] h fun v h' => v = .bool true /\ (∃ us', Vw h' bt bm ut us' um C z c o r (t.mq T) (Sp ++ t.spots) (bs || t.busy) /\ ∀ y, us' = some y -> us = some y \/ h.nq <= y) /\ Aad h h' (VwS bt ut us)
section
variable (hT : Aa0 P tab) (V : Aea tab)
include hT V
theorem Apg (H : Has tab) (V3 : Ail tab) {t : Tr} (rec : A6t P t) {h : Aac} {bt bm ut : Nat} {us um : Option Nat} {C : List Int} {z c o r : Int} {T : List Bool} {Sp : List Pr} {bs : Bool} {lo hi : Int} (w : Vw h bt bm ut us um C z c o r T Sp bs) (hok : t.ok C) (hord : t.ord lo hi) (hfree : t.free T) (hC : C.length <= 65536) (hTl : T.length = C.length + 1) {s : Nat} (hs : s < 1000000) (hw : at0 C s = t.word) (hsp : Sp.length + (1 + t.spots.length) <= 100000) (h1 : -9223372036854775808 <= lo) (h2 : hi <= 9223372036854775807) :
  Aah P 54 [(pp bt), I s, I lo, I hi] h fun v h' => v = .bool true /\ (∃ us', Vw h' bt bm ut us' um C z c o r (t.mq T) (Sp ++ (((s : Int), t.word) :: t.spots)) (bs || t.busy) /\ ∀ y, us' = some y -> us = some y \/ h.nq <= y) /\ Aad h h' (VwS bt ut us) := by
 refine Aaa hT V3.v111 rfl ?_
 obtain ⟨k, k1, k2, hk⟩ := Amp t
 obtain ⟨a1, a2⟩ := A20 hok hC
 obtain ⟨_, h, F1, rfl, rfl⟩ := Aco hT V w.mem s hs
 rw [hw] at F1
 have F2 := Abt hT V H h t.adr k a1 a2 k1 (by omega)
 rw [<- hk] at F2
 obtain ⟨_, h, F2, rfl, rfl⟩ := F2
 have F3 := Ajy hT V H w.mem s hs a1 a2 k1 (by omega) (hw.trans hk)
 rw [<- hk] at F3
 obtain ⟨_, h, F3, rfl, rfl⟩ := F3
 have c5 : ((k : Int) == 5) = false := by rw [beq_eq_false_iff_ne]; omega
 have r0 : h.rd bt 0 = some (pp bm) := Abb w.blk
 have r2 : h.rd bt 2 = some (Aal us Sp.length) := Abb w.blk
 have hcell : Abq (h.new ⟨[I s, I t.word], 2, 2, true, false⟩) h.nq 0 2 1 1 [I s, I t.word] := Abq.fresh h [I s, I t.word] 1 2 true false rfl
 have s1 : Aad h (h.new ⟨[I s, I t.word], 2, 2, true, false⟩) (fun _ => False) := Aad.new
 have x1 : (h.new ⟨[I s, I t.word], 2, 2, true, false⟩).nq = h.nq + 1 := rfl
 generalize hh1 : h.new ⟨[I s, I t.word], 2, 2, true, false⟩ = k1' at hcell s1 x1
 have w1 := w.same s1
 obtain ⟨us2, k2', a3, o2, s2, n2⟩ := Ad5 (bytes := 16) w1.sp hcell.src rfl rfl (by omega) (by omega) (by omega)
 have x2 := s2.nq
 have b2 : k2'.bqs.get bt = some ⟨[(pp bm), .slice (some ⟨ut, 0, none⟩) T.length T.length, Aal us Sp.length, .slice none 0 0, .bool bs], 5, 5, true, false⟩ := by
  rw [s2.get bt w1.lt.1 (fun e => (w.ne.2.2.2.2 bt e).1 rfl)]; exact w1.blk
 have w2 : k2'.wrs bt 2 [Aal us2 (Sp.length + 1)] = some (k2'.setB bt ⟨[(pp bm), .slice (some ⟨ut, 0, none⟩) T.length T.length, Aal us2 (Sp.length + 1), .slice none 0 0, .bool bs], 5, 5, true, false⟩) := Ab7 b2 rfl (by simp) rfl
 have s3 : Aad k2' (k2'.setB bt ⟨[(pp bm), .slice (some ⟨ut, 0, none⟩) T.length T.length, Aal us2 (Sp.length + 1), .slice none 0 0, .bool bs], 5, 5, true, false⟩) (fun j => j = bt) := Aad.setB rfl
 have g3 : (k2'.setB bt ⟨[(pp bm), .slice (some ⟨ut, 0, none⟩) T.length T.length, Aal us2 (Sp.length + 1), .slice none 0 0, .bool bs], 5, 5, true, false⟩).bqs.get bt = some ⟨[(pp bm), .slice (some ⟨ut, 0, none⟩) T.length T.length, Aal us2 (Sp.length + 1), .slice none 0 0, .bool bs], 5, 5, true, false⟩ := by rw [Aaz, if_pos rfl]
 generalize hh3 : k2'.setB bt ⟨[(pp bm), .slice (some ⟨ut, 0, none⟩) T.length T.length, Aal us2 (Sp.length + 1), .slice none 0 0, .bool bs], 5, 5, true, false⟩ = k3 at w2 s3 g3
 have x3 := s3.nq
 have us2n : ∀ y, us2 = some y -> y ≠ bt /\ y ≠ ut /\ y ≠ bm /\ um ≠ some y := fun y hy => by
  rcases n2 y hy with e | e
  ·exact w.ne.2.2.2.2 y e
  ·have := w.lt; have := w.mem.lt
   exact ⟨by omega, by omega, by omega, fun e2 => by have := (w.mem.use y e2).2.2.1; omega⟩
 have hSp : (Sp ++ [((s : Int), t.word)]).length = Sp.length + 1 := by simp
 have wv : Vw k3 bt bm ut us2 um C z c o r T (Sp ++ [((s : Int), t.word)]) bs := by
  refine ⟨((w1.mem.same s2 (fun e => (w.ne.2.2.2.2 bm e).2.2.1 rfl) (fun y hy e => (w.ne.2.2.2.2 y e).2.2.2 hy)).same s3 (fun e => w.ne.1 e.symm) (fun y hy => (w.ne.2.2.2.1 y hy).1)), ?_, ?_, ?_, ⟨?_, ?_⟩, w.ne.1, w.ne.2.1, w.ne.2.2.1, w.ne.2.2.2.1, us2n⟩
  ·rw [g3, hSp]
  ·rw [s3.get ut (by have := w.lt; omega) w.ne.2.2.1, s2.get ut (by have := w.lt; omega) (fun e => (w.ne.2.2.2.2 ut e).2.1 rfl)]
   exact w1.tk
  ·have := o2.same s3 (fun y hy e => (us2n y hy).1 e)
   rw [hSp, Ah2]
   exact this
  ·have := w.lt; omega
  ·have := w.lt; omega
 obtain ⟨_, h4, F4, rfl, ⟨us4, wv4, n4⟩, s4⟩ := rec k3 bt bm ut us2 um C z c o r T (Sp ++ [((s : Int), t.word)]) bs lo hi wv hok hord hfree hC hTl (by rw [hSp]; omega) h1 h2
 have sf : Aad h h4 (VwS bt ut us) := (((s1.mono (T := VwS bt ut us) (fun _ x => x.elim)).trans s2 (fun j hj e => .inr (.inr e))).trans s3 (fun j hj e => .inl e)).trans s4 (fun j hj e => by
  rcases e with e | e | e
  ·exact .inl e
  ·exact .inr (.inl e)
  ·rcases n2 j e with e2 | e2
   ·exact .inr (.inr e2)
   ·omega)
 simp only [SS, seval, af54, r0]
 refine ⟨_, _, F1, ?_⟩
 simp only [SS, seval]
 refine ⟨_, _, F2, ?_⟩
 simp only [SS, seval, c5, r0]
 refine ⟨_, _, F3, ?_⟩
 simp only [SS, seval, r2, hh1, a3, w2]
 refine ⟨_, _, F4, ?_⟩
 simp only [SS, seval]
 rw [Aab h h4 sf.mq]
 refine ⟨⟨us4, ?_, fun y hy => ?_⟩, sf⟩
 ·rw [List.append_assoc] at wv4; exact wv4
 ·rcases n4 y hy with e | e
  ·exact (n2 y e).imp_right (fun e => by omega)
  ·exact .inr (by omega)
end
def Akf (x : Acb) : Acb := (.seq (.ops [qB 8 false]) (.seq (.ops [qM 19 0, qN 20 19, qF 21 0 20, qL 22 21, qM 9 22]) (.seq (.ops [qM 23 9, qM 24 1, qA 25 24 0, qD 26 21 [(.t 23), (.t 25)], qM 27 9, qM 28 1, qA 29 28 2, qD 30 21 [(.t 27), (.t 29)], qM 10 26, qM 11 30]) (.seq (.seq (.ops [qM 31 10, ⟨(some 32), .p (.bin .lss false (.t 31) (.c (.int .i64 2))), none⟩, qM 33 32, qG 34 10 33 false, qG 35 9 33 false, ⟨(some 36), .call 46 [(.t 35)], some (33, false)⟩, ⟨(some 37), .p (.bin .gtr false (.t 34) (.t 36)), some (33, false)⟩, qO 38 33 37, qM 39 38, qG 40 0 39 false, qG 41 1 39 false, qG 42 10 39 false, ⟨(some 43), .p (.bin .mul false (.c (.int .i64 2)) (.t 42)), some (39, false)⟩, ⟨(some 44), .p (.bin .add false (.c (.int .i64 4)) (.t 43)), some (39, false)⟩, ⟨(some 45), .call 53 [(.t 40), (.t 41), (.t 44)], some (39, false)⟩, ⟨(some 46), .p (.not (.t 45)), some (39, false)⟩, qO 47 39 46, qM 48 47, qG 49 11 48 false, ⟨(some 50), .p (.bin .neq false (.t 49) (.c (.int .i64 0))), some (48, false)⟩, qG 51 50 48 false, qG 52 11 51 true, ⟨(some 53), .p (.bin .neq false (.t 52) (.c (.int .i64 1))), some (51, true)⟩, ⟨(some 54), .p (.pick (.t 51) (.t 53) (.c (.bool false))), some (48, false)⟩, qO 55 48 54]) (.cond (.t 55) (.seq (.ops [qB 8 false]) .ret) .skip)) (.seq (.seq (.ops [qM 56 11, qE 57 56 1, qM 58 57, qG 59 9 58 false, qG 60 1 58 false, ⟨(some 61), .p (.bin .add false (.t 60) (.c (.int .i64 3))), some (58, false)⟩, ⟨(some 62), .call 21 [(.t 59), (.t 61)], some (58, false)⟩, qG 63 9 58 false, qG 64 1 58 false, ⟨(some 65), .p (.bin .add false (.t 64) (.c (.int .i64 1))), some (58, false)⟩, ⟨(some 66), .call 21 [(.t 63), (.t 65)], some (58, false)⟩, ⟨(some 67), .call 140 [(.t 66)], some (58, false)⟩, ⟨(some 68), .p (.bin .geq false (.t 62) (.t 67)), some (58, false)⟩, qO 69 58 68]) (.cond (.t 69) (.ops [qM 70 0, qN 71 70, qF 72 4 71, ⟨none, .e (.store 1 (.t 72) (.c (.bool true))), none⟩]) .skip)) x)))))
def Ai8 : Acb := (.seq (.ops [qM 73 10, qM 74 2, qM 12 73, qM 13 74]) (.seq (.seq (.ops [qI 14 1]) (.block 0 (.loop (.seq (.seq (.ops [qM 75 14, qM 76 12, qJ 77 75 76]) (.cond (.t 77) .skip (.exit 0))) (.seq (.block 1 (.seq (.ops [qM 80 9, qM 81 1, qM 82 14, qD 83 119 [(.t 81), (.t 82)], qD 84 21 [(.t 80), (.t 83)], qM 15 84]) (.seq (.seq (.ops [qM 85 15, qM 86 13, ⟨(some 87), .p (.bin .leq false (.t 85) (.t 86)), none⟩, qM 88 87, qG 89 15 88 false, qG 90 3 88 false, ⟨(some 91), .p (.bin .gtr false (.t 89) (.t 90)), some (88, false)⟩, qO 92 88 91]) (.cond (.t 92) (.seq (.ops [qB 8 false]) .ret) .skip)) (.ops [qM 93 15, qM 13 93])))) (.ops [qM 78 14, qA 79 78 1, qM 14 79])))))) (.seq (.seq (.ops [qM 94 12, qI 95 0]) (.block 2 (.loop (.seq (.ops [qJ 96 95 94]) (.seq (.cond (.t 96) .skip (.exit 2)) (.seq (.block 3 (.seq (.ops [qM 97 95, qM 16 97]) (.seq (.ops [qM 98 2, qM 99 3, qM 17 98, qM 18 99]) (.seq (.seq (.ops [qM 100 16, ⟨(some 101), .p (.bin .gtr false (.t 100) (.c (.int .i64 0))), none⟩]) (.cond (.t 101) (.ops [qM 102 9, qM 103 1, qM 104 16, qD 105 119 [(.t 103), (.t 104)], qD 106 21 [(.t 102), (.t 105)], qM 17 106]) .skip)) (.seq (.seq (.ops [qM 107 16, qM 108 12, ⟨(some 109), .p (.bin .sub false (.t 108) (.c (.int .i64 1))), none⟩, qJ 110 107 109]) (.cond (.t 110) (.ops [qM 111 9, qM 112 1, qM 113 16, qA 114 113 1, qD 115 119 [(.t 112), (.t 114)], qD 116 21 [(.t 111), (.t 115)], ⟨(some 117), .p (.bin .sub false (.t 116) (.c (.int .i64 1))), none⟩, qM 18 117]) .skip)) (.seq (.ops [qM 118 0, qM 119 1, qM 120 12, qM 121 16, qD 122 93 [(.t 119), (.t 120), (.t 121)], qM 123 17, qM 124 18, qD 125 54 [(.t 118), (.t 122), (.t 123), (.t 124)], qY 126 125]) (.cond (.t 126) (.seq (.ops [qB 8 false]) .ret) .skip))))))) (.ops [qA 127 95 1, qM 95 127]))))))) (.seq (.ops [qB 8 true]) .ret))))
theorem A1o : af123.body = Akf Ai8 := (rfl)
theorem Vw.mono {h h' : Aac} {bt bm ut : Nat} {us um : Option Nat} {C : List Int} {z c o r : Int} {T : List Bool} {Sp : List Pr} {bs : Bool} (w : Vw h bt bm ut us um C z c o r T Sp bs) (m : Aad h h' (fun _ => False)) : Vw h' bt bm ut us um C z c o r T Sp bs := w.same m
theorem Au5 (cs : List Tr) (s : Nat) : ∀ i, i <= cs.length -> (Abx s (cs.take i)).length <= (Abx s cs).length := by
 intro i _
 have e : cs = cs.take i ++ cs.drop i := (List.take_append_drop i cs).symm
 rw [show (Abx s cs).length = (Abx s (cs.take i ++ cs.drop i)).length by rw [<- e], Ahu, List.length_append]
 omega
section
variable (hT : Aa0 P tab) (V : Aea tab)
include hT V
theorem Ava (H : Has tab) (V3 : Ail tab) {a : Nat} {ks : List Int} {cs : List Tr} (ih : ∀ t ∈ cs, A6t P t) {h0 h : Aac} {bt bm ut : Nat} {us um : Option Nat} {C : List Int} {z c o r : Int} {T : List Bool} {Sp : List Pr} {bs : Bool} {lo hi : Int} {d : Nat} (hd : d = cs.length) (w : Vw h bt bm ut us um C z c o r T Sp bs) (q2 : a + (2 * d + 4) <= C.length + 1) (q3 : d = ks.length + 1) (q4 : 1 <= ks.length)
  (hks : ∀ i (h : i < ks.length), at0 C (a + 5 + i) = ks[i]) (hcs : ∀ i (h : i < cs.length), at0 C (a + 4 + cs.length + i) = cs[i].word) (hoks : oks C cs) (hord : A0b lo hi ks cs) (hfree : Apv T cs) (hC : C.length <= 65536) (hTl : T.length = C.length + 1) (hsp : Sp.length + (Abx (a + 4 + d) cs).length <= 100000) (h1 : -9223372036854775808 <= lo) (h2 : hi <= 9223372036854775807) (sm : Aad h0 h (VwS bt ut us))
  (ts : Ai.T Value) (t0 : look ts 0 = (pp bt)) (t1 : look ts 1 = I a) (t2 : look ts 2 = I lo) (t3 : look ts 3 = I hi) (t9 : look ts 9 = (pp bm)) (t10 : look ts 10 = I d) :
  cwf P 128 none Ai8 ts h (fnQ h0 [.tmp 8] fun v h' => v = .bool true /\ (∃ us', Vw h' bt bm ut us' um C z c o r (Ac8 T cs) (Sp ++ Abx (a + 4 + d) cs) (bs || Agz cs) /\ ∀ y, us' = some y -> us = some y \/ h0.nq <= y) /\ Aad h0 h' (VwS bt ut us)) := by
 obtain ⟨_, hkeys⟩ := Aps hord
 have nx := sm.nq
 have hkl : ∀ i (h : i < ks.length), -9223372036854775808 <= (if i = 0 then lo else (ks[i - 1]?).getD 0) /\ (if i = 0 then lo else (ks[i - 1]?).getD 0) < ks[i] /\ ks[i] <= hi := by
  intro i
  induction i with
  | zero => intro h; have := hkeys 0 h; simp at this ⊢; omega
  | succ i ih =>
   intro h
   have h3 := hkeys (i + 1) h
   have h4 := ih (by omega)
   simp only [Nat.add_sub_cancel, List.getElem?_eq_getElem (show i < ks.length by omega), Option.getD_some] at h3 ⊢
   rw [if_neg (by omega)] at h3 ⊢
   omega
 simp only [SS, seval, Ai8, t2, t10]
 refine Ac6 (fun k ts h' => ∃ i : Nat, k = d - i /\ 1 <= i /\ i <= d /\ look ts 0 = (pp bt) /\ look ts 1 = I a /\ look ts 2 = I lo /\ look ts 3 = I hi /\ look ts 9 = (pp bm) /\ look ts 12 = I d /\ look ts 13 = I (if i = 1 then lo else (ks[i - 2]?).getD 0) /\ look ts 14 = I i /\ Aad h h' (fun _ => False)) ?_ (n := d - 1) ⟨1, rfl, Nat.le_refl _, by omega, by simp only [SS, seval, t0], by simp only [SS, seval, t1], by simp only [SS, seval, t2], by simp only [SS, seval, t3], by simp only [SS, seval, t9], by simp only [SS, seval], by simp only [SS, seval], by simp only [SS, seval] <;> rfl, Aad.refl _ _⟩
 rintro k ts h' ⟨i, rfl, i1, i2, t0, t1, t2, t3, t9, t12, t13, t14, s1⟩
 have w' := w.same s1
 refine Acf ?_
 by_cases hi' : i < d
 ·have ci : ((i : Int) < d) = True := by simp [hi']
  have wi : Aan .i64 ((i : Int) + 1) = ((i + 1 : Nat) : Int) := by rw [Aav] <;> omega
  obtain ⟨_, h3, F1, rfl, s3⟩ := Ahq hT V h' a i (by omega) (by omega)
  have w3 := w'.same s3
  obtain ⟨_, h3, F2, rfl, rfl⟩ := Aco hT V w3.mem (a + 4 + i) (by omega)
  have hk := hks (i - 1) (by omega)
  rw [show a + 5 + (i - 1) = a + 4 + i by omega] at hk
  rw [hk] at F2
  have hb := hkl (i - 1) (by omega)
  have e13 : (if i = 1 then lo else (ks[i - 2]?).getD 0) = (if i - 1 = 0 then lo else (ks[i - 1 - 1]?).getD 0) := by
   by_cases q : i = 1
   ·rw [if_pos q, if_pos (by omega)]
   ·rw [if_neg q, if_neg (by omega), show i - 2 = i - 1 - 1 by omega]
  rw [e13] at t13
  have c1 : (ks[i - 1]'(by omega) <= (if i - 1 = 0 then lo else (ks[i - 1 - 1]?).getD 0)) = False := by simp; omega
  have c2 : (ks[i - 1]'(by omega) > hi) = False := by simp; omega
  simp only [SS, seval, t1, t9, t12, t14, ci]
  refine ⟨_, _, F1, ?_⟩
  simp only [SS, seval]
  refine ⟨_, _, F2, ?_⟩
  simp only [SS, seval, t0, t1, t2, t3, t9, t12, t13, t14, c1, c2, wi]
  refine ⟨d - (i + 1), by omega, i + 1, rfl, by omega, by omega, ?_, rfl, s1.trans s3 (fun _ _ x => x)⟩
  rw [if_neg (by omega), show i + 1 - 2 = i - 1 by omega, List.getElem?_eq_getElem (show i - 1 < ks.length by omega)]
  rfl
 ·have hid : i = d := by omega
  have ci : ((i : Int) < d) = False := by simp; omega
  simp only [SS, seval, t12, t14, ci]
  refine Ac6 (fun k ts h4 => ∃ (i : Nat) (us' : Option Nat), k = d - i /\ i <= d /\ look ts 0 = (pp bt) /\ look ts 1 = I a /\ look ts 2 = I lo /\ look ts 3 = I hi /\ look ts 9 = (pp bm) /\ look ts 12 = I d /\ look ts 94 = I d /\ look ts 95 = I i /\ Vw h4 bt bm ut us' um C z c o r (Ac8 T (cs.take i)) (Sp ++ Abx (a + 4 + d) (cs.take i)) (bs || Agz (cs.take i)) /\ (∀ y, us' = some y -> us = some y \/ h0.nq <= y) /\ Aad h0 h4 (VwS bt ut us)) ?_ (n := d) ⟨0, us, rfl, Nat.zero_le _, by simp only [SS, seval, t0], by simp only [SS, seval, t1], by simp only [SS, seval, t2], by simp only [SS, seval, t3], by simp only [SS, seval, t9], by simp only [SS, seval, t12], by simp only [SS, seval], by simp only [SS, seval] <;> rfl, by simpa [Ac8, Abx, Agz] using w', fun y hy => .inl hy, sm.trans s1 (fun _ _ x => x.elim)⟩
  rintro k ts h4 ⟨j, us', rfl, j2, t0, t1, t2, t3, t9, t12, t94, t95, w4, n4, s4⟩
  refine Acf ?_
  by_cases hj : j < d
  ·have cj : ((j : Int) < d) = True := by simp [hj]
   have wj : Aan .i64 ((j : Int) + 1) = ((j + 1 : Nat) : Int) := by rw [Aav] <;> omega
   have wd : Aan .i64 ((d : Int) - 1) = ((d - 1 : Nat) : Int) := by rw [Aav] <;> omega
   have hjc : j < cs.length := by omega
   have hspl : (Abx (a + 4 + d) (cs.take (j + 1))).length <= (Abx (a + 4 + d) cs).length := Au5 cs _ _ (by omega)
   have hspa : Abx (a + 4 + d) (cs.take (j + 1)) = Abx (a + 4 + d) (cs.take j) ++ ((((a + 4 + d + j : Nat) : Int), cs[j].word) :: cs[j].spots) := by
    rw [Aef cs hjc, Ahu]
    simp only [List.length_take, Nat.min_eq_left (Nat.le_of_lt hjc), Abx, List.append_nil]
   have hma : Ac8 T (cs.take (j + 1)) = cs[j].mq (Ac8 T (cs.take j)) := by
    rw [Aef cs hjc, Amq]; rfl
   have hba : (bs || Agz (cs.take (j + 1))) = ((bs || Agz (cs.take j)) || cs[j].busy) := by
    rw [Aef cs hjc, Ap4]; simp [Agz, Bool.or_assoc]
   have hordj := Az6 hord j hjc
   have hfj := A0t hfree hjc
   have hTj : (Ac8 T (cs.take j)).length = C.length + 1 := by
    have : ∀ (cs : List Tr) (T : List Bool), (Ac8 T cs).length = T.length := by
     intro cs
     induction cs with
     | nil => intro T; rfl
     | cons t cs ih => intro T; show (Ac8 (t.mq T) cs).length = _; rw [ih, Anm]
    rw [this]; exact hTl
   have cell : at0 C (a + 4 + d + j) = cs[j].word := by
    have := hcs j hjc
    rwa [<- hd] at this
   generalize hfr : (if j = 0 then lo else (ks[j - 1]?).getD 0) = fr at hordj
   generalize hto : (if j < ks.length then (ks[j]?).getD 0 - 1 else hi) = to at hordj
   have hfr1 : -9223372036854775808 <= fr := by
    rw [<- hfr]
    by_cases q : j = 0
    ·rw [if_pos q]; exact h1
    ·rw [if_neg q]
     have := hkl (j - 1) (by omega)
     rw [List.getElem?_eq_getElem (show j - 1 < ks.length by omega)]
     simp only [Option.getD_some]; omega
   have hto1 : to <= 9223372036854775807 := by
    rw [<- hto]
    by_cases q : j < ks.length
    ·rw [if_pos q]
     have := hkl j q
     rw [List.getElem?_eq_getElem q]
     simp only [Option.getD_some]; omega
    ·rw [if_neg q]; exact h2
   have slot : ∀ h5, Aad h4 h5 (fun _ => False) -> ∃ v h6, Aa3 P 93 [I a, I d, I j] h5 (I ((a + 4 + d + j : Nat) : Int)) v /\ Aa3 P 54 [(pp bt), I ((a + 4 + d + j : Nat) : Int), I fr, I to] v (.bool true) h6 /\ (∃ us', Vw h6 bt bm ut us' um C z c o r (Ac8 T (cs.take (j + 1))) (Sp ++ Abx (a + 4 + d) (cs.take (j + 1))) (bs || Agz (cs.take (j + 1))) /\ ∀ y, us' = some y -> us = some y \/ h0.nq <= y) /\ Aad h0 h6 (VwS bt ut us) := by
    intro h5 s5
    obtain ⟨_, k5, F1, rfl, s6⟩ := Ada hT V h5 a d j (by omega) (by omega) (by omega)
    have w5 := (w4.same s5).same s6
    obtain ⟨_, h6, F2, rfl, ⟨us6, w6, n6⟩, s7⟩ := Apg hT V H V3 (ih cs[j] (List.getElem_mem _)) w5 (Ad4 hoks j hjc) hordj hfj hC hTj (s := a + 4 + d + j) (by omega) cell (by
     rw [hspa] at hspl
     simp only [List.length_append, List.length_cons] at hspl ⊢
     omega) hfr1 hto1
    have x4 := s4.nq
    have x5 := s5.nq
    have x6 := s6.nq
    refine ⟨k5, h6, F1, F2, ⟨us6, ?_, fun y hy => ?_⟩, ((s4.trans s5 (fun _ _ x => x.elim)).trans s6 (fun _ _ x => x.elim)).trans s7 (fun q hq e => ?_)⟩
    ·rw [hspa, hma, hba, <- List.append_assoc]; exact w6
    ·rcases n6 y hy with e | e
     ·exact n4 y e
     ·exact .inr (by omega)
    ·rcases e with e | e | e
     ·exact .inl e
     ·exact .inr (.inl e)
     ·rcases n4 q e with e2 | e2
      ·exact .inr (.inr e2)
      ·omega
   have key : ∀ (m : Nat) (h5 : Aac), 1 <= m -> m <= ks.length -> Aad h4 h5 (fun _ => False) -> ∃ h6, Aa3 P 119 [I a, I m] h5 (I ((a + 4 + m : Nat) : Int)) h6 /\ Aa3 P 21 [(pp bm), I ((a + 4 + m : Nat) : Int)] h6 (I ((ks[m - 1]?).getD 0)) h6 /\ Aad h4 h6 (fun _ => False) := by
    intro m h5 m1 m2 s5
    obtain ⟨_, h6, F1, rfl, s6⟩ := Ahq hT V h5 a m (by omega) (by omega)
    obtain ⟨_, h6, F2, rfl, rfl⟩ := Aco hT V ((w4.same s5).same s6).mem (a + 4 + m) (by omega)
    have hk := hks (m - 1) (by omega)
    rw [show a + 5 + (m - 1) = a + 4 + m by omega] at hk
    rw [hk] at F2
    refine ⟨h6, F1, ?_, s5.trans s6 (fun _ _ x => x)⟩
    rw [List.getElem?_eq_getElem (show m - 1 < ks.length by omega)]; exact F2
   rcases Nat.eq_zero_or_pos j with j0 | jp
   ·subst j0
    have c0 : ((0 : Int) > 0) = False := by simp
    have cl : ((0 : Int) < ((d - 1 : Nat) : Int)) = True := by simp; omega
    have cj : ((0 : Int) < (d : Int)) = True := by simp; omega
    have w01 : Aan .i64 1 = 1 := by decide
    obtain ⟨h6, K1, K2, sk⟩ := key 1 h4 (Nat.le_refl _) (by omega) (Aad.refl _ _)
    obtain ⟨k5, h7, F1, F2, ⟨us7, w7, n7⟩, s7⟩ := slot h6 sk
    have e1 : (ks[1 - 1]?).getD 0 - 1 = to := by
     rw [<- hto, if_pos (by omega)]
    have hb := hkl 0 (by omega)
    have wk : Aan .i64 ((ks[1 - 1]?).getD 0 - 1) = to := by
     rw [e1, Aav]
     ·rw [<- e1, show 1 - 1 = 0 by rfl, List.getElem?_eq_getElem (show 0 < ks.length by omega)]
      simp only [Option.getD_some] at hb ⊢
      simp at hb; omega
     ·omega
    have efr : lo = fr := by rw [<- hfr, if_pos rfl]
    rw [<- efr] at F2
    simp only [SS, seval, t1, t2, t3, t9, t12, t94, t95, cj, c0, wd, cl, w01]
    refine ⟨_, _, K1, ?_⟩
    simp only [SS, seval]
    refine ⟨_, _, K2, ?_⟩
    simp only [SS, seval, t0, t1, t12, wk]
    refine ⟨_, _, F1, ?_⟩
    simp only [SS, seval]
    refine ⟨_, _, F2, ?_⟩
    simp only [SS, seval, t0, t1, t2, t3, t9, t12, t94, t95, w01]
    exact ⟨d - 1, by omega, 1, us7, rfl, by omega, rfl, w7, n7, s7⟩
   ·have c0 : ((j : Int) > 0) = True := by simp; omega
    obtain ⟨h6, K1, K2, sk⟩ := key j h4 jp (by omega) (Aad.refl _ _)
    have efr : (ks[j - 1]?).getD 0 = fr := by rw [<- hfr, if_neg (by omega)]
    rw [efr] at K2
    by_cases jl : j < ks.length
    ·have cl : ((j : Int) < ((d - 1 : Nat) : Int)) = True := by simp; omega
     obtain ⟨h8, L1, L2, sl⟩ := key (j + 1) h6 (by omega) (by omega) sk
     obtain ⟨k5, h7, F1, F2, ⟨us7, w7, n7⟩, s7⟩ := slot h8 sl
     have hb := hkl j jl
     have e1 : (ks[j + 1 - 1]?).getD 0 - 1 = to := by
      rw [<- hto, if_pos jl, show j + 1 - 1 = j by omega]
     have wk : Aan .i64 ((ks[j + 1 - 1]?).getD 0 - 1) = to := by
      rw [e1, Aav]
      ·rw [<- e1, show j + 1 - 1 = j by omega, List.getElem?_eq_getElem jl]
       simp only [Option.getD_some]
       omega
      ·omega
     have wk' : Aan .i64 ((ks[j]?).getD 0 - 1) = to := by have := wk; rwa [show j + 1 - 1 = j by omega] at this
     simp only [SS, seval, t1, t2, t3, t9, t94, t95, cj, c0]
     refine ⟨_, _, K1, ?_⟩
     simp only [SS, seval]
     refine ⟨_, _, K2, ?_⟩
     simp only [SS, seval, t1, t9, t12, wd, cl, wj]
     refine ⟨_, _, L1, ?_⟩
     simp only [SS, seval]
     refine ⟨_, _, L2, ?_⟩
     simp only [SS, seval, t0, t1, t12, wk, wk']
     refine ⟨_, _, F1, ?_⟩
     simp only [SS, seval]
     refine ⟨_, _, F2, ?_⟩
     simp only [SS, seval, t0, t1, t2, t3, t9, t12, t94, t95, wj]
     exact ⟨d - (j + 1), by omega, j + 1, us7, rfl, by omega, rfl, w7, n7, s7⟩
    ·have cl : ((j : Int) < ((d - 1 : Nat) : Int)) = False := by simp; omega
     obtain ⟨k5, h7, F1, F2, ⟨us7, w7, n7⟩, s7⟩ := slot h6 sk
     have eto : hi = to := by rw [<- hto, if_neg jl]
     rw [<- eto] at F2
     simp only [SS, seval, t1, t2, t3, t9, t94, t95, cj, c0]
     refine ⟨_, _, K1, ?_⟩
     simp only [SS, seval]
     refine ⟨_, _, K2, ?_⟩
     simp only [SS, seval, t0, t1, t12, wd, cl]
     refine ⟨_, _, F1, ?_⟩
     simp only [SS, seval]
     refine ⟨_, _, F2, ?_⟩
     simp only [SS, seval, t0, t1, t2, t3, t9, t12, t94, t95, wj]
     exact ⟨d - (j + 1), by omega, j + 1, us7, rfl, by omega, rfl, w7, n7, s7⟩
  ·have hjd : j = d := by omega
   have cj : ((j : Int) < d) = False := by simp; omega
   simp only [SS, seval, t94, t95, cj]
   rw [Aab h0 h4 s4.mq]
   rw [hjd, hd, List.take_length, <- hd] at w4
   exact ⟨⟨us', w4, n4⟩, s4⟩
end
structure Aku (tab : Nat -> Option Aae) : Prop where
 v77 : tab 34 = some af34
theorem A77 : Aku tabT.get := ⟨by kernel_rfl⟩
section
variable (hT : Aa0 P tab) (V : Aea tab)
include hT V
theorem Aww (H : Has tab) (V2 : Aje tab) (V3 : Ail tab) {a : Nat} {sz sh ch sm : Int} {ks : List Int} {cs : List Tr} (ih : ∀ t ∈ cs, A6t P t) {h : Aac} {bt bm ut : Nat} {us um : Option Nat} {C : List Int} {z c o r : Int} {T : List Bool} {Sp : List Pr} {bs : Bool} {lo hi : Int} (w : Vw h bt bm ut us um C z c o r T Sp bs) (hok : (Tr.inner a sz sh ch sm ks cs).ok C) (hord : (Tr.inner a sz sh ch sm ks cs).ord lo hi) (hfree : (Tr.inner a sz sh ch sm ks cs).free T) (hC : C.length <= 65536) (hTl : T.length = C.length + 1) (hsp : Sp.length + (Tr.inner a sz sh ch sm ks cs).spots.length <= 100000) (h1 : -9223372036854775808 <= lo) (h2 : hi <= 9223372036854775807) :
  Aah P 123 [(pp bt), I a, I lo, I hi] h fun v h' => v = .bool true /\ (∃ us', Vw h' bt bm ut us' um C z c o r ((Tr.inner a sz sh ch sm ks cs).mq T) (Sp ++ (Tr.inner a sz sh ch sm ks cs).spots) (bs || (Tr.inner a sz sh ch sm ks cs).busy) /\ ∀ y, us' = some y -> us = some y \/ h.nq <= y) /\ Aad h h' (VwS bt ut us) := by
 refine Aaa hT V3.v136 rfl ?_
 obtain ⟨⟨q1, q2, q3, q4⟩, ⟨p0, p1, p2, p3, p4⟩, hsh, hsz, hks, hcs, hoks⟩ := hok
 have hord' : A0b lo hi ks cs := hord
 obtain ⟨hf1, hf2⟩ := hfree
 have hsp' : Sp.length + (Abx (a + 4 + cs.length) cs).length <= 100000 := hsp
 obtain ⟨d, hd⟩ : ∃ d, d = cs.length := ⟨_, rfl⟩
 rw [<- hd] at q2 q3 p0 hf1 hf2 hsp'
 have F0 : Aa3 P 21 [(pp bm), I a] h (I d) h := by
  obtain ⟨_, _, F, e, rfl⟩ := Aco hT V w.mem a (by omega)
  rw [p0] at e; subst e; exact F
 have F2 : Aa3 P 21 [(pp bm), I ((a + 2 : Nat) : Int)] h (I sh) h := by
  obtain ⟨_, _, F, e, rfl⟩ := Aco hT V w.mem (a + 2) (by omega)
  rw [p2] at e; subst e; exact F
 obtain ⟨_, h, F4, rfl, rfl⟩ := Ai9 hT H w.mem
 have r0 : h.rd bt 0 = some (pp bm) := Abb w.blk
 obtain ⟨_, h5, F5, rfl, w5, s5⟩ := Ai7 hT V V2 w q1 (n := 2 * d + 4) (by omega) (by omega) (by omega) hf1
 have m5 := w5.mem
 obtain ⟨_, h5, F6, rfl, rfl⟩ := Awe hT V h5 sz hsz.1 hsz.2
 have F7 : Aa3 P 21 [(pp bm), I ((a + 3 : Nat) : Int)] h5 (I ch) h5 := by
  obtain ⟨_, _, F, e, rfl⟩ := Aco hT V m5 (a + 3) (by omega)
  rw [p3] at e; subst e; exact F
 have F8 : Aa3 P 21 [(pp bm), I ((a + 1 : Nat) : Int)] h5 (I sz) h5 := by
  obtain ⟨_, _, F, e, rfl⟩ := Aco hT V m5 (a + 1) (by omega)
  rw [p1] at e; subst e; exact F
 have wz : Aan .i64 ((a : Int) + 0) = (a : Int) := by rw [Aav] <;> omega
 have w1 : Aan .i64 ((a : Int) + 1) = ((a + 1 : Nat) : Int) := by rw [Aav] <;> omega
 have w2 : Aan .i64 ((a : Int) + 2) = ((a + 2 : Nat) : Int) := by rw [Aav] <;> omega
 have w3 : Aan .i64 ((a : Int) + 3) = ((a + 3 : Nat) : Int) := by rw [Aav] <;> omega
 have wd1 : Aan .i64 (2 * (d : Int)) = ((2 * d : Nat) : Int) := by rw [Aav] <;> omega
 have wd2 : Aan .i64 (4 + ((2 * d : Nat) : Int)) = ((2 * d + 4 : Nat) : Int) := by rw [Aav] <;> omega
 have c1 : ((d : Int) < 2) = False := by simp; omega
 have c2 : ((d : Int) > C.length) = False := by simp; omega
 have fin : ∀ (h6 : Aac) (B1 : Bool) (ts : Ai.T Value), B1 = (bs || (decide (sh = 1) || decide (Az8 sz <= ch))) -> Vw h6 bt bm ut us um C z c o r (setR T a (2 * d + 4)) Sp B1 -> Aad h h6 (VwS bt ut us) -> look ts 0 = (pp bt) -> look ts 1 = I a -> look ts 2 = I lo -> look ts 3 = I hi -> look ts 9 = (pp bm) -> look ts 10 = I d ->
   cwf P 128 none Ai8 ts h6 (fnQ h [.tmp 8] fun v h' => v = .bool true /\ (∃ us', Vw h' bt bm ut us' um C z c o r ((Tr.inner a sz sh ch sm ks cs).mq T) (Sp ++ (Tr.inner a sz sh ch sm ks cs).spots) (bs || (Tr.inner a sz sh ch sm ks cs).busy) /\ ∀ y, us' = some y -> us = some y \/ h.nq <= y) /\ Aad h h' (VwS bt ut us)) := by
  intro h6 B1 ts hB w6 s6 t0 t1 t2 t3 t9 t10
  have := Ava hT V H V3 ih (h0 := h) hd w6 q2 q3 q4 hks hcs hoks hord' hf2 hC (by rw [Adi]; exact hTl) hsp' h1 h2 s6 ts t0 t1 t2 t3 t9 t10
  have e1 : (Tr.inner a sz sh ch sm ks cs).mq T = Ac8 (setR T a (2 * d + 4)) cs := by rw [hd]; rfl
  have e2 : (Tr.inner a sz sh ch sm ks cs).spots = Abx (a + 4 + d) cs := by rw [hd]; rfl
  have e3 : (bs || (Tr.inner a sz sh ch sm ks cs).busy) = (B1 || Agz cs) := by
   rw [hB]; simp only [Tr.busy, Bool.or_assoc]
  rw [e1, e2, e3]
  exact this
 have mark : ∃ h6, h5.wrs bt 4 [.bool true] = some h6 /\ Vw h6 bt bm ut us um C z c o r (setR T a (2 * d + 4)) Sp true /\ Aad h h6 (VwS bt ut us) := by
  have ww : h5.wrs bt 4 [.bool true] = some (h5.setB bt ⟨[(pp bm), .slice (some ⟨ut, 0, none⟩) (setR T a (2 * d + 4)).length (setR T a (2 * d + 4)).length, Aal us Sp.length, .slice none 0 0, .bool true], 5, 5, true, false⟩) := Ab7 w5.blk rfl (by simp) rfl
  have sw : Aad h5 (h5.setB bt ⟨[(pp bm), .slice (some ⟨ut, 0, none⟩) (setR T a (2 * d + 4)).length (setR T a (2 * d + 4)).length, Aal us Sp.length, .slice none 0 0, .bool true], 5, 5, true, false⟩) (fun j => j = bt) := Aad.setB rfl
  refine ⟨_, ww, ⟨w5.mem.same sw (fun e => w.ne.1 e.symm) (fun y hy => (w.ne.2.2.2.1 y hy).1), ?_, ?_, w5.sp.same sw (fun y hy e => (w.ne.2.2.2.2 y hy).1 e), ⟨Nat.lt_of_lt_of_le w5.lt.1 sw.nq, Nat.lt_of_lt_of_le w5.lt.2 sw.nq⟩, w.ne⟩, (s5.mono (T := VwS bt ut us) (fun j e => .inr (.inl e))).trans sw (fun j hj e => .inl e)⟩
  ·rw [Aaz, if_pos rfl]
  ·rw [Aaz, if_neg w.ne.2.2.1]; exact w5.tk
 obtain ⟨h6, ww, w6, s6⟩ := mark
 show cwf P 128 none af123.body _ h (fnQ h [.tmp 8] _)
 rw [A1o]
 rcases hsh with rfl | rfl
 ·have k0 : ((0 : Int) != 0) = false := rfl
  by_cases hb : Az8 sz <= ch
  ·have cb : (ch >= Az8 sz) = True := by simp; omega
   simp only [SS, seval, Akf, r0, wz]
   refine ⟨_, _, F0, ?_⟩
   simp only [SS, seval, w2]
   refine ⟨_, _, F2, ?_⟩
   simp only [SS, seval, c1]
   refine ⟨_, _, F4, ?_⟩
   simp only [SS, seval, c2, wd1, wd2]
   refine ⟨_, _, F5, ?_⟩
   simp only [SS, seval, k0, w3]
   refine ⟨_, _, F7, ?_⟩
   simp only [SS, seval, w1]
   refine ⟨_, _, F8, ?_⟩
   simp only [SS, seval]
   refine ⟨_, _, F6, ?_⟩
   simp only [SS, seval, cb, ww]
   exact fin h6 true _ (by simp [hb]) w6 s6 (by simp only [SS, seval]) (by simp only [SS, seval]) (by simp only [SS, seval]) (by simp only [SS, seval]) (by simp only [SS, seval]) (by simp only [SS, seval])
  ·have cb : (ch >= Az8 sz) = False := by simp; omega
   simp only [SS, seval, Akf, r0, wz]
   refine ⟨_, _, F0, ?_⟩
   simp only [SS, seval, w2]
   refine ⟨_, _, F2, ?_⟩
   simp only [SS, seval, c1]
   refine ⟨_, _, F4, ?_⟩
   simp only [SS, seval, c2, wd1, wd2]
   refine ⟨_, _, F5, ?_⟩
   simp only [SS, seval, k0, w3]
   refine ⟨_, _, F7, ?_⟩
   simp only [SS, seval, w1]
   refine ⟨_, _, F8, ?_⟩
   simp only [SS, seval]
   refine ⟨_, _, F6, ?_⟩
   simp only [SS, seval, cb]
   exact fin h5 bs _ (by simp [hb]) w5 (s5.mono (fun j e => .inr (.inl e))) (by simp only [SS, seval]) (by simp only [SS, seval]) (by simp only [SS, seval]) (by simp only [SS, seval]) (by simp only [SS, seval]) (by simp only [SS, seval])
 ·have k0 : ((1 : Int) != 0) = true := rfl
  simp only [SS, seval, Akf, r0, wz]
  refine ⟨_, _, F0, ?_⟩
  simp only [SS, seval, w2]
  refine ⟨_, _, F2, ?_⟩
  simp only [SS, seval, c1]
  refine ⟨_, _, F4, ?_⟩
  simp only [SS, seval, c2, wd1, wd2]
  refine ⟨_, _, F5, ?_⟩
  simp only [SS, seval, k0, ww]
  exact fin h6 true _ (by simp) w6 s6 (by simp only [SS, seval]) (by simp only [SS, seval]) (by simp only [SS, seval]) (by simp only [SS, seval]) (by simp only [SS, seval]) (by simp only [SS, seval])
theorem Aun (H : Has tab) (V2 : Aje tab) (V3 : Ail tab) : ∀ t : Tr, A6t P t := by
 intro t
 induction t using Tr.ind with
 | e a =>
  intro h bt bm ut us um C z c o r T Sp bs lo hi w hok hord hfree hC hTl hsp h1 h2
  refine Aaa hT V3.v127 rfl ?_
  have hok' : 1 <= a /\ a <= C.length := hok
  have hf : Avb T a 1 := hfree
  obtain ⟨_, h, F1, rfl, rfl⟩ := Ab0 hT V H h a 1 hok'.1 (by omega) (by omega) (by omega)
  obtain ⟨_, h, F2, rfl, rfl⟩ := Abt hT V H h a 1 hok'.1 (by omega) (by omega) (by omega)
  obtain ⟨_, h3, F3, rfl, w3, s3⟩ := Ai7 hT V V2 w hok'.1 (n := 1) (by omega) (by omega) (by omega) hf
  have ew : (Tr.empty a).word = (a : Int) * 8 + ((1 : Nat) : Int) := rfl
  rw [ew]
  simp only [SS, seval, af89]
  refine ⟨_, _, F1, ?_⟩
  simp only [SS, seval]
  refine ⟨_, _, F2, ?_⟩
  simp only [SS, seval]
  refine ⟨_, _, F3, ?_⟩
  simp only [SS, seval]
  rw [Aab h h3 s3.mq]
  refine ⟨⟨us, ?_, fun y hy => .inl hy⟩, s3.mono (fun j e => .inr (.inl e))⟩
  have e1 : Sp ++ (Tr.empty a).spots = Sp := List.append_nil _
  have e2 : (bs || (Tr.empty a).busy) = bs := Bool.or_false _
  rw [e1, e2]; exact w3
 | l a k v =>
  intro h bt bm ut us um C z c o r T Sp bs lo hi w hok hord hfree hC hTl hsp h1 h2
  refine Aaa hT V3.v127 rfl ?_
  obtain ⟨q1, q2, q3, q4⟩ := hok
  have hf : Avb T a 2 := hfree
  have hord' : lo <= k /\ k <= hi := hord
  obtain ⟨_, h, F1, rfl, rfl⟩ := Ab0 hT V H h a 2 q1 (by omega) (by omega) (by omega)
  obtain ⟨_, h, F2, rfl, rfl⟩ := Abt hT V H h a 2 q1 (by omega) (by omega) (by omega)
  have F4 : Aa3 P 21 [(pp bm), I a] h (I k) h := by
   obtain ⟨_, _, F, e, rfl⟩ := Aco hT V w.mem a (by omega)
   rw [q3] at e; subst e; exact F
  obtain ⟨_, h3, F3, rfl, w3, s3⟩ := Ai7 hT V V2 w q1 (n := 2) (by omega) (by omega) (by omega) hf
  have r0 : h.rd bt 0 = some (pp bm) := Abb w.blk
  have wz : Aan .i64 ((a : Int) + 0) = (a : Int) := by rw [Aav] <;> omega
  have ew : (Tr.leaf a k v).word = (a : Int) * 8 + ((2 : Nat) : Int) := rfl
  have cl : (k >= lo) = True := by simp; omega
  have ch : (k <= hi) = True := by simp; omega
  rw [ew]
  simp only [SS, seval, af89]
  refine ⟨_, _, F1, ?_⟩
  simp only [SS, seval]
  refine ⟨_, _, F2, ?_⟩
  simp only [SS, seval, r0, wz]
  refine ⟨_, _, F4, ?_⟩
  simp only [SS, seval]
  refine ⟨_, _, F3, ?_⟩
  simp only [SS, seval, cl, ch]
  rw [Aab h h3 s3.mq]
  refine ⟨⟨us, ?_, fun y hy => .inl hy⟩, s3.mono (fun j e => .inr (.inl e))⟩
  have e1 : Sp ++ (Tr.leaf a k v).spots = Sp := List.append_nil _
  have e2 : (bs || (Tr.leaf a k v).busy) = bs := Bool.or_false _
  rw [e1, e2]; exact w3
 | i a sz sh ch sm ks cs ih =>
  intro h bt bm ut us um C z c o r T Sp bs lo hi w hok hord hfree hC hTl hsp h1 h2
  refine Aaa hT V3.v127 rfl ?_
  have q1 : 1 <= a := hok.1.1
  have q2 : a + (2 * cs.length + 4) <= C.length + 1 := hok.1.2.1
  obtain ⟨_, h, F1, rfl, rfl⟩ := Ab0 hT V H h a 3 q1 (by omega) (by omega) (by omega)
  obtain ⟨_, h, F2, rfl, rfl⟩ := Abt hT V H h a 3 q1 (by omega) (by omega) (by omega)
  obtain ⟨_, h3, F3, rfl, hw3, s3⟩ := Aww hT V H V2 V3 ih w hok hord hfree hC hTl hsp h1 h2
  have ew : (Tr.inner a sz sh ch sm ks cs).word = (a : Int) * 8 + ((3 : Nat) : Int) := rfl
  rw [ew]
  simp only [SS, seval, af89]
  refine ⟨_, _, F1, ?_⟩
  simp only [SS, seval]
  refine ⟨_, _, F2, ?_⟩
  simp only [SS, seval]
  refine ⟨_, _, F3, ?_⟩
  simp only [SS, seval]
  rw [Aab h h3 s3.mq]
  exact ⟨hw3, s3⟩
def A0f (n : Nat) : List Bool := setR (List.replicate (n + 1) false) 1 6
structure Ah6 (C : List Int) (t : Tr) : Prop where
 len : 7 <= C.length /\ C.length <= 65536
 base : at0 C 1 = 1 /\ at0 C 3 = 0
 root : at0 C 6 = t.word
 ok : t.ok C
 ord : t.ord (-9223372036854775808) 9223372036854775807
 free : t.free (A0f C.length)
 few : t.spots.length < 90000
theorem Ae3 (H : Has tab) (V2 : Aje tab) (V3 : Ail tab) (V4 : Aku tab) {h : Aac} {bm : Nat} {um : Option Nat} {C : List Int} {z c o r : Int} {t : Tr} (m : Aa2 h bm um C z c o r) (R : Ah6 C t) :
  Aah P 34 [(pp bm)] h fun v h' => ∃ bt ut us, v = .tuple #[(pp bt), .bool true] /\ Vw h' bt bm ut us um C z c o r (t.mq (A0f C.length)) (((6 : Int), t.word) :: t.spots) t.busy /\ h.nq <= bt /\ Aad h h' (fun _ => False) := by
 refine Aaa hT V4.v77 rfl ?_
 obtain ⟨_, h, F1, rfl, rfl⟩ := Ai9 hT H m
 have hl := R.len
 have hbm := m.lt
 have huml := fun y hy => (m.use y hy).2.2.1
 have wl : Aan .i64 ((C.length : Int) + 1) = ((C.length + 1 : Nat) : Int) := by rw [Aav] <;> omega
 have mk := Az7 (h := h) (s := 1) (bytes := 1) (n := C.length + 1) (zero := [.bool false]) (by omega) (by omega)
 have erep : rep [Value.bool false] (C.length + 1) = (List.replicate (C.length + 1) false).map .bool := by
  generalize C.length + 1 = n
  induction n with
  | zero => rfl
  | succ n ih => rw [rep, ih]; rfl
 rw [erep] at mk
 have s1 : Aad h (h.new ⟨(List.replicate (C.length + 1) false).map .bool, (C.length + 1) * 1, 1, true, false⟩) (fun _ => False) := Aad.new
 have x1 : (h.new ⟨(List.replicate (C.length + 1) false).map .bool, (C.length + 1) * 1, 1, true, false⟩).nq = h.nq + 1 := rfl
 have g1 : (h.new ⟨(List.replicate (C.length + 1) false).map .bool, (C.length + 1) * 1, 1, true, false⟩).bqs.get h.nq = some ⟨(List.replicate (C.length + 1) false).map .bool, (C.length + 1) * 1, 1, true, false⟩ := by rw [Aa5, if_pos rfl]
 generalize hh1 : h.new ⟨(List.replicate (C.length + 1) false).map .bool, (C.length + 1) * 1, 1, true, false⟩ = h1 at mk s1 x1 g1
 have s2 : Aad h1 (h1.new ⟨[(pp bm), .slice (some ⟨h.nq, 0, none⟩) (C.length + 1) (C.length + 1), .slice none 0 0, .slice none 0 0, .bool false], 5, 5, true, false⟩) (fun _ => False) := Aad.new
 have g2 : (h1.new ⟨[(pp bm), .slice (some ⟨h.nq, 0, none⟩) (C.length + 1) (C.length + 1), .slice none 0 0, .slice none 0 0, .bool false], 5, 5, true, false⟩).bqs.get h1.nq = some ⟨[(pp bm), .slice (some ⟨h.nq, 0, none⟩) (C.length + 1) (C.length + 1), .slice none 0 0, .slice none 0 0, .bool false], 5, 5, true, false⟩ := by rw [Aa5, if_pos rfl]
 have x2 : (h1.new ⟨[(pp bm), .slice (some ⟨h.nq, 0, none⟩) (C.length + 1) (C.length + 1), .slice none 0 0, .slice none 0 0, .bool false], 5, 5, true, false⟩).nq = h1.nq + 1 := rfl
 generalize hh2 : h1.new ⟨[(pp bm), .slice (some ⟨h.nq, 0, none⟩) (C.length + 1) (C.length + 1), .slice none 0 0, .slice none 0 0, .bool false], 5, 5, true, false⟩ = h2 at s2 g2 x2
 have w2 : Vw h2 h1.nq bm h.nq none um C z c o r (List.replicate (C.length + 1) false) [] false := by
  refine ⟨(m.same s1 (fun x => x) (fun _ _ x => x)).same s2 (fun x => x) (fun _ _ x => x), ?_, ?_, Abh.nil _ _, ⟨by omega, by omega⟩, by omega, by omega, by omega, fun y hy => ?_, fun y hy => by cases hy⟩
  ·rw [g2]; simp
  ·rw [s2.get h.nq (by omega) (fun x => x), g1]; simp
  ·have := huml y hy; omega
 obtain ⟨_, h3, F3, rfl, w3, s3⟩ := Ai7 hT V V2 w2 (a := 1) (n := 6) (by omega) (by omega) (by simp; omega) (by simp; omega) (fun i h1 h2 => by rw [List.getElem?_replicate, if_pos (by omega)])
 have F4 : Aa3 P 21 [(pp bm), I 1] h3 (I 1) h3 := by
  obtain ⟨_, _, F, e, rfl⟩ := Aco hT V w3.mem 1 (by omega)
  rw [R.base.1] at e; subst e; exact F
 have F5 : Aa3 P 21 [(pp bm), I 3] h3 (I 0) h3 := by
  obtain ⟨_, _, F, e, rfl⟩ := Aco hT V w3.mem 3 (by omega)
  rw [R.base.2] at e; subst e; exact F
 obtain ⟨_, h6, F6, rfl, ⟨us, w6, n6⟩, s6⟩ := Apg hT V H V3 (Aun hT V H V2 V3 t) w3 R.ok R.ord R.free hl.2 (by rw [Adi]; simp) (s := 6) (by omega) R.root (by have := R.few; simp; omega) (by omega) (by omega)
 simp only [SS, seval, af34]
 refine ⟨_, _, F1, ?_⟩
 simp only [SS, seval, wl, Ayp, mk, hh2]
 refine ⟨_, _, F3, ?_⟩
 simp only [SS, seval]
 refine ⟨_, _, F4, ?_⟩
 simp only [SS, seval]
 refine ⟨_, _, F5, ?_⟩
 simp only [SS, seval]
 refine ⟨_, _, F6, ?_⟩
 simp only [SS, seval]
 have sf : Aad h h6 (fun _ => False) := ((s1.trans s2 (fun _ _ x => x)).trans s3 (fun j hj e => by omega)).trans s6 (fun j hj e => by
  have := s3.nq
  rcases e with e | e | e
  ·omega
  ·omega
  ·cases e)
 rw [Aab h h6 sf.mq]
 refine ⟨h1.nq, h.nq, us, rfl, ?_, by omega, sf⟩
 exact w6
end
structure Aiz (tab : Nat -> Option Aae) : Prop where
 v46 : tab 24 = some af24
 v47 : tab 23 = some af23
 v109 : tab 59 = some af59
 v125 : tab 92 = some af92
 v75 : tab 39 = some af39
 v107 : tab 58 = some af58
theorem A7g : Aiz tabT.get := ⟨by kernel_rfl, by kernel_rfl, by kernel_rfl, by kernel_rfl, by kernel_rfl, by kernel_rfl⟩
section
variable (hT : Aa0 P tab) (V : Aea tab)
include hT V
theorem Aud (H : Has tab) (V2 : Aje tab) (V3 : Ail tab) (V4 : Aku tab) (V5 : Aiz tab) {h : Aac} {bm : Nat} {um : Option Nat} {C : List Int} {z c o r : Int} {t : Tr} (m : Aa2 h bm um C z c o r) (R : Ah6 C t) : Aah P 24 [(pp bm)] h fun v h' => v = .bool true /\ Aad h h' (fun _ => False) := by
 refine Aaa hT V5.v46 rfl ?_
 obtain ⟨_, h1, F1, bt, ut, us, rfl, w, _, s1⟩ := Ae3 hT V H V2 V3 V4 m R
 simp only [SS, seval, af24]
 refine ⟨_, _, F1, ?_⟩
 simp only [SS, seval]
 rw [Aab h h1 s1.mq]
 exact s1
theorem Ayn (H : Has tab) (V2 : Aje tab) (V3 : Ail tab) (V4 : Aku tab) (V5 : Aiz tab) {h : Aac} {bm : Nat} {um : Option Nat} {C : List Int} {z c o r : Int} {t : Tr} (m : Aa2 h bm um C z c o r) (R : Ah6 C t) : Aah P 23 [(pp bm)] h fun v h' => v = .bool (!t.busy) /\ Aad h h' (fun _ => False) := by
 refine Aaa hT V5.v47 rfl ?_
 obtain ⟨_, h1, F1, bt, ut, us, rfl, w, _, s1⟩ := Ae3 hT V H V2 V3 V4 m R
 have r4 : h1.rd bt 4 = some (.bool t.busy) := Abb w.blk
 simp only [SS, seval, af23]
 refine ⟨_, _, F1, ?_⟩
 simp only [SS, seval, r4]
 rw [Aab h h1 s1.mq]
 exact s1
omit V in
theorem Ai3 (V5 : Aiz tab) (h : Aac) (p : Option Addr) (a : Int) : Aah P 59 [.pointer p, I a] h fun v h' => v = .func (.func 92) #[] #[(pp h.nq), (pp (h.nq + 1))] /\ h'.rd h.nq 0 = some (.pointer p) /\ h'.rd (h.nq + 1) 0 = some (I a) /\ h'.nq = h.nq + 2 /\ Aad h h' (fun _ => False) := by
 refine Aaa hT V5.v109 rfl ?_
 have s1 : Aad h (h.new ⟨[.pointer p], 1, 1, true, false⟩) (fun _ => False) := Aad.new
 have g1 : (h.new ⟨[.pointer p], 1, 1, true, false⟩).bqs.get h.nq = some ⟨[.pointer p], 1, 1, true, false⟩ := by rw [Aa5, if_pos rfl]
 have x1 : (h.new ⟨[.pointer p], 1, 1, true, false⟩).nq = h.nq + 1 := rfl
 simp only [SS, seval, af59, A45]
 generalize h.new ⟨[.pointer p], 1, 1, true, false⟩ = h1 at s1 g1 x1
 have s2 : Aad h1 (h1.new ⟨[I a], 1, 1, true, false⟩) (fun _ => False) := Aad.new
 have g2 : (h1.new ⟨[I a], 1, 1, true, false⟩).bqs.get h1.nq = some ⟨[I a], 1, 1, true, false⟩ := by rw [Aa5, if_pos rfl]
 have x2 : (h1.new ⟨[I a], 1, 1, true, false⟩).nq = h1.nq + 1 := rfl
 generalize h1.new ⟨[I a], 1, 1, true, false⟩ = h2 at s2 g2 x2
 have sf := s1.trans s2 (fun _ _ x => x)
 rw [Aab h h2 sf.mq]
 rw [x1] at g2
 refine ⟨by rw [x1], ?_, ?_, by omega, sf⟩
 ·rw [Abb (by rw [s2.get h.nq (by omega) (fun x => x)]; exact g1)]; rfl
 ·rw [Abb g2]; rfl
theorem Ah4 (H : Has tab) (V5 : Aiz tab) {yv : Value} {bm : Nat} {um : Option Nat} {C : List Int} {z c o r : Int} {a d pm pa : Nat} {cs : List Tr} (hd : d = cs.length) (hC : C.length <= 65536) (ha : a + 4 + 2 * d < 1000000) (h0 : at0 C a = d) (hcs : ∀ i (h : i < cs.length), at0 C (a + 4 + cs.length + i) = cs[i].word) (hoks : oks C cs) (yf : Av4 yv [93]) (yg : Av4 yv [18]) (J : Nat -> Aac -> Prop)
  (Jm : ∀ i h, J i h -> Aa2 h bm um C z c o r /\ h.rd pm 0 = some (pp bm) /\ h.rd pa 0 = some (I a)) (Js : ∀ i h h', J i h -> Aad h h' (fun _ => False) -> J i h') (Jk : ∀ i h h', J i h -> J (i + 1) h' -> h'.mq = h.mq)
  (Jy : ∀ i (hi : i < cs.length) h, J i h -> Ar8 P yv [I i, I cs[i].word] h fun v h' => v = .bool true /\ J (i + 1) h') {h : Aac} (j0 : J 0 h) :
  Aah P 92 [yv, (pp pm), (pp pa)] h fun _ h' => J d h' := by
 refine Aaa hT V5.v125 rfl ?_
 obtain ⟨m0, rm0, ra0⟩ := Jm 0 h j0
 have wz : Aan .i64 ((a : Int) + 0) = (a : Int) := by rw [Aav] <;> omega
 have F0 : Aa3 P 21 [(pp bm), I a] h (I d) h := by
  obtain ⟨_, _, F, e, rfl⟩ := Aco hT V m0 a (by omega)
  rw [h0] at e; subst e; exact F
 simp only [SS, seval, af92, rm0, ra0, wz]
 refine ⟨_, _, F0, ?_⟩
 simp only [SS, seval]
 refine Ac6 (fun k ts h' => ∃ i : Nat, k = d - i /\ i <= d /\ look ts 0 = yv /\ look ts 1 = (pp pm) /\ look ts 2 = (pp pa) /\ look ts 4 = I d /\ look ts 10 = I d /\ look ts 11 = I i /\ J i h' /\ h'.mq = h.mq) ?_ (n := d) ⟨0, rfl, Nat.zero_le _, by simp only [SS, seval], by simp only [SS, seval], by simp only [SS, seval], by simp only [SS, seval], by simp only [SS, seval], by simp only [SS, seval] <;> rfl, j0, rfl⟩
 rintro k ts h' ⟨i, rfl, i2, t0, t1, t2, t4, t10, t11, ji, hmk⟩
 obtain ⟨mm, rm, ra⟩ := Jm i h' ji
 refine Acf ?_
 by_cases hi : i < d
 ·have ci : ((i : Int) < d) = True := by simp [hi]
  have wi : Aan .i64 ((i : Int) + 1) = ((i + 1 : Nat) : Int) := by rw [Aav] <;> omega
  have hic : i < cs.length := by omega
  obtain ⟨_, h2, F1, rfl, s1⟩ := Ada hT V h' a d i (by omega) (by omega) (by omega)
  have j1 := Js i h' h2 ji s1
  obtain ⟨mm2, rm2, ra2⟩ := Jm i h2 j1
  obtain ⟨kk, k1, k2, hk⟩ := Amp cs[i]
  obtain ⟨a1, a2⟩ := A20 (Ad4 hoks i hic) hC
  have hcell : at0 C (a + 4 + d + i) = cs[i].word := by
   have := hcs i hic
   rwa [<- hd] at this
  have F2 := Ajy hT V H mm2 (a + 4 + d + i) (by omega) a1 a2 k1 (by omega) (hcell.trans hk)
  rw [<- hk] at F2
  obtain ⟨_, h2, F2, rfl, rfl⟩ := F2
  obtain ⟨v3, h3, CF, hcf, gv, rfl, j3⟩ := Ats (Jy i hic h2 j1)
  have hmk3 := Jk i h2 h3 j1 j3
  obtain ⟨CG, hcg, g118, g76, gy⟩ : ∃ CG : Aa7, Ajg P CG /\ CG (.fn 93) [I a, I d, I i] h' = some (I ((a + 4 + d + i : Nat) : Int), h2) /\ CG (.fn 18) [(pp bm), I ((a + 4 + d + i : Nat) : Int)] h2 = some (I cs[i].word, h2) /\ Ap1 CG yv [I i, I cs[i].word] h2 = some (.bool true, h3) :=
   ⟨Ad9 93 _ h' _ h2 (Ad9 18 _ h2 _ h2 CF), Aba F1 (Aba F2 hcf), Abd, by rw [Acd (by decide)]; exact Abd, by rw [Ahx yf, Ahx yg]; exact gv⟩
  simp only [SS, seval, t10, t11, ci]
  let Jw : Nat -> Aac -> Prop := fun i k => i <= 1 -> k.rd pm 0 = some (pp bm) /\ k.rd pa 0 = some (I a)
  have w0 : Jw 0 h' := fun _ => ⟨rm, ra⟩
  have w1 : Jw (0 + 1) h2 := fun _ => ⟨rm2, ra2⟩
  have w2 : Jw (0 + 1 + 1) h2 := fun h => by omega
  have w3 : Jw (0 + 1 + 1 + 1) h3 := fun h => by omega
  have l1 : ∀ j k, 0 <= j -> j <= 1 -> Jw j k -> k.rd pm 0 = some (pp bm) := fun j k _ hj q => (q hj).1
  have l2 : ∀ j k, 0 <= j -> j <= 0 -> Jw j k -> k.rd pa 0 = some (I a) := fun j k _ hj q => (q (by omega)).2
  have vp : veq (pp bm) (pp bm) = true := by simp [veq, Atr]
  clear_value Jw
  refine Adz Jw CG hcg w0 ?_
  simp only [SS, seval, w_p, w_r, Afl, Ain, Afr, Ad3, t0, t1, t2, t4, rm, ra, Ac4, vp, g118]
  refine ⟨l1, l2, w1, ?_⟩
  simp only [SS, seval, Awy, Ad3, g76]
  refine ⟨w2, ?_⟩
  simp only [SS, seval, Aiv, w_p, Ain, Ad3, t0, t1, t2, t4, t10, t11, gy]
  refine ⟨w3, ?_⟩
  simp only [wi]
  exact ⟨d - (i + 1), by omega, i + 1, rfl, by omega, rfl, j3, by rw [hmk3, s1.mq, hmk]⟩
 ·have hid : i = d := by omega
  have ci : ((i : Int) < d) = False := by simp; omega
  simp only [SS, seval, t10, t11, ci]
  rw [Aab h h' hmk]
  rw [hid] at ji
  exact ji
end
structure A2p (P : Program) (bm : Nat) (um : Option Nat) (C : List Int) (z c o r : Int) (yv : Value) (Iv : List Pr -> (Nat -> Prop) -> Aac -> Prop) : Prop where
  lt : ∀ acc F h, Iv acc F h -> ∀ j, F j -> j < h.nq
  frame : ∀ acc F h h' S, Iv acc F h -> Ac2 h h' S -> (∀ j, F j -> ¬ S j) -> Iv acc F h'
  mem : ∀ acc F h, Iv acc F h -> ∀ j, F j -> j ≠ bm /\ um ≠ some j
  call : ∀ acc F h (p : Pr), acc.length < 100000 -> Iv acc F h -> Aa2 h bm um C z c o r -> Ar8 P yv [I p.1, I p.2] h fun v h' => v = .bool true /\ ∃ F', Iv (acc ++ [p]) F' h' /\ Aad h h' F /\ ∀ j, F' j -> F j \/ h.nq <= j
  fn : A2z yv = true
  veq : veq yv yv = true
  y118 : Av4 yv [93]
  y76 : Av4 yv [18]
  y58 : Av4 yv [21]
theorem An8 (cs : List Tr) {i : Nat} (hi : i < cs.length) : (Aaf (cs.take i)).length + cs[i].content.length <= (Aaf cs).length := by
  have e : cs = cs.take i ++ (cs[i] :: cs.drop (i + 1)) := by simp
  have e2 : (Aaf cs).length = (Aaf (cs.take i ++ (cs[i] :: cs.drop (i + 1)))).length := by rw [<- e]
  rw [e2, Ack, List.length_append]
  simp only [Aaf, List.length_append]; omega
section
variable (hT : Aa0 P tab) (V : Aea tab)
include hT V
theorem Aio (H : Has tab) (V5 : Aiz tab) (h : Aac) (p : Value) (a k : Nat) (a1 : 1 <= a) (a2 : a <= 65536) (k1 : 1 <= k) (k2 : k <= 3) : Aah P 58 [p, I ((a : Int) * 8 + k)] h fun v h' => v = I ((a : Int) * 8 + k) /\ h' = h := by
  refine Aaa hT V5.v107 rfl ?_
  obtain ⟨_, h1, F, rfl, rfl⟩ := Abt hT V H h a k a1 a2 k1 (by omega)
  have c4 : ((k : Int) == 4) = false := by rw [beq_eq_false_iff_ne]; omega
  simp only [SS, seval, af58]
  refine ⟨_, _, F, ?_⟩
  simp only [SS, seval, c4]
def A71 (P : Program) (bm : Nat) (um : Option Nat) (C : List Int) (z c o r : Int) (yv : Value) (Iv : List Pr -> (Nat -> Prop) -> Aac -> Prop) (t : Tr) : Prop :=
  ∀ (h : Aac) (acc : List Pr) (F : Nat -> Prop), Iv acc F h -> Aa2 h bm um C z c o r -> t.ok C -> acc.length + t.content.length <= 100000 -> Aah P 39 [(pp bm), I t.word, yv] h fun v h' => v = .bool true /\ (∃ F', Iv (acc ++ t.content) F' h' /\ ∀ j, F' j -> F j \/ h.nq <= j) /\ Aad h h' F
theorem Aru (H : Has tab) (V5 : Aiz tab) {bm : Nat} {um : Option Nat} {C : List Int} {z c o r : Int} {yv : Value} {Iv : List Pr -> (Nat -> Prop) -> Aac -> Prop} (cl : A2p P bm um C z c o r yv Iv) (hC : C.length <= 65536) : ∀ t : Tr, A71 P bm um C z c o r yv Iv t := by
  intro t
  induction t using Tr.ind with
  | e a =>
    intro h acc F iv m hok hacc
    refine Aaa hT V5.v75 rfl ?_
    have q1 : 1 <= a := hok.1
    have q2 : a <= C.length := hok.2
    have hFl := cl.lt acc F h iv
    have ew : (Tr.empty a).word = (a : Int) * 8 + ((1 : Nat) : Int) := rfl
    have hys := Agm cl.fn
    have s1 : Aad h (h.new ⟨[(pp bm)], 1, 1, true, false⟩) (fun _ => False) := Aad.new
    have g1 : (h.new ⟨[(pp bm)], 1, 1, true, false⟩).bqs.get h.nq = some ⟨[(pp bm)], 1, 1, true, false⟩ := by rw [Aa5, if_pos rfl]
    have x1 : (h.new ⟨[(pp bm)], 1, 1, true, false⟩).nq = h.nq + 1 := rfl
    generalize hh1 : h.new ⟨[(pp bm)], 1, 1, true, false⟩ = h1 at s1 g1 x1
    have s2 : Aad h1 (h1.new ⟨[yv], 1, 1, true, false⟩) (fun _ => False) := Aad.new
    have g2 : (h1.new ⟨[yv], 1, 1, true, false⟩).bqs.get h1.nq = some ⟨[yv], 1, 1, true, false⟩ := by rw [Aa5, if_pos rfl]
    have x2 : (h1.new ⟨[yv], 1, 1, true, false⟩).nq = h1.nq + 1 := rfl
    generalize hh2 : h1.new ⟨[yv], 1, 1, true, false⟩ = h2 at s2 g2 x2
    have s3 : Aad h2 (h2.new ⟨[.bool false], 1, 1, true, false⟩) (fun _ => False) := Aad.new
    have g3 : (h2.new ⟨[.bool false], 1, 1, true, false⟩).bqs.get h2.nq = some ⟨[.bool false], 1, 1, true, false⟩ := by rw [Aa5, if_pos rfl]
    have x3 : (h2.new ⟨[.bool false], 1, 1, true, false⟩).nq = h2.nq + 1 := rfl
    generalize hh3 : h2.new ⟨[.bool false], 1, 1, true, false⟩ = h3 at s3 g3 x3
    have s03 : Aad h h3 (fun _ => False) := (s1.trans s2 (fun _ _ x => x)).trans s3 (fun _ _ x => x)
    have k1 : h3.bqs.get h.nq = some ⟨[(pp bm)], 1, 1, true, false⟩ := by rw [s3.get h.nq (by omega) (fun x => x), s2.get h.nq (by omega) (fun x => x)]; exact g1
    have k2 : h3.bqs.get (h.nq + 1) = some ⟨[yv], 1, 1, true, false⟩ := by rw [s3.get (h.nq + 1) (by omega) (fun x => x), <- x1]; exact g2
    have k3 : h3.bqs.get (h.nq + 2) = some ⟨[.bool false], 1, 1, true, false⟩ := by rw [show h.nq + 2 = h2.nq by omega]; exact g3
    have r1 : h3.rd h.nq 0 = some (pp bm) := Abb k1
    obtain ⟨_, h3, F107, rfl, rfl⟩ := Aio hT V H V5 h3 (pp bm) a 1 q1 (by omega) (by omega) (by omega)
    obtain ⟨_, h3, F91, rfl, rfl⟩ := Ab0 hT V H h3 a 1 q1 (by omega) (by omega) (by omega)
    obtain ⟨_, h3, F108, rfl, rfl⟩ := Abt hT V H h3 a 1 q1 (by omega) (by omega) (by omega)
    rw [show h.nq + 2 = h2.nq by omega] at k3
    have w6 : h3.wrs h2.nq 0 [.bool true] = some (h3.setB h2.nq ⟨[.bool true], 1, 1, true, false⟩) := Ab7 k3 rfl (by simp) rfl
    have s6 : Aad h3 (h3.setB h2.nq ⟨[.bool true], 1, 1, true, false⟩) (fun j => j = h2.nq) := Aad.setB rfl
    have g7 : (h3.setB h2.nq ⟨[.bool true], 1, 1, true, false⟩).bqs.get h2.nq = some ⟨[.bool true], 1, 1, true, false⟩ := by rw [Aaz, if_pos rfl]
    generalize h3.setB h2.nq ⟨[.bool true], 1, 1, true, false⟩ = Z at w6 s6 g7
    have r6 : Z.rd h2.nq 0 = some (.bool true) := Abb g7
    rw [ew]
    simp only [SV, SS, seval, af39, A45, hh1, hys, hh2, hh3, r1]
    refine ⟨_, _, F107, ?_⟩
    simp only [SS, seval]
    refine ⟨_, _, F91, ?_⟩
    simp only [SS, seval]
    refine ⟨_, _, F108, ?_⟩
    simp only [SS, seval, w6, r6]
    have sf : Aad h Z (fun j => j = h2.nq) := (s03.mono (T := fun j => j = h2.nq) (fun _ x => x.elim)).trans s6 (fun _ _ x => x)
    have sf' : Aad h Z (fun _ => False) := s03.trans s6 (fun j hj e => by omega)
    rw [Aab h Z sf.mq]
    have e0 : acc ++ (Tr.empty a).content = acc := List.append_nil _
    rw [e0]
    exact ⟨⟨F, cl.frame _ _ _ _ _ iv sf'.toB (fun _ _ x => x), fun j hj => .inl hj⟩, sf'.mono (fun _ x => x.elim)⟩
  | l a k v =>
    intro h acc F iv m hok hacc
    refine Aaa hT V5.v75 rfl ?_
    obtain ⟨q1, q2, q3, q4⟩ := hok
    have hbm := m.lt
    have huml := fun y hy => (m.use y hy).2.2.1
    have hFl := cl.lt acc F h iv
    have hFm := cl.mem acc F h iv
    have ew : (Tr.leaf a k v).word = (a : Int) * 8 + ((2 : Nat) : Int) := rfl
    have hys := Agm cl.fn
    have s1 : Aad h (h.new ⟨[(pp bm)], 1, 1, true, false⟩) (fun _ => False) := Aad.new
    have g1 : (h.new ⟨[(pp bm)], 1, 1, true, false⟩).bqs.get h.nq = some ⟨[(pp bm)], 1, 1, true, false⟩ := by rw [Aa5, if_pos rfl]
    have x1 : (h.new ⟨[(pp bm)], 1, 1, true, false⟩).nq = h.nq + 1 := rfl
    generalize hh1 : h.new ⟨[(pp bm)], 1, 1, true, false⟩ = h1 at s1 g1 x1
    have s2 : Aad h1 (h1.new ⟨[yv], 1, 1, true, false⟩) (fun _ => False) := Aad.new
    have g2 : (h1.new ⟨[yv], 1, 1, true, false⟩).bqs.get h1.nq = some ⟨[yv], 1, 1, true, false⟩ := by rw [Aa5, if_pos rfl]
    have x2 : (h1.new ⟨[yv], 1, 1, true, false⟩).nq = h1.nq + 1 := rfl
    generalize hh2 : h1.new ⟨[yv], 1, 1, true, false⟩ = h2 at s2 g2 x2
    have s3 : Aad h2 (h2.new ⟨[.bool false], 1, 1, true, false⟩) (fun _ => False) := Aad.new
    have g3 : (h2.new ⟨[.bool false], 1, 1, true, false⟩).bqs.get h2.nq = some ⟨[.bool false], 1, 1, true, false⟩ := by rw [Aa5, if_pos rfl]
    have x3 : (h2.new ⟨[.bool false], 1, 1, true, false⟩).nq = h2.nq + 1 := rfl
    generalize hh3 : h2.new ⟨[.bool false], 1, 1, true, false⟩ = h3 at s3 g3 x3
    have s03 : Aad h h3 (fun _ => False) := (s1.trans s2 (fun _ _ x => x)).trans s3 (fun _ _ x => x)
    have k1 : h3.bqs.get h.nq = some ⟨[(pp bm)], 1, 1, true, false⟩ := by rw [s3.get h.nq (by omega) (fun x => x), s2.get h.nq (by omega) (fun x => x)]; exact g1
    have k2 : h3.bqs.get (h.nq + 1) = some ⟨[yv], 1, 1, true, false⟩ := by rw [s3.get (h.nq + 1) (by omega) (fun x => x), <- x1]; exact g2
    have k3 : h3.bqs.get (h.nq + 2) = some ⟨[.bool false], 1, 1, true, false⟩ := by rw [show h.nq + 2 = h2.nq by omega]; exact g3
    have r1 : h3.rd h.nq 0 = some (pp bm) := Abb k1
    have r2 : h3.rd h1.nq 0 = some yv := by rw [x1, Abb k2]; rfl
    obtain ⟨_, h3, F107, rfl, rfl⟩ := Aio hT V H V5 h3 (pp bm) a 2 q1 (by omega) (by omega) (by omega)
    obtain ⟨_, h3, F91, rfl, rfl⟩ := Ab0 hT V H h3 a 2 q1 (by omega) (by omega) (by omega)
    obtain ⟨_, h3, F108, rfl, rfl⟩ := Abt hT V H h3 a 2 q1 (by omega) (by omega) (by omega)
    have m3 := m.same s03 (fun x => x) (fun _ _ x => x)
    have Fk : Aa3 P 21 [(pp bm), I a] h3 (I k) h3 := by
      obtain ⟨_, _, F, e, rfl⟩ := Aco hT V m3 a (by omega)
      rw [q3] at e; subst e; exact F
    have Fv : Aa3 P 21 [(pp bm), I ((a + 1 : Nat) : Int)] h3 (I v) h3 := by
      obtain ⟨_, _, F, e, rfl⟩ := Aco hT V m3 (a + 1) (by omega)
      rw [q4] at e; subst e; exact F
    have iv3 : Iv acc F h3 := cl.frame _ _ _ _ _ iv s03.toB (fun _ _ x => x)
    obtain ⟨vy, h4, CF, hcf, gv, rfl, F', iv4, s4, hF'⟩ := Ats (cl.call acc F h3 (k, v) (by have : (Tr.leaf a k v).content.length = 1 := rfl; omega) iv3 m3)
    have x4 := s4.nq
    have nF : ∀ j, h.nq <= j -> ¬ F j := fun j hj hf => by have := hFl j hf; omega
    have wz : Aan .i64 ((a : Int) + 0) = (a : Int) := by rw [Aav] <;> omega
    have wa : Aan .i64 ((a : Int) + 1) = ((a + 1 : Nat) : Int) := by rw [Aav] <;> omega
    rw [show h.nq + 2 = h2.nq by omega] at k3
    have k4 : h4.bqs.get h2.nq = some ⟨[.bool false], 1, 1, true, false⟩ := by rw [s4.get h2.nq (by omega) (nF _ (by omega))]; exact k3
    have w6 : h4.wrs h2.nq 0 [.bool true] = some (h4.setB h2.nq ⟨[.bool true], 1, 1, true, false⟩) := Ab7 k4 rfl (by simp) rfl
    have s6 : Aad h4 (h4.setB h2.nq ⟨[.bool true], 1, 1, true, false⟩) (fun j => j = h2.nq) := Aad.setB rfl
    have g7 : (h4.setB h2.nq ⟨[.bool true], 1, 1, true, false⟩).bqs.get h2.nq = some ⟨[.bool true], 1, 1, true, false⟩ := by rw [Aaz, if_pos rfl]
    generalize h4.setB h2.nq ⟨[.bool true], 1, 1, true, false⟩ = Z at w6 s6 g7
    have x6 := s6.nq
    have r6 : Z.rd h2.nq 0 = some (.bool true) := Abb g7
    obtain ⟨CG, hcg, gk, gvv, gy⟩ : ∃ CG : Aa7, Ajg P CG /\ CG (.fn 21) [(pp bm), I a] h3 = some (I k, h3) /\ CG (.fn 21) [(pp bm), I ((a + 1 : Nat) : Int)] h3 = some (I v, h3) /\ Ap1 CG yv [I k, I v] h3 = some (.bool true, h4) := by
      refine ⟨Ad9 21 _ h3 _ h3 (Ad9 21 _ h3 _ h3 CF), Aba Fk (Aba Fv hcf), Abd, ?_, by rw [Ahx cl.y58, Ahx cl.y58]; exact gv⟩
      unfold Ad9
      rw [if_neg (by
        rintro ⟨_, e, _⟩
        simp only [List.cons.injEq, Value.int.injEq, true_and, and_true] at e
        omega), if_pos ⟨rfl, rfl, rfl⟩]
    rw [ew]
    simp only [SV, SS, seval, af39, A45, hh1, hys, hh2, hh3, r1]
    refine ⟨_, _, F107, ?_⟩
    simp only [SS, seval]
    refine ⟨_, _, F91, ?_⟩
    simp only [SS, seval]
    refine ⟨_, _, F108, ?_⟩
    simp only [SS, seval]
    let Jw : Nat -> Aac -> Prop := fun i q => i <= 2 -> q.rd h1.nq 0 = some yv /\ q.rd h.nq 0 = some (pp bm)
    have w0 : Jw 0 h3 := fun _ => ⟨r2, r1⟩
    have w1 : Jw (0 + 1) h3 := fun _ => ⟨r2, r1⟩
    have w2 : Jw (0 + 1 + 1) h3 := fun _ => ⟨r2, r1⟩
    have w3 : Jw (0 + 1 + 1 + 1) h4 := fun h => by omega
    have w4 : Jw (0 + 1 + 1 + 1 + 1) Z := fun h => by omega
    have l1 : ∀ j q, 0 <= j -> j <= 2 -> Jw j q -> q.rd h1.nq 0 = some yv := fun j q _ hj x => (x hj).1
    have l2 : ∀ j q, 0 <= j -> j <= 0 -> Jw j q -> q.rd h.nq 0 = some (pp bm) := fun j q _ hj x => (x (by omega)).2
    have l3 : ∀ j q, 0 <= j -> j <= 1 -> Jw j q -> q.rd h.nq 0 = some (pp bm) := fun j q _ hj x => (x (by omega)).2
    have vp : veq (pp bm) (pp bm) = true := by simp [veq, Atr]
    clear_value Jw
    refine Adz Jw CG hcg w0 ?_
    simp only [SS, seval, w_p, w_r, Afl, Ain, Afr, Ad3, r1, r2, vp, wz, gk]
    refine ⟨l1, cl.veq, l2, w1, l3, ?_⟩
    simp only [SS, seval, Awy, Ad3, wa, gvv]
    refine ⟨w2, ?_⟩
    simp only [SS, seval, w_e, Ad3, gy]
    refine ⟨w3, ?_⟩
    simp only [SS, seval, Aiv, Ad3, w6]
    refine ⟨w4, ?_⟩
    simp only [Ay3, Option.some.injEq, exists_eq_left', true_and, r6]
    have sf : Aad h Z F := ((s03.mono (T := F) (fun _ x => x.elim)).trans s4 (fun _ _ x => x)).trans s6 (fun j hj e => by omega)
    rw [Aab h Z sf.mq]
    refine ⟨⟨F', ?_, fun j hj => (hF' j hj).imp_right (fun e => by omega)⟩, sf⟩
    exact cl.frame _ _ _ _ _ iv4 s6.toB (fun j hj e => (hF' j hj).elim (nF j (by omega)) (fun e2 => by omega))
  | i a sz sh ch sm ks cs ih =>
    intro h acc F iv m hok hacc
    refine Aaa hT V5.v75 rfl ?_
    obtain ⟨⟨q1, q2, q3, q4⟩, ⟨p0, p1, p2, p3, p4⟩, hsh, hsz, hks, hcs, hoks⟩ := hok
    have hbm := m.lt
    have huml := fun y hy => (m.use y hy).2.2.1
    have hFl := cl.lt acc F h iv
    have hFm := cl.mem acc F h iv
    have ew : (Tr.inner a sz sh ch sm ks cs).word = (a : Int) * 8 + ((3 : Nat) : Int) := rfl
    have hys := Agm cl.fn
    have s1 : Aad h (h.new ⟨[(pp bm)], 1, 1, true, false⟩) (fun _ => False) := Aad.new
    have g1 : (h.new ⟨[(pp bm)], 1, 1, true, false⟩).bqs.get h.nq = some ⟨[(pp bm)], 1, 1, true, false⟩ := by rw [Aa5, if_pos rfl]
    have x1 : (h.new ⟨[(pp bm)], 1, 1, true, false⟩).nq = h.nq + 1 := rfl
    generalize hh1 : h.new ⟨[(pp bm)], 1, 1, true, false⟩ = h1 at s1 g1 x1
    have s2 : Aad h1 (h1.new ⟨[yv], 1, 1, true, false⟩) (fun _ => False) := Aad.new
    have g2 : (h1.new ⟨[yv], 1, 1, true, false⟩).bqs.get h1.nq = some ⟨[yv], 1, 1, true, false⟩ := by rw [Aa5, if_pos rfl]
    have x2 : (h1.new ⟨[yv], 1, 1, true, false⟩).nq = h1.nq + 1 := rfl
    generalize hh2 : h1.new ⟨[yv], 1, 1, true, false⟩ = h2 at s2 g2 x2
    have s3 : Aad h2 (h2.new ⟨[.bool false], 1, 1, true, false⟩) (fun _ => False) := Aad.new
    have g3 : (h2.new ⟨[.bool false], 1, 1, true, false⟩).bqs.get h2.nq = some ⟨[.bool false], 1, 1, true, false⟩ := by rw [Aa5, if_pos rfl]
    have x3 : (h2.new ⟨[.bool false], 1, 1, true, false⟩).nq = h2.nq + 1 := rfl
    generalize hh3 : h2.new ⟨[.bool false], 1, 1, true, false⟩ = h3 at s3 g3 x3
    have s03 : Aad h h3 (fun _ => False) := (s1.trans s2 (fun _ _ x => x)).trans s3 (fun _ _ x => x)
    have k1 : h3.bqs.get h.nq = some ⟨[(pp bm)], 1, 1, true, false⟩ := by rw [s3.get h.nq (by omega) (fun x => x), s2.get h.nq (by omega) (fun x => x)]; exact g1
    have k2 : h3.bqs.get (h.nq + 1) = some ⟨[yv], 1, 1, true, false⟩ := by rw [s3.get (h.nq + 1) (by omega) (fun x => x), <- x1]; exact g2
    have k3 : h3.bqs.get (h.nq + 2) = some ⟨[.bool false], 1, 1, true, false⟩ := by rw [show h.nq + 2 = h2.nq by omega]; exact g3
    have r1 : h3.rd h.nq 0 = some (pp bm) := Abb k1
    obtain ⟨_, h3, F107, rfl, rfl⟩ := Aio hT V H V5 h3 (pp bm) a 3 q1 (by omega) (by omega) (by omega)
    obtain ⟨_, h3, F91, rfl, rfl⟩ := Ab0 hT V H h3 a 3 q1 (by omega) (by omega) (by omega)
    obtain ⟨_, h3, F108, rfl, rfl⟩ := Abt hT V H h3 a 3 q1 (by omega) (by omega) (by omega)
    obtain ⟨_, h4, F109, rfl, c1, c2, x4, s4⟩ := Ai3 hT V5 h3 (some ⟨bm, 0, none⟩) a
    rw [ew]
    simp only [SV, SS, seval, af39, A45, hh1, hys, hh2, hh3, r1]
    refine ⟨_, _, F107, ?_⟩
    simp only [SS, seval]
    refine ⟨_, _, F91, ?_⟩
    simp only [SS, seval]
    refine ⟨_, _, F108, ?_⟩
    simp only [SS, seval, r1]
    refine ⟨_, _, F109, ?_⟩
    simp only [Ai1, Ab1, Akj, Ajk, Aci, Alk]
    refine A2u (fun t => look t 3 = (pp h.nq) /\ look t 5 = (pp h1.nq) /\ look t 6 = (pp h2.nq) /\ look t 33 = .func (.func 92) #[] #[(pp h3.nq), (pp (h3.nq + 1))]) ⟨by simp only [SS, seval], by simp only [SS, seval], by simp only [SS, seval], by simp only [SS, seval]⟩ ?_
    rintro tsX ⟨t3, t5, t6, t33⟩
    refine Aqc t33 (fun k kts kn kps kasg kbody kst kpd => ?_)
    have s4E : Ac2 h3 (h4.enter k) (fun _ => False) := s4.toB.trans (Ak0 h4 k) (fun _ _ x => x)
    have xE : (h4.enter k).nq = h4.nq + 2 := rfl
    have lE : (h4.enter k).lqs.get (h4.nq + 1) = some k := by rw [Aim, if_pos rfl]
    have s0E : Ac2 h (h4.enter k) (fun _ => False) := s03.toB.trans s4E (fun _ _ x => x)
    have bE : ∀ j, (h4.enter k).bqs.get j = h4.bqs.get j := fun j => rfl
    have p1 : (h4.enter k).rd h.nq 0 = some (pp bm) := by
      rw [Abb (by rw [bE, s4.get h.nq (by omega) (fun x => x)]; exact k1)]; rfl
    have p2' : (h4.enter k).bqs.get h1.nq = some ⟨[yv], 1, 1, true, false⟩ := by rw [bE, s4.get h1.nq (by omega) (fun x => x), x1]; exact k2
    have p3' : (h4.enter k).bqs.get h2.nq = some ⟨[.bool false], 1, 1, true, false⟩ := by rw [bE, s4.get h2.nq (by omega) (fun x => x), show h2.nq = h.nq + 2 by omega]; exact k3
    have e1 : (h4.enter k).rd h3.nq 0 = some (pp bm) := c1
    have e2 : (h4.enter k).rd (h3.nq + 1) 0 = some (I a) := c2
    generalize hE : h4.enter k = E at s4E xE lE s0E p1 p2' p3' e1 e2
    have mE : Aa2 E bm um C z c o r := m.sameB s0E (fun x => x) (fun _ _ x => x)
    have nF : ∀ j, h.nq <= j -> ¬ F j := fun j hj hf => by have := hFl j hf; omega
    have rdk : ∀ (q : Aac) (b : Nat) (v : Value), Aad E q F -> h.nq <= b -> b < E.nq -> E.rd b 0 = some v -> q.rd b 0 = some v := by
      intro q b v s hb hb2 hv
      unfold Aac.rd at hv ⊢
      rw [s.get b hb2 (nF b hb)]; exact hv
    have memk : ∀ q, Aad E q F -> Aa2 q bm um C z c o r := fun q s => mE.same s (fun e => (hFm bm e).1 rfl) (fun y hy e => (hFm y e).2 hy)
    obtain ⟨vv, hX, FX, F', iv', hF', sX⟩ := Ah4 hT V H V5 (yv := .func (.yield (h4.nq + 1)) #[] #[]) (bm := bm) (um := um) (C := C) (z := z) (c := c) (o := o) (r := r) (a := a) (d := cs.length) (pm := h3.nq) (pa := h3.nq + 1) (cs := cs) rfl hC (by omega) p0 hcs hoks (fun f fs cs e => by cases e) (fun f fs cs e => by cases e)
      (fun i q => ∃ F', Iv (acc ++ Aaf (cs.take i)) F' q /\ (∀ j, F' j -> F j \/ E.nq <= j) /\ Aad E q F)
      (fun i q ⟨F', _, _, s⟩ => ⟨memk q s, rdk q _ _ s (by omega) (by omega) e1, rdk q _ _ s (by omega) (by omega) e2⟩)
      (fun i q q' ⟨F', i1, i2, s⟩ s' => ⟨F', cl.frame _ _ _ _ _ i1 s'.toB (fun _ _ x => x), i2, s.trans s' (fun _ _ x => x.elim)⟩)
      (fun i q q' ⟨_, _, _, s⟩ ⟨_, _, _, s'⟩ => by rw [s'.mq, s.mq])
      (fun i hi q ⟨F', i1, i2, s⟩ => by
        rw [Aq3]
        have lq : q.lqs.get (h4.nq + 1) = some k := by rw [s.lqs _ (by omega) (nF _ (by omega))]; exact lE
        have nF' : ¬ F' (h4.nq + 1) := fun e => (i2 _ e).elim (nF _ (by omega)) (fun e => by omega)
        refine Alo lq kts kn kps kasg kbody kst kpd rfl rfl (fun q1 hq1 => ?_)
        have b1 : Ac2 q (q.setL (h4.nq + 1) { k with st := 1 } q.mq) (fun j => j = h4.nq + 1) := Adw _ _ _ _
        have l1 : (q.setL (h4.nq + 1) { k with st := 1 } q.mq).lqs.get (h4.nq + 1) = some { k with st := 1 } := by rw [Aez, if_pos rfl]
        have x1q : (q.setL (h4.nq + 1) { k with st := 1 } q.mq).nq = q.nq := rfl
        have m1q : (q.setL (h4.nq + 1) { k with st := 1 } q.mq).mq = q.mq := rfl
        have bl1 : ∀ j, (q.setL (h4.nq + 1) { k with st := 1 } q.mq).bqs.get j = q.bqs.get j := fun j => rfl
        rw [<- hq1] at b1 l1 x1q m1q bl1
        simp only [SV, SS, seval, t3]
        have xs := s.nq
        have hcur : ∀ (b : Nat) (v : Value), h.nq <= b -> b < E.nq -> E.rd b 0 = some v -> q1.rd b 0 = some v := by
          intro b v hb hb2 hv
          unfold Aac.rd at hv ⊢
          rw [bl1, s.get b hb2 (nF b hb)]; exact hv
        have u1 := hcur h.nq _ (Nat.le_refl _) (by omega) p1
        have u2 : q1.rd h1.nq 0 = some yv := hcur h1.nq yv (by omega) (by omega) (by rw [Abb p2']; rfl)
        have iv1 : Iv (acc ++ Aaf (cs.take i)) F' q1 := cl.frame _ _ _ _ _ i1 b1 (fun j hj e => nF' (e ▸ hj))
        have mq1 : Aa2 q1 bm um C z c o r := (memk q s).sameB b1 (fun e => by have := mE.lt; omega) (fun y hy e => by have := huml y hy; omega)
        obtain ⟨_, q2, F2, rfl, ⟨F'', iv2, hF2⟩, s2q⟩ := ih cs[i] (List.getElem_mem _) q1 _ F' iv1 mq1 (Ad4 hoks i hi) (by
          have := An8 cs hi
          have e : (Tr.inner a sz sh ch sm ks cs).content = Aaf cs := rfl
          rw [e] at hacc
          rw [List.length_append]; omega)
        have x2q := s2q.nq
        simp only [SS, seval, u1, u2, t5]
        refine ⟨_, _, F2, ?_⟩
        simp only [SS, seval]
        have l2 : q2.lqs.get (h4.nq + 1) = some { k with st := 1 } := by rw [s2q.lqs _ (by omega) nF']; exact l1
        refine ⟨l2, F'', ?_, fun j hj => ?_, ?_⟩
        · rw [Aef cs hi, Ack, <- List.append_assoc]
          have e : Aaf [cs[i]] = cs[i].content := by simp [Aaf]
          rw [e]
          exact cl.frame _ _ _ _ _ iv2 (Adw _ _ _ _) (fun j hj e => (hF2 j hj).elim (fun e2 => nF' (e ▸ e2)) (fun e2 => by omega))
        · rcases hF2 j hj with e | e
          · exact i2 j e
          · exact .inr (by omega)
        · refine Ac2.of ?_ ?_
          · refine Ac2.less (b := h4.nq + 1) (((s.toB.mono (T := fun j => F j \/ j = h4.nq + 1) (fun j e => .inl e)).trans b1 (fun j hj e => .inr e)).trans s2q.toB (fun j hj e => (i2 j e).elim .inl (fun e => by omega)) |>.trans (Adw q2 (h4.nq + 1) k q.mq) (fun j hj e => .inr e)) ?_ ?_
            · rw [Aez, if_pos rfl]; exact lE.symm
            · show q2.bqs.get _ = _
              rw [s2q.get _ (by omega) nF', bl1, s.get _ (by omega) (nF _ (by omega))]
          · rw [Ajo, s.mq]) (h := E) ⟨F, cl.frame _ _ _ _ _ (by simpa [Aaf] using iv) s0E (fun _ _ x => x), fun j hj => .inl hj, Aad.refl _ _⟩
    rw [List.take_length] at iv'
    have lX : hX.lqs.get (h4.nq + 1) = some k := by rw [sX.lqs _ (by omega) (nF _ (by omega))]; exact lE
    refine ⟨vv, hX, FX, lX, ?_⟩
    have xX := sX.nq
    have bX : Ac2 hX (hX.setL (h4.nq + 1) { k with st := 3 } hX.mq) (fun j => j = h4.nq + 1) := Adw _ _ _ _
    have blX : ∀ j, (hX.setL (h4.nq + 1) { k with st := 3 } hX.mq).bqs.get j = hX.bqs.get j := fun j => rfl
    have xY : (hX.setL (h4.nq + 1) { k with st := 3 } hX.mq).nq = hX.nq := rfl
    simp only [Ant, Ar0, Ab1, Agq, o_e, ev, Am4, st1, Aih]
    generalize hX.setL (h4.nq + 1) { k with st := 3 } hX.mq = Y at bX blX xY
    have g6 : Y.bqs.get h2.nq = some ⟨[.bool false], 1, 1, true, false⟩ := by rw [blX, sX.get h2.nq (by omega) (nF _ (by omega))]; exact p3'
    have w6 : Y.wrs h2.nq 0 [.bool true] = some (Y.setB h2.nq ⟨[.bool true], 1, 1, true, false⟩) := Ab7 g6 rfl (by simp) rfl
    have s6 : Aad Y (Y.setB h2.nq ⟨[.bool true], 1, 1, true, false⟩) (fun j => j = h2.nq) := Aad.setB rfl
    have g7 : (Y.setB h2.nq ⟨[.bool true], 1, 1, true, false⟩).bqs.get h2.nq = some ⟨[.bool true], 1, 1, true, false⟩ := by rw [Aaz, if_pos rfl]
    generalize Y.setB h2.nq ⟨[.bool true], 1, 1, true, false⟩ = Z at w6 s6 g7
    have r6 : Z.rd h2.nq 0 = some (.bool true) := Abb g7
    simp only [Azf, Ab1, Azy, Akj, Ajk, Apu, Aci, Ad8, Aya, Ay3, Option.some.injEq, exists_eq_left', true_and, t6, w6, r6]
    have nF' : ∀ j, h.nq <= j -> j < E.nq -> ¬ F' j := fun j h1 h2 hf => (hF' j hf).elim (nF j h1) (fun e => by omega)
    have xZ := s6.nq
    have sZ : Ac2 h Z F := (((s0E.mono (T := F) (fun _ x => x.elim)).trans sX.toB (fun _ _ x => x)).trans bX (fun j hj e => by omega)).trans s6.toB (fun j hj e => by omega)
    refine ⟨⟨F', ?_, fun j hj => (hF' j hj).imp_right (fun e => by omega)⟩, sZ.close⟩
    refine cl.frame _ _ _ _ _ iv' (((bX.mono (T := fun j => j = h4.nq + 1 \/ j = h2.nq) (fun j e => .inl e)).trans s6.toB (fun j hj e => .inr e)).trans (⟨Nat.le_refl _, fun _ _ _ => rfl, fun _ _ _ => rfl⟩ : Ac2 Z { Z with mq := h.mq } (fun _ => False)) (fun _ _ x => x.elim)) (fun j hj e => ?_)
    rcases e with e | e
    · exact nF' j (by omega) (by omega) hj
    · exact nF' j (by omega) (by omega) hj
end
end
end Go.Proofs.YtnonihjoimobmaaGreat.Ai
