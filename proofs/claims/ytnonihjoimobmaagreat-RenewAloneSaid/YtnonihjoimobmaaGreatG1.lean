/- Texts put together: VH, VJ, VK, MA, M1, SK, SLm, SLg, MK, ML, MM, MN, MO. -/
import Derived.Test.YtnonihjoimobmaaGreatTh2
import Derived.Test.YtnonihjoimobmaaGreatTabOk
import Derived.Test.YtnonihjoimobmaaGreatG0
namespace Go.Proofs.YtnonihjoimobmaaGreat.Ai
open Go.Proofs.YtnonihjoimobmaaGreat
noncomputable section
set_option linter.all false
variable {P : Program} {tab : Nat -> Option Aae}
open Go.RowKit
structure Aml (tab : Nat -> Option Aae) : Prop where
 v48 : tab 15 = some af15
 v78 : tab 38 = some af38
 v80 : tab 40 = some af40
 v113 : tab 56 = some af56
 v114 : tab 57 = some af57
 v129 : tab 91 = some af91
theorem A7o : Aml tabT.get := ⟨by kernel_rfl, by kernel_rfl, by kernel_rfl, by kernel_rfl, by kernel_rfl, by kernel_rfl⟩
theorem A8j (h : Aac) (a b : Value) : A2o h 2 (.agg #[a, b]) = some ((pp h.nq), h.new ⟨[a, b], 2, 2, true, false⟩) := (rfl)
section
variable (hT : Aa0 P tab) (V : Aea tab)
include hT
theorem Axx (V6 : Aml tab) {h : Aac} {bx : Nat} {w : Int} (hb : h.rd bx 0 = some (I w)) (hlt : bx < h.nq) (s x : Int) : Aah P 57 [.agg #[I s, I x], (pp bx)] h fun v h' => v = .bool (x == w) /\ Aad h h' (fun _ => False) := by
 refine Aaa hT V6.v114 rfl ?_
 have s1 : Aad h (h.new ⟨[I s, I x], 2, 2, true, false⟩) (fun _ => False) := Aad.new
 have g1 : (h.new ⟨[I s, I x], 2, 2, true, false⟩).rd h.nq 1 = some (I x) := by rw [Abb (by rw [Aa5, if_pos rfl])]; rfl
 have g2 : (h.new ⟨[I s, I x], 2, 2, true, false⟩).rd bx 0 = some (I w) := by
  unfold Aac.rd at hb ⊢
  rw [s1.get bx hlt (fun x => x)]; exact hb
 generalize hh : h.new ⟨[I s, I x], 2, 2, true, false⟩ = k at s1 g1 g2
 simp only [SS, seval, af57, A8j, hh, g1, g2]
 rw [Aab h k s1.mq]
 exact s1
theorem Ayj (V6 : Aml tab) {h : Aac} {bx : Nat} {w : Int} (hb : h.rd bx 0 = some (I w)) (hlt : bx < h.nq) {x p n cap : Nat} {Sp : List Pr} (r : Abq h x p 2 n cap (Ady Sp)) (hl : Sp.length = n) (hn : n < 1000000) (hw : ∃ q ∈ Sp, q.2 = w) : Aah P 56 [.slice (some ⟨x, p, none⟩) n cap, .func (.func 57) #[] #[(pp bx)]] h fun v h' => v = .bool true /\ Aad h h' (fun _ => False) := by
 have F129 : Aah P 91 [.slice (some ⟨x, p, none⟩) n cap, .func (.func 57) #[] #[(pp bx)]] h fun v h' => (∃ i : Nat, v = I i) /\ Aad h h' (fun _ => False) := by
  refine Aaa hT V6.v129 rfl ?_
  simp only [SS, seval, af91]
  refine Ac6 (fun k ts h' => ∃ i : Nat, k = n - i /\ i <= n /\ look ts 0 = .slice (some ⟨x, p, none⟩) n cap /\ look ts 1 = .func (.func 57) #[] #[(pp bx)] /\ look ts 7 = I n /\ look ts 8 = I i /\ (∀ j (hj : j < Sp.length), j < i -> Sp[j].2 ≠ w) /\ Aad h h' (fun _ => False)) ?_ (n := n) ⟨0, rfl, Nat.zero_le _, by simp only [SS, seval], by simp only [SS, seval], by simp only [SS, seval], by simp only [SS, seval] <;> rfl, fun j hj h => by omega, Aad.refl _ _⟩
  rintro k ts h' ⟨i, rfl, i2, t0, t1, t7, t8, hno, sm⟩
  refine Acf ?_
  by_cases hi : i < n
  ·have ci : ((i : Int) < n) = True := by simp [hi]
   have wi : Aan .i64 ((i : Int) + 1) = ((i + 1 : Nat) : Int) := by rw [Aav] <;> omega
   have his : i < Sp.length := by omega
   have rr : Abq h' x p 2 Sp.length cap (Ady Sp) := by rw [hl]; exact r.same sm (fun x => x)
   have q1 := Af7 (Ajh rr his)
   have hb' : h'.rd bx 0 = some (I w) := by
    unfold Aac.rd at hb ⊢
    rw [sm.get bx hlt (fun x => x)]; exact hb
   obtain ⟨_, h2, F, rfl, s2⟩ := Axx hT V6 hb' (Nat.lt_of_lt_of_le hlt sm.nq) Sp[i].1 Sp[i].2
   simp only [SV, SS, seval, Abi, t0, t1, t7, t8, ci, q1]
   refine ⟨_, _, F, ?_⟩
   have sf := sm.trans s2 (fun _ _ x => x)
   by_cases hc : Sp[i].2 = w
   ·have e : (Sp[i].2 == w) = true := by rw [hc]; simp
    simp only [SS, seval, e]
    rw [Aab h h2 sf.mq]
    exact ⟨⟨i, rfl⟩, sf⟩
   ·have e : (Sp[i].2 == w) = false := by simp [hc]
    simp only [SS, seval, t0, t1, t7, t8, e, wi]
    refine ⟨n - (i + 1), by omega, i + 1, rfl, by omega, rfl, fun j hj hji => ?_, sf⟩
    by_cases q : j < i
    ·exact hno j hj q
    ·have : j = i := by omega
     subst this; exact hc
  ·exfalso
   obtain ⟨q, hq, hqw⟩ := hw
   obtain ⟨j, hj, rfl⟩ := List.getElem_of_mem hq
   exact hno j hj (by omega) hqw
 obtain ⟨_, h1, F1, ⟨i, rfl⟩, s1⟩ := F129
 refine Aaa hT V6.v113 rfl ?_
 have c1 : ((i : Int) >= 0) = True := by simp
 simp only [SS, seval, af56]
 refine ⟨_, _, F1, ?_⟩
 simp only [SS, seval, c1]
 rw [Aab h h1 s1.mq]
 exact s1
include V
theorem Ayi (h : Aac) (w : Int) : Aah P 55 [.slice none 0 0, I w] h fun v h' => v = .bool false /\ h' = h := by
 have F128 : Aah P 90 [.slice none 0 0, I w] h fun v h' => v = I (-1) /\ h' = h := by
  refine Aaa hT V.v128 rfl ?_
  simp only [SS, seval, af90]
  refine Apt (Acm ?_)
  simp only [SS, seval]
 obtain ⟨_, h1, F1, rfl, rfl⟩ := F128
 refine Aaa hT V.v112 rfl ?_
 have c1 : ((-1 : Int) >= 0) = False := by simp
 simp only [SS, seval, af55]
 refine ⟨_, _, F1, ?_⟩
 simp only [SS, seval, c1]
theorem Aty (V6 : Aml tab) {h : Aac} {bt bm ut : Nat} {us um : Option Nat} {C : List Int} {z c o r : Int} {T : List Bool} {Sp : List Pr} {bs : Bool} (w : Vw h bt bm ut us um C z c o r T Sp bs) (hl : Sp.length < 1000000) {x : Int} (hx : ∃ q ∈ Sp, q.2 = x) : Aah P 38 [(pp bt), I x] h fun v h' => v = .bool true /\ Aad h h' (fun _ => False) := by
 refine Aaa hT V6.v78 rfl ?_
 have s1 : Aad h (h.new ⟨[I x], 1, 1, true, false⟩) (fun _ => False) := Aad.new
 have g1 : (h.new ⟨[I x], 1, 1, true, false⟩).rd h.nq 0 = some (I x) := by rw [Abb (by rw [Aa5, if_pos rfl])]; rfl
 have x1 : (h.new ⟨[I x], 1, 1, true, false⟩).nq = h.nq + 1 := rfl
 generalize hh : h.new ⟨[I x], 1, 1, true, false⟩ = k at s1 g1 x1
 have w1 := w.same s1
 have r3 : k.rd bt 3 = some (.slice none 0 0) := Abb w1.blk
 have r2 : k.rd bt 2 = some (Aal us Sp.length) := Abb w1.blk
 obtain ⟨_, k, F1, rfl, rfl⟩ := Ayi hT V k x
 have hpos : Sp ≠ [] := by
  obtain ⟨q, hq, _⟩ := hx
  intro e; rw [e] at hq; simp at hq
 obtain ⟨y, rfl⟩ : ∃ y, us = some y := by
  cases us with
  | none => have := w1.sp.non rfl; exact (hpos (List.eq_nil_of_length_eq_zero this)).elim
  | some y => exact ⟨y, rfl⟩
 obtain ⟨_, h2, F2, rfl, s2⟩ := Ayj hT V6 g1 (by omega) w1.sp.rd rfl hl hx
 simp only [SS, seval, af38, A45, hh]
 refine ⟨Ad9 55 _ k _ k (Ad9 56 _ k _ h2 Agy), Aba F1 (Aba F2 Abo), ?_⟩
 have e1 := @Abd 55 [.slice none 0 0, I x] k (.bool false) k (Ad9 56 [.slice (some ⟨y, 0, none⟩) Sp.length Sp.length, .func (.func 57) #[] #[(pp h.nq)]] k (.bool true) h2 Agy)
 have e2 : Ad9 55 [.slice none 0 0, I x] k (.bool false) k (Ad9 56 [.slice (some ⟨y, 0, none⟩) Sp.length Sp.length, .func (.func 57) #[] #[(pp h.nq)]] k (.bool true) h2 Agy) (.fn 56) [.slice (some ⟨y, 0, none⟩) Sp.length Sp.length, .func (.func 57) #[] #[(pp h.nq)]] k = some (.bool true, h2) := by rw [Acd (by decide)]; exact Abd
 simp only [Aal, Option.map_some] at r2
 simp only [SS, seval, r3, g1, r2, e1, e2]
 have sf := s1.trans s2 (fun _ _ x => x)
 rw [Aab h h2 sf.mq]
 exact sf
def A8a (bm : Nat) (um : Option Nat) (h0 : Aac) (bx : Nat) (acc : List Pr) (F : Nat -> Prop) (h : Aac) : Prop :=
 ∃ uo, h.bqs.get bx = some ⟨[Aal uo acc.length], 1, 1, true, false⟩ /\ Abh h uo 2 acc.length (Ady acc) /\ (∀ j, F j ↔ j = bx \/ uo = some j) /\ bx < h.nq /\ bx ≠ bm /\ um ≠ some bx /\ (∀ y, uo = some y -> y ≠ bx /\ y ≠ bm /\ um ≠ some y /\ h0.nq <= y)
omit V in
theorem Amc (V6 : Aml tab) {bm : Nat} {um : Option Nat} {C : List Int} {z c o r : Int} {bx : Nat} {h0 : Aac} (hb0 : h0.nq <= bx) : A2p P bm um C z c o r (.func (.func 40) #[] #[(pp bx)]) (A8a bm um h0 bx) := by
 refine ⟨?_, ?_, ?_, ?_, rfl, ?_, ?_, ?_, ?_⟩
 ·rintro acc F h ⟨uo, h1, h2, h3, h4, _⟩ j hj
  rcases (h3 j).1 hj with e | e
  ·omega
  ·exact (h2.use j e).2.1
 ·rintro acc F h h' S ⟨uo, h1, h2, h3, h4, h5, h6, h7⟩ s hs
  refine ⟨uo, by rw [s.get bx h4 (hs bx ((h3 bx).2 (.inl rfl)))]; exact h1, ?_, h3, Nat.lt_of_lt_of_le h4 s.nq, h5, h6, h7⟩
  exact ⟨fun x hx => by
   obtain ⟨q1, q2, q3⟩ := h2.use x hx
   exact ⟨by rw [s.get x q2 (hs x ((h3 x).2 (.inr hx)))]; exact q1, Nat.lt_of_lt_of_le q2 s.nq, q3⟩, h2.non, h2.len, h2.sc⟩
 ·rintro acc F h ⟨uo, h1, h2, h3, h4, h5, h6, h7⟩ j hj
  rcases (h3 j).1 hj with e | e
  ·rw [e]; exact ⟨h5, h6⟩
  ·exact ⟨(h7 j e).2.1, (h7 j e).2.2.1⟩
 ·rintro acc F h p hacc ⟨uo, h1, h2, h3, h4, h5, h6, h7⟩ m
  rw [Ay2]
  show Aah P 40 [I p.1, I p.2, (pp bx)] h _
  refine Aaa hT V6.v80 rfl ?_
  have r1 : h.rd bx 0 = some (Aal uo acc.length) := Abb h1
  have hcell : Abq (h.new ⟨[I p.1, I p.2], 2, 2, true, false⟩) h.nq 0 2 1 1 [I p.1, I p.2] := Abq.fresh h [I p.1, I p.2] 1 2 true false rfl
  have s1 : Aad h (h.new ⟨[I p.1, I p.2], 2, 2, true, false⟩) (fun _ => False) := Aad.new
  have x1 : (h.new ⟨[I p.1, I p.2], 2, 2, true, false⟩).nq = h.nq + 1 := rfl
  generalize hh1 : h.new ⟨[I p.1, I p.2], 2, 2, true, false⟩ = k1 at hcell s1 x1
  obtain ⟨uo', k2, a2, o2, s2, n2⟩ := Ad5 (bytes := 16) (h2.same s1 (fun _ _ x => x)) hcell.src rfl rfl (by omega) (by omega) (by omega)
  have x2 := s2.nq
  have g2 : k2.bqs.get bx = some ⟨[Aal uo acc.length], 1, 1, true, false⟩ := by rw [s2.get bx (by omega) (fun e => (h7 bx e).1 rfl), s1.get bx h4 (fun x => x)]; exact h1
  have w2 : k2.wrs bx 0 [Aal uo' (acc.length + 1)] = some (k2.setB bx ⟨[Aal uo' (acc.length + 1)], 1, 1, true, false⟩) := Ab7 g2 rfl (by simp) rfl
  have s3 : Aad k2 (k2.setB bx ⟨[Aal uo' (acc.length + 1)], 1, 1, true, false⟩) (fun j => j = bx) := Aad.setB rfl
  have g3 : (k2.setB bx ⟨[Aal uo' (acc.length + 1)], 1, 1, true, false⟩).bqs.get bx = some ⟨[Aal uo' (acc.length + 1)], 1, 1, true, false⟩ := by rw [Aaz, if_pos rfl]
  generalize k2.setB bx ⟨[Aal uo' (acc.length + 1)], 1, 1, true, false⟩ = k3 at w2 s3 g3
  have x3 := s3.nq
  simp only [SS, seval, af40, r1, hh1, a2, w2]
  have sf : Aad h k3 F := ((s1.mono (T := F) (fun _ x => x.elim)).trans s2 (fun j _ e => (h3 j).2 (.inr e))).trans s3 (fun j _ e => (h3 j).2 (.inl e))
  rw [Aab h k3 sf.mq]
  have hn : ∀ y, uo' = some y -> y ≠ bx /\ y ≠ bm /\ um ≠ some y /\ h0.nq <= y := fun y hy => by
   rcases n2 y hy with e | e
   ·exact h7 y e
   ·have := m.lt
    exact ⟨by omega, by omega, fun e2 => by have := (m.use y e2).2.2.1; omega, by omega⟩
  refine ⟨fun j => j = bx \/ uo' = some j, ⟨uo', ?_, ?_, fun j => Iff.rfl, by omega, h5, h6, hn⟩, sf, fun j hj => ?_⟩
  ·rw [g3]; simp
  ·have := o2.same s3 (fun y hy e => (hn y hy).1 e)
   rw [Ah2, List.length_append]; exact this
  ·rcases hj with e | e
   ·exact .inl ((h3 j).2 (.inl e))
   ·rcases n2 j e with e2 | e2
    ·exact .inl ((h3 j).2 (.inr e2))
    ·exact .inr (by omega)
 ·simp [veq, Aw7, Atr]
 ·rintro f fs cs e; cases e; simp
 ·rintro f fs cs e; cases e; simp
 ·rintro f fs cs e; cases e; simp
theorem Aj5 (H : Has tab) (V2 : Aje tab) (V3 : Ail tab) (V4 : Aku tab) (V5 : Aiz tab) (V6 : Aml tab) {h : Aac} {bm : Nat} {um : Option Nat} {C : List Int} {z c o r : Int} {t : Tr} (m : Aa2 h bm um C z c o r) (R : Ah6 C t) (hl : t.content.length <= 100000) : Aah P 15 [(pp bm), I t.word] h fun v h' => (∃ u, v = Aal u t.content.length /\ Abh h' u 2 t.content.length (Ady t.content) /\ ∀ y, u = some y -> h.nq <= y) /\ Aad h h' (fun _ => False) := by
 refine Aaa hT V6.v48 rfl ?_
 obtain ⟨_, h1, F1, bt, ut, us, rfl, w, _, s1⟩ := Ae3 hT V H V2 V3 V4 m R
 obtain ⟨_, h2, F2, rfl, s2⟩ := Aty hT V V6 w (by have := R.few; simp; omega) (x := t.word) ⟨((6 : Int), t.word), by simp, rfl⟩
 have s02 := s1.trans s2 (fun _ _ x => x)
 have m2 := m.same s02 (fun x => x) (fun _ _ x => x)
 have x2 := s02.nq
 have hbm := m.lt
 have huml := fun y hy => (m.use y hy).2.2.1
 have s3 : Aad h2 (h2.new ⟨[.slice none 0 0], 1, 1, true, false⟩) (fun _ => False) := Aad.new
 have g3 : (h2.new ⟨[.slice none 0 0], 1, 1, true, false⟩).bqs.get h2.nq = some ⟨[.slice none 0 0], 1, 1, true, false⟩ := by rw [Aa5, if_pos rfl]
 have x3 : (h2.new ⟨[.slice none 0 0], 1, 1, true, false⟩).nq = h2.nq + 1 := rfl
 generalize hh3 : h2.new ⟨[.slice none 0 0], 1, 1, true, false⟩ = h3 at s3 g3 x3
 obtain ⟨_, h4, F4, rfl, ⟨F', ⟨uo, q1, q2, q3, q4, q5, q6, q7⟩, hF'⟩, s4⟩ := Aru hT V H V5 (Amc hT V6 (bm := bm) (um := um) (C := C) (z := z) (c := c) (o := o) (r := r) (bx := h2.nq) (h0 := h2) (Nat.le_refl _)) R.len.2 t h3 [] (fun j => j = h2.nq)
  ⟨none, g3, Abh.nil _ _, fun j => ⟨fun e => .inl e, fun e => e.elim id (fun e => by cases e)⟩, by omega, by omega, fun e => by have := huml _ e; omega, fun y hy => by cases hy⟩ (m2.same s3 (fun x => x) (fun _ _ x => x)) R.ok (by simpa using hl)
 have r4 : h4.rd h2.nq 0 = some (Aal uo t.content.length) := by rw [Abb q1]; rfl
 simp only [SS, seval, af15]
 refine ⟨_, _, F1, ?_⟩
 simp only [SS, seval]
 refine ⟨_, _, F2, ?_⟩
 simp only [SV, SS, seval, hh3]
 refine ⟨_, _, F4, ?_⟩
 simp only [SS, seval, r4]
 have sf : Aad h h4 (fun _ => False) := (s02.trans s3 (fun _ _ x => x)).trans s4 (fun j hj e => by omega)
 rw [Aab h h4 sf.mq]
 exact ⟨⟨uo, rfl, q2, fun y hy => by have := (q7 y hy).2.2.2; omega⟩, sf⟩
end
structure Art (tab : Nat -> Option Aae) : Prop where
 v45 : tab 22 = some af22
 v79 : tab 45 = some af45
 v115 : tab 79 = some af79
theorem A7z : Art tabT.get := ⟨by kernel_rfl, by kernel_rfl, by kernel_rfl⟩
def st2 (h : Aac) (p v : Value) : Option (Value × Aac) := match p with
 | .pointer (some ⟨b, o, none⟩) => (let vs := v.cells.toList
   bif Nat.beq vs.length 2 && Nat.ble 1 2 then (match h.wrs b o vs with
    | some h' => some (undef, h')
    | none => none) else none)
 | _ => none
theorem Aeb {ts : T Value} {h : Aac} {a x : Opd} : eop ts h (.store 2 a x) = st2 h (ev ts a) (ev ts x) := (rfl)
theorem Ah9 {h h' : Aac} {b o : Nat} {u v : Value} (w : h.wrs b o [u, v] = some h') : st2 h (.pointer (some ⟨b, o, none⟩)) (.agg #[u, v]) = some (undef, h') := by
 show (match h.wrs b o [u, v] with | some h' => some (undef, h') | none => none) = _
 rw [w]
theorem Aif {h : Aac} {b n s : Nat} {x y u v : Value} {g : Bool} (hb : h.bqs.get b = some ⟨[x, y], n, s, true, g⟩) (hu : Aas u = true) (hv : Aas v = true) : h.wrs b 0 [u, v] = some (h.setB b ⟨[u, v], n, s, true, g⟩) := by
 unfold Aac.wrs; rw [hb]
 have : 0 + 2 <= [x, y].length := Nat.le_refl _
 simp only [List.length_cons, List.length_nil, Nat.zero_add, Aiu this, List.all_cons, hu, hv, List.all_nil, Bool.and_true, cond_true, Ai4]
 rfl
theorem Aln {h : Aac} {b n s : Nat} {u v : Value} {o g : Bool} (hb : h.bqs.get b = some ⟨[u, v], n, s, o, g⟩) : h.rds b 0 2 = some [u, v] := by
 unfold Aac.rds; rw [hb]; rfl
mutual
def Tr.first : Tr -> Int
 | .empty _ => 0
 | .leaf _ k _ => k
 | .inner _ _ _ _ _ _ cs => Adv cs
def Adv : List Tr -> Int
 | [] => 0
 | t :: _ => t.first
end
mutual
def Tr.idl : Tr -> Prop
 | .empty _ => True
 | .leaf _ _ _ => True
 | .inner _ sz sh ch sm ks cs => ((2 <= (Aaf cs).length /\ (Aaf cs).length <= 120) /\ cs.length = Aar (Aaf cs).length /\ sz = ((Aaf cs).length : Nat) /\ sh = 0 /\ ch = 0 /\ sm = 0 /\ (∀ i (h : i < cs.length), cs[i].content.length = Abs (Aaf cs).length i) /\ ∀ i (h : i < ks.length) (h2 : i + 1 < cs.length), ks[i] = cs[i + 1].first) /\ A6r cs
def A6r : List Tr -> Prop
 | [] => True
 | t :: cs => t.idl /\ A6r cs
end
theorem Atg : ∀ {cs : List Tr}, A6r cs -> ∀ i (h : i < cs.length), cs[i].idl
 | t :: cs, ⟨a, b⟩, 0, _ => a
 | t :: cs, ⟨a, b⟩, i + 1, h => Atg b i (by simpa using h)
def A8u (P : Program) (bm : Nat) (um : Option Nat) (C : List Int) (z c o r : Int) (t : Tr) : Prop :=
 ∀ (h : Aac), Aa2 h bm um C z c o r -> t.ok C -> t.idl -> Aah P 45 [(pp bm), I t.word] h fun v h' => v = .tuple #[.agg #[I t.content.length, I t.first], .bool true] /\ Aad h h' (fun _ => False)
theorem Ahp {f g : Nat} {args args2 : List Value} {h h2 k : Aac} {v : Value} {cf : Aa7} (ne : args2 ≠ args) : Ad9 f args h v k cf (.fn g) args2 h2 = cf (.fn g) args2 h2 := by
 unfold Ad9
 rw [if_neg (by rintro ⟨_, e, _⟩; exact ne e)]
theorem A5f {kR : Aac} {p5 p8 pA lim i : Nat} {tot tot' n f g : Int} {u8 : Option Nat} {L : List Value} (gR : kR.bqs.get p5 = some ⟨[I tot, I f], 2, 2, true, false⟩) (zR : kR.bqs.get pA = some ⟨[I n, I g], 2, 2, true, false⟩) (z8 : kR.bqs.get p8 = some ⟨[Aal u8 i], 1, 1, true, false⟩) (oR : Abh kR u8 1 i L) (h58 : p5 ≠ p8) (h5 : p5 < lim) (h8 : p8 < lim) (hA5 : pA ≠ p5) (hA8 : pA ≠ p8) (hA : pA < kR.nq) (hl : lim <= kR.nq) (hu : ∀ y, u8 = some y -> lim <= y) (hi : i < 1000000) :
  ∃ kS kT u9 kU kV, kR.rd p5 0 = some (I tot) /\ kR.rd pA 0 = some (I n) /\ kR.wrs p5 0 [I tot'] = some kS /\ kS.rd p8 0 = some (Aal u8 i) /\ kS.rd pA 0 = some (I n) /\ kS.new ⟨[I n], 1, 1, true, false⟩ = kT /\ Aqv kT 1 8 (Aal u8 i) (.slice (some ⟨kS.nq, 0, none⟩) 1 1) = some (Aal u9 (i + 1), kU) /\ kU.wrs p8 0 [Aal u9 (i + 1)] = some kV /\ kV.bqs.get p5 = some ⟨[I tot', I f], 2, 2, true, false⟩ /\ kV.bqs.get p8 = some ⟨[Aal u9 (i + 1)], 1, 1, true, false⟩ /\ Abh kV u9 1 (i + 1) (L ++ [I n]) /\ (∀ y, u9 = some y -> lim <= y) /\ Aad kR kV (fun j => j = p5 \/ j = p8 \/ u8 = some j) := by
 have wS : kR.wrs p5 0 [I tot'] = some (kR.setB p5 ⟨[I tot', I f], 2, 2, true, false⟩) := Ab7 gR rfl (by simp) rfl
 have sS : Aad kR (kR.setB p5 ⟨[I tot', I f], 2, 2, true, false⟩) (fun j => j = p5) := Aad.setB rfl
 have gS : (kR.setB p5 ⟨[I tot', I f], 2, 2, true, false⟩).bqs.get p5 = some ⟨[I tot', I f], 2, 2, true, false⟩ := by rw [Aaz, if_pos rfl]
 generalize kR.setB p5 ⟨[I tot', I f], 2, 2, true, false⟩ = kS at wS sS gS
 have xS := sS.nq
 have r8 : kS.bqs.get p8 = some ⟨[Aal u8 i], 1, 1, true, false⟩ := by rw [sS.get p8 (by omega) (fun e => h58 e.symm)]; exact z8
 have rA : kS.rd pA 0 = some (I n) := Abb (by rw [sS.get pA (by omega) hA5]; exact zR)
 have oS := oR.same sS (fun y hy e => by have := hu y hy; omega)
 have hcell : Abq (kS.new ⟨[I n], 1, 1, true, false⟩) kS.nq 0 1 1 1 [I n] := Abq.fresh kS [I n] 1 1 true false rfl
 have sT : Aad kS (kS.new ⟨[I n], 1, 1, true, false⟩) (fun _ => False) := Aad.new
 have xT : (kS.new ⟨[I n], 1, 1, true, false⟩).nq = kS.nq + 1 := rfl
 generalize hhT : kS.new ⟨[I n], 1, 1, true, false⟩ = kT at hcell sT xT
 obtain ⟨u9, kU, aU, oU, sU, nU⟩ := Ad5 (bytes := 8) (oS.same sT (fun _ _ x => x)) hcell.src rfl rfl (by omega) (by omega) (by omega)
 have xU := sU.nq
 have zU : kU.bqs.get p8 = some ⟨[Aal u8 i], 1, 1, true, false⟩ := by rw [sU.get p8 (by omega) (fun e => by have := hu _ e; omega), sT.get p8 (by omega) (fun x => x)]; exact r8
 have wV : kU.wrs p8 0 [Aal u9 (i + 1)] = some (kU.setB p8 ⟨[Aal u9 (i + 1)], 1, 1, true, false⟩) := Ab7 zU rfl (by simp) rfl
 have sV : Aad kU (kU.setB p8 ⟨[Aal u9 (i + 1)], 1, 1, true, false⟩) (fun j => j = p8) := Aad.setB rfl
 have gV : (kU.setB p8 ⟨[Aal u9 (i + 1)], 1, 1, true, false⟩).bqs.get p8 = some ⟨[Aal u9 (i + 1)], 1, 1, true, false⟩ := by rw [Aaz, if_pos rfl]
 generalize kU.setB p8 ⟨[Aal u9 (i + 1)], 1, 1, true, false⟩ = kV at wV sV gV
 have gV7 : kV.bqs.get p5 = some ⟨[I tot', I f], 2, 2, true, false⟩ := by rw [sV.get p5 (by omega) h58, sU.get p5 (by omega) (fun e => by have := hu _ e; omega), sT.get p5 (by omega) (fun x => x)]; exact gS
 have hn : ∀ y, u9 = some y -> lim <= y := fun y hy => by
  rcases nU y hy with e | e
  ·exact hu y e
  ·omega
 refine ⟨kS, kT, u9, kU, kV, Abb gR, Abb zR, wS, Abb r8, rA, hhT, aU, wV, gV7, gV, oU.same sV (fun y hy e => by have := hn y hy; omega), hn, ?_⟩
 exact (((sS.mono (T := fun j => j = p5 \/ j = p8 \/ u8 = some j) (fun _ e => .inl e)).trans sT (fun _ _ x => x.elim)).trans sU (fun j hj e => .inr (.inr e))).trans sV (fun j hj e => .inr (.inl e))
def Tr.kindN : Tr -> Nat
 | .empty _ => 1
 | .leaf _ _ _ => 2
 | .inner _ _ _ _ _ _ _ => 3
theorem Any {C : List Int} : ∀ {t : Tr}, t.ok C -> ∃ a, 1 <= a /\ a <= C.length /\ (1 <= t.kindN /\ t.kindN <= 3) /\ t.word = (a : Int) * 8 + (t.kindN : Nat)
 | .empty a, h => ⟨a, h.1, h.2, ⟨by simp [Tr.kindN], by simp [Tr.kindN]⟩, rfl⟩
 | .leaf a _ _, h => ⟨a, h.1, by have := h.2.1; omega, ⟨by simp [Tr.kindN], by simp [Tr.kindN]⟩, rfl⟩
 | .inner a _ _ _ _ _ cs, h => ⟨a, h.1.1, by have := h.1.2.1; omega, ⟨by simp [Tr.kindN], by simp [Tr.kindN]⟩, rfl⟩
section
variable (hT : Aa0 P tab) (V : Aea tab)
include hT V
set_option maxHeartbeats 1000000 in
theorem Aki (H : Has tab) (V5 : Aiz tab) (V8 : Art tab) (Nu : Num P) {bm : Nat} {um : Option Nat} {C : List Int} {z c o r : Int} (hC : C.length <= 65536) {a : Nat} {sz sh ch sm : Int} {ks : List Int} {cs : List Tr} (ih : ∀ t ∈ cs, A8u P bm um C z c o r t) {h : Aac} (m : Aa2 h bm um C z c o r) (hok : (Tr.inner a sz sh ch sm ks cs).ok C) (hid : (Tr.inner a sz sh ch sm ks cs).idl) :
  Aah P 79 [(pp bm), I a] h fun v h' => v = .tuple #[.agg #[I (Aaf cs).length, I (Adv cs)], .bool true] /\ Aad h h' (fun _ => False) := by
  refine Aaa hT V8.v115 rfl ?_
  obtain ⟨⟨q1, q2, q3, q4⟩, ⟨p0, p1, p2, p3, p4⟩, hsh, hsz, hks, hcs, hoks⟩ := hok
  obtain ⟨⟨⟨n2, n120⟩, hd, esz, esh, ech, esm, hsi, hkf⟩, hids⟩ := hid
  have hbm := m.lt
  have huml := fun y hy => (m.use y hy).2.2.1
  have s1 : Aad h (h.new ⟨[(pp bm)], 1, 1, true, false⟩) (fun _ => False) := Aad.new
  have g1 : (h.new ⟨[(pp bm)], 1, 1, true, false⟩).bqs.get h.nq = some ⟨[(pp bm)], 1, 1, true, false⟩ := by rw [Aa5, if_pos rfl]
  have x1 : (h.new ⟨[(pp bm)], 1, 1, true, false⟩).nq = h.nq + 1 := rfl
  generalize hh1 : h.new ⟨[(pp bm)], 1, 1, true, false⟩ = k1 at s1 g1 x1
  have s2 : Aad k1 (k1.new ⟨[I a], 1, 1, true, false⟩) (fun _ => False) := Aad.new
  have g2 : (k1.new ⟨[I a], 1, 1, true, false⟩).bqs.get k1.nq = some ⟨[I a], 1, 1, true, false⟩ := by rw [Aa5, if_pos rfl]
  have x2 : (k1.new ⟨[I a], 1, 1, true, false⟩).nq = k1.nq + 1 := rfl
  generalize hh2 : k1.new ⟨[I a], 1, 1, true, false⟩ = k2 at s2 g2 x2
  have s3 : Aad k2 (k2.new ⟨[I 0, I 0], 2, 2, true, false⟩) (fun _ => False) := Aad.new
  have g3 : (k2.new ⟨[I 0, I 0], 2, 2, true, false⟩).bqs.get k2.nq = some ⟨[I 0, I 0], 2, 2, true, false⟩ := by rw [Aa5, if_pos rfl]
  have x3 : (k2.new ⟨[I 0, I 0], 2, 2, true, false⟩).nq = k2.nq + 1 := rfl
  generalize hh3 : k2.new ⟨[I 0, I 0], 2, 2, true, false⟩ = k3 at s3 g3 x3
  have s4 : Aad k3 (k3.new ⟨[.bool false], 1, 1, true, false⟩) (fun _ => False) := Aad.new
  have g4 : (k3.new ⟨[.bool false], 1, 1, true, false⟩).bqs.get k3.nq = some ⟨[.bool false], 1, 1, true, false⟩ := by rw [Aa5, if_pos rfl]
  have x4 : (k3.new ⟨[.bool false], 1, 1, true, false⟩).nq = k3.nq + 1 := rfl
  generalize hh4 : k3.new ⟨[.bool false], 1, 1, true, false⟩ = k4 at s4 g4 x4
  have m4 : Aa2 k4 bm um C z c o r := m.same (((s1.trans s2 (fun _ _ x => x)).trans s3 (fun _ _ x => x)).trans s4 (fun _ _ x => x)) (fun x => x) (fun _ _ x => x)
  have r41 : k4.rd h.nq 0 = some (pp bm) := Abb (by rw [s4.get h.nq (by omega) (fun x => x), s3.get h.nq (by omega) (fun x => x), s2.get h.nq (by omega) (fun x => x)]; exact g1)
  have r42 : k4.rd k1.nq 0 = some (I a) := Abb (by rw [s4.get k1.nq (by omega) (fun x => x), s3.get k1.nq (by omega) (fun x => x)]; exact g2)
  have F0 : Aa3 P 21 [(pp bm), I a] k4 (I (cs.length : Int)) k4 := by
   obtain ⟨_, _, F, e, rfl⟩ := Aco hT V m4 a (by omega)
   rw [p0] at e; subst e; exact F
  have wz : Aan .i64 ((a : Int) + 0) = (a : Int) := by rw [Aav] <;> omega
  have s5 : Aad k4 (k4.new ⟨[I 0], 1, 1, true, false⟩) (fun _ => False) := Aad.new
  have g5 : (k4.new ⟨[I 0], 1, 1, true, false⟩).bqs.get k4.nq = some ⟨[I 0], 1, 1, true, false⟩ := by rw [Aa5, if_pos rfl]
  have x5 : (k4.new ⟨[I 0], 1, 1, true, false⟩).nq = k4.nq + 1 := rfl
  generalize hh5 : k4.new ⟨[I 0], 1, 1, true, false⟩ = k5 at s5 g5 x5
  have s6 : Aad k5 (k5.new ⟨[I 0, I 0], 2, 2, true, false⟩) (fun _ => False) := Aad.new
  have g6 : (k5.new ⟨[I 0, I 0], 2, 2, true, false⟩).bqs.get k5.nq = some ⟨[I 0, I 0], 2, 2, true, false⟩ := by rw [Aa5, if_pos rfl]
  have x6 : (k5.new ⟨[I 0, I 0], 2, 2, true, false⟩).nq = k5.nq + 1 := rfl
  generalize hh6 : k5.new ⟨[I 0, I 0], 2, 2, true, false⟩ = k6 at s6 g6 x6
  have g56 : k6.bqs.get k4.nq = some ⟨[I 0], 1, 1, true, false⟩ := by rw [s6.get k4.nq (by omega) (fun x => x)]; exact g5
  have w7 : k6.wrs k4.nq 0 [I (cs.length : Int)] = some (k6.setB k4.nq ⟨[I (cs.length : Int)], 1, 1, true, false⟩) := Ab7 g56 rfl (by simp) rfl
  have s7 : Aad k6 (k6.setB k4.nq ⟨[I (cs.length : Int)], 1, 1, true, false⟩) (fun j => j = k4.nq) := Aad.setB rfl
  have g7 : (k6.setB k4.nq ⟨[I (cs.length : Int)], 1, 1, true, false⟩).bqs.get k4.nq = some ⟨[I (cs.length : Int)], 1, 1, true, false⟩ := by rw [Aaz, if_pos rfl]
  have x7 : (k6.setB k4.nq ⟨[I (cs.length : Int)], 1, 1, true, false⟩).nq = k6.nq := rfl
  generalize k6.setB k4.nq ⟨[I (cs.length : Int)], 1, 1, true, false⟩ = k7 at w7 s7 g7 x7
  have g67 : k7.bqs.get k5.nq = some ⟨[I 0, I 0], 2, 2, true, false⟩ := by rw [s7.get k5.nq (by omega) (by omega)]; exact g6
  have w8 := Ah9 (Aif (u := I 0) (v := I 0) g67 rfl rfl)
  have s8 : Aad k7 (k7.setB k5.nq ⟨[I 0, I 0], 2, 2, true, false⟩) (fun j => j = k5.nq) := Aad.setB rfl
  have g8 : (k7.setB k5.nq ⟨[I 0, I 0], 2, 2, true, false⟩).bqs.get k5.nq = some ⟨[I 0, I 0], 2, 2, true, false⟩ := by rw [Aaz, if_pos rfl]
  have x8 : (k7.setB k5.nq ⟨[I 0, I 0], 2, 2, true, false⟩).nq = k7.nq := rfl
  generalize k7.setB k5.nq ⟨[I 0, I 0], 2, 2, true, false⟩ = k8 at w8 s8 g8 x8
  have s9 : Aad k8 (k8.new ⟨[.slice none 0 0], 1, 1, true, false⟩) (fun _ => False) := Aad.new
  have g9 : (k8.new ⟨[.slice none 0 0], 1, 1, true, false⟩).bqs.get k8.nq = some ⟨[.slice none 0 0], 1, 1, true, false⟩ := by rw [Aa5, if_pos rfl]
  have x9 : (k8.new ⟨[.slice none 0 0], 1, 1, true, false⟩).nq = k8.nq + 1 := rfl
  generalize hh9 : k8.new ⟨[.slice none 0 0], 1, 1, true, false⟩ = k9 at s9 g9 x9
  obtain ⟨_, h4, F109, rfl, c1, c2, x4h, s4h⟩ := Ai3 hT V5 k9 (some ⟨bm, 0, none⟩) a
  have s48 : Aad k4 k9 (fun _ => False) := (((s5.trans s6 (fun _ _ x => x)).trans s7 (fun j hj e => by omega)).trans s8 (fun j hj e => by omega)).trans s9 (fun _ _ x => x)
  have r91 : k9.rd h.nq 0 = some (pp bm) := Abb (by rw [s48.get h.nq (by omega) (fun x => x), s4.get h.nq (by omega) (fun x => x), s3.get h.nq (by omega) (fun x => x), s2.get h.nq (by omega) (fun x => x)]; exact g1)
  have r92 : k9.rd k1.nq 0 = some (I a) := Abb (by rw [s48.get k1.nq (by omega) (fun x => x), s4.get k1.nq (by omega) (fun x => x), s3.get k1.nq (by omega) (fun x => x)]; exact g2)
  simp only [SV, SS, seval, af79, A45, hh1, hh2, hh3, hh4, r41, r42, wz]
  refine ⟨_, _, F0, ?_⟩
  simp only [SV, SS, seval, hh5, hh6, w7, Aeb, w8, hh9, r91, r92]
  refine ⟨_, _, F109, ?_⟩
  simp only [Ai1, Ab1, Akj, Ajk, Aci, Alk]
  refine A2u (fun t => look t 2 = (pp h.nq) /\ look t 3 = (pp k1.nq) /\ look t 4 = (pp k2.nq) /\ look t 5 = (pp k3.nq) /\ look t 6 = (pp k4.nq) /\ look t 7 = (pp k5.nq) /\ look t 8 = (pp k8.nq) /\ look t 22 = .func (.func 92) #[] #[(pp k9.nq), (pp (k9.nq + 1))]) ⟨by simp only [SS, seval], by simp only [SS, seval], by simp only [SS, seval], by simp only [SS, seval], by simp only [SS, seval], by simp only [SS, seval], by simp only [SS, seval], by simp only [SS, seval]⟩ ?_
  rintro tsX ⟨t2, t3, t4, t5, t6, t7, t8, t22⟩
  refine Aqc t22 (fun k kts kn kps kasg kbody kst kpd => ?_)
  have T9 : Ac2 k9 (h4.enter k) (fun _ => False) := s4h.toB.trans (Ak0 h4 k) (fun _ _ x => x)
  have xE : (h4.enter k).nq = h4.nq + 2 := rfl
  have lE : (h4.enter k).lqs.get (h4.nq + 1) = some k := by rw [Aim, if_pos rfl]
  have e1 : (h4.enter k).rd k9.nq 0 = some (pp bm) := c1
  have e2 : (h4.enter k).rd (k9.nq + 1) 0 = some (I a) := c2
  generalize hE : h4.enter k = E at T9 xE lE e1 e2
  have T4 : Ac2 k4 E (fun _ => False) := s48.toB.trans T9 (fun _ _ x => x)
  have T0 : Ac2 h E (fun _ => False) := (((s1.trans s2 (fun _ _ x => x)).trans s3 (fun _ _ x => x)).trans s4 (fun _ _ x => x)).toB.trans T4 (fun _ _ x => x)
  have b1 : E.bqs.get h.nq = some ⟨[(pp bm)], 1, 1, true, false⟩ := by rw [T4.get h.nq (by omega) (fun x => x), s4.get h.nq (by omega) (fun x => x), s3.get h.nq (by omega) (fun x => x), s2.get h.nq (by omega) (fun x => x)]; exact g1
  have b2 : E.bqs.get k1.nq = some ⟨[I a], 1, 1, true, false⟩ := by rw [T4.get k1.nq (by omega) (fun x => x), s4.get k1.nq (by omega) (fun x => x), s3.get k1.nq (by omega) (fun x => x)]; exact g2
  have b3 : E.bqs.get k2.nq = some ⟨[I 0, I 0], 2, 2, true, false⟩ := by rw [T4.get k2.nq (by omega) (fun x => x), s4.get k2.nq (by omega) (fun x => x)]; exact g3
  have b4 : E.bqs.get k3.nq = some ⟨[.bool false], 1, 1, true, false⟩ := by rw [T4.get k3.nq (by omega) (fun x => x)]; exact g4
  have b6 : E.bqs.get k4.nq = some ⟨[I (cs.length : Int)], 1, 1, true, false⟩ := by rw [T9.get k4.nq (by omega) (fun x => x), s9.get k4.nq (by omega) (fun x => x), s8.get k4.nq (by omega) (by omega)]; exact g7
  have b7 : E.bqs.get k5.nq = some ⟨[I 0, I 0], 2, 2, true, false⟩ := by rw [T9.get k5.nq (by omega) (fun x => x), s9.get k5.nq (by omega) (fun x => x)]; exact g8
  have b8 : E.bqs.get k8.nq = some ⟨[.slice none 0 0], 1, 1, true, false⟩ := by rw [T9.get k8.nq (by omega) (fun x => x)]; exact g9
  have mE : Aa2 E bm um C z c o r := m.sameB T0 (fun x => x) (fun _ _ x => x)
  have memk : ∀ q, Aad E q (fun j => j = k5.nq \/ j = k8.nq) -> Aa2 q bm um C z c o r := fun q s => mE.same s (fun e => by omega) (fun y hy e => by have := huml y hy; omega)
  have rdk : ∀ (q : Aac) (b : Nat) (v : Value), Aad E q (fun j => j = k5.nq \/ j = k8.nq) -> b ≠ k5.nq -> b ≠ k8.nq -> b < E.nq -> E.rd b 0 = some v -> q.rd b 0 = some v := by
   intro q b v s hb hb' hb2 hv
   unfold Aac.rd at hv ⊢
   rw [s.get b hb2 (fun e => by omega)]; exact hv
  have hct : ∀ i, i < cs.length -> (Aaf (cs.take (i + 1))).length = (Aaf (cs.take i)).length + Abs (Aaf cs).length i := by
   intro i hi
   rw [Aef cs hi, Ack, List.length_append]
   simp only [Aaf, List.append_nil]
   rw [hsi i hi]
  have hcm : ∀ i, (Aaf (cs.take i)).length <= (Aaf cs).length := by
   intro i
   have e : Aaf cs = Aaf (cs.take i ++ cs.drop i) := by rw [List.take_append_drop]
   rw [e, Ack, List.length_append]; omega
  have ef : ∀ (hi : 0 < cs.length), cs[0].first = Adv cs := by
   intro hi
   cases cs with
   | nil => simp at hi
   | cons c cs => rfl
  obtain ⟨vv, hX, FX, ⟨uX, gX7, gX8, oX, nX, sX⟩⟩ := Ah4 hT V H V5 (yv := .func (.yield (h4.nq + 1)) #[] #[]) (bm := bm) (um := um) (C := C) (z := z) (c := c) (o := o) (r := r) (a := a) (d := cs.length) (pm := k9.nq) (pa := k9.nq + 1) (cs := cs) rfl hC (by omega) p0 hcs hoks (fun f fs cs e => by cases e) (fun f fs cs e => by cases e)
   (fun i q => ∃ u8 : Option Nat, q.bqs.get k5.nq = some ⟨[I ((Aaf (cs.take i)).length : Int), I (if i = 0 then 0 else Adv cs)], 2, 2, true, false⟩ /\ q.bqs.get k8.nq = some ⟨[Aal u8 i], 1, 1, true, false⟩ /\ Abh q u8 1 i ((List.range i).map fun j => I (Abs (Aaf cs).length j)) /\ (∀ y, u8 = some y -> E.nq <= y) /\ Aad E q (fun j => j = k5.nq \/ j = k8.nq))
   (fun i q ⟨_, _, _, _, _, s⟩ => ⟨memk q s, rdk q _ _ s (by omega) (by omega) (by omega) e1, rdk q _ _ s (by omega) (by omega) (by omega) e2⟩)
   (fun i q q' ⟨u8, i1, i2, i3, i4, s⟩ s' => ⟨u8, by rw [s'.get k5.nq (by have := s.nq; omega) (fun x => x)]; exact i1, by rw [s'.get k8.nq (by have := s.nq; omega) (fun x => x)]; exact i2, i3.same s' (fun _ _ x => x), i4, s.trans s' (fun _ _ x => x.elim)⟩)
   (fun i q q' ⟨_, _, _, _, _, s⟩ ⟨_, _, _, _, _, s'⟩ => by rw [s'.mq, s.mq])
   (fun i hi q ⟨u8, i1, i2, i3, i4, s⟩ => by
    rw [Aq3]
    have lq : q.lqs.get (h4.nq + 1) = some k := by rw [s.lqs _ (by omega) (by omega)]; exact lE
    refine Alo lq kts kn kps kasg kbody kst kpd rfl rfl (fun q1 hq1 => ?_)
    have bq : Ac2 q (q.setL (h4.nq + 1) { k with st := 1 } q.mq) (fun j => j = h4.nq + 1) := Adw _ _ _ _
    have l1 : (q.setL (h4.nq + 1) { k with st := 1 } q.mq).lqs.get (h4.nq + 1) = some { k with st := 1 } := by rw [Aez, if_pos rfl]
    have x1q : (q.setL (h4.nq + 1) { k with st := 1 } q.mq).nq = q.nq := rfl
    have m1q : (q.setL (h4.nq + 1) { k with st := 1 } q.mq).mq = q.mq := rfl
    have bl1 : ∀ j, (q.setL (h4.nq + 1) { k with st := 1 } q.mq).bqs.get j = q.bqs.get j := fun j => rfl
    rw [<- hq1] at bq l1 x1q m1q bl1
    have xs := s.nq
    have mq1 : Aa2 q1 bm um C z c o r := (memk q s).sameB bq (fun e => by omega) (fun y hy e => by have := huml y hy; omega)
    have y1 : q1.bqs.get h.nq = some ⟨[(pp bm)], 1, 1, true, false⟩ := by rw [bl1, s.get h.nq (by omega) (by omega)]; exact b1
    have y2 : q1.bqs.get k1.nq = some ⟨[I a], 1, 1, true, false⟩ := by rw [bl1, s.get k1.nq (by omega) (by omega)]; exact b2
    have y6 : q1.bqs.get k4.nq = some ⟨[I (cs.length : Int)], 1, 1, true, false⟩ := by rw [bl1, s.get k4.nq (by omega) (by omega)]; exact b6
    have y7 : q1.bqs.get k5.nq = some ⟨[I ((Aaf (cs.take i)).length : Int), I (if i = 0 then 0 else Adv cs)], 2, 2, true, false⟩ := by rw [bl1]; exact i1
    have y8 : q1.bqs.get k8.nq = some ⟨[Aal u8 i], 1, 1, true, false⟩ := by rw [bl1]; exact i2
    have o1 : Abh q1 u8 1 i ((List.range i).map fun j => I (Abs (Aaf cs).length j)) := ⟨fun y hy => by
     obtain ⟨z1, z2, z3⟩ := i3.use y hy
     exact ⟨by rw [bl1]; exact z1, by omega, z3⟩, i3.non, i3.len, i3.sc⟩
    obtain ⟨_, q2, F2, rfl, s2q⟩ := ih cs[i] (List.getElem_mem _) q1 mq1 (Ad4 hoks i hi) (Atg hids i hi)
    have x2q := s2q.nq
    have sA : Aad q2 (q2.new ⟨[I 0, I 0], 2, 2, true, false⟩) (fun _ => False) := Aad.new
    have gA : (q2.new ⟨[I 0, I 0], 2, 2, true, false⟩).bqs.get q2.nq = some ⟨[I 0, I 0], 2, 2, true, false⟩ := by rw [Aa5, if_pos rfl]
    have xA : (q2.new ⟨[I 0, I 0], 2, 2, true, false⟩).nq = q2.nq + 1 := rfl
    generalize hhA : q2.new ⟨[I 0, I 0], 2, 2, true, false⟩ = kA at sA gA xA
    have wB := Ah9 (Aif (u := I (cs[i].content.length : Int)) (v := I cs[i].first) gA rfl rfl)
    have sB : Aad kA (kA.setB q2.nq ⟨[I (cs[i].content.length : Int), I cs[i].first], 2, 2, true, false⟩) (fun j => j = q2.nq) := Aad.setB rfl
    have gB : (kA.setB q2.nq ⟨[I (cs[i].content.length : Int), I cs[i].first], 2, 2, true, false⟩).bqs.get q2.nq = some ⟨[I (cs[i].content.length : Int), I cs[i].first], 2, 2, true, false⟩ := by rw [Aaz, if_pos rfl]
    have xB : (kA.setB q2.nq ⟨[I (cs[i].content.length : Int), I cs[i].first], 2, 2, true, false⟩).nq = kA.nq := rfl
    generalize kA.setB q2.nq ⟨[I (cs[i].content.length : Int), I cs[i].first], 2, 2, true, false⟩ = kB at wB sB gB xB
    have s1B : Aad q1 kB (fun _ => False) := (s2q.trans sA (fun _ _ x => x)).trans sB (fun j hj e => by omega)
    have mB : Aa2 kB bm um C z c o r := mq1.same s1B (fun x => x) (fun _ _ x => x)
    obtain ⟨_, kC, FC, rfl, sC⟩ := Ada hT V kB a cs.length i (by omega) (by omega) (by omega)
    have xC := sC.nq
    have s1C : Aad q1 kC (fun _ => False) := s1B.trans sC (fun _ _ x => x)
    have mC : Aa2 kC bm um C z c o r := mB.same sC (fun x => x) (fun _ _ x => x)
    have FD : Aa3 P 21 [(pp bm), I ((a + 4 + cs.length + i : Nat) : Int)] kC (I cs[i].word) kC := by
     obtain ⟨_, _, F, e, rfl⟩ := Aco hT V mC (a + 4 + cs.length + i) (by omega)
     rw [hcs i hi] at e; subst e; exact F
    obtain ⟨ct, hct1, hct2, hct3, hct4⟩ := Any (Ad4 hoks i hi)
    obtain ⟨_, kC', FK, rfl, rfl⟩ := Abt hT V H kC ct cs[i].kindN hct1 (by omega) hct3.1 (by omega)
    rw [<- hct4] at FK
    have ck5 : ((cs[i].kindN : Int) == 5) = false := by rw [beq_eq_false_iff_ne]; omega
    obtain ⟨_, kD, FE, rfl, sD⟩ := Ahq hT V kC' a i (by omega) (by omega)
    have xD := sD.nq
    have s1D : Aad q1 kD (fun _ => False) := s1C.trans sD (fun _ _ x => x)
    have mD : Aa2 kD bm um C z c o r := mC.same sD (fun x => x) (fun _ _ x => x)
    let J : Aac -> Prop := fun k => k.rd h.nq 0 = some (pp bm) /\ k.rd k1.nq 0 = some (I a) /\ k.rd k4.nq 0 = some (I (cs.length : Int)) /\ k.rd q2.nq 1 = some (I cs[i].first)
    have jB : J kB := ⟨Abb (by rw [s1B.get h.nq (by omega) (fun x => x)]; exact y1), Abb (by rw [s1B.get k1.nq (by omega) (fun x => x)]; exact y2), Abb (by rw [s1B.get k4.nq (by omega) (fun x => x)]; exact y6), Abb gB⟩
    have jC : J kC' := ⟨Abb (by rw [s1C.get h.nq (by omega) (fun x => x)]; exact y1), Abb (by rw [s1C.get k1.nq (by omega) (fun x => x)]; exact y2), Abb (by rw [s1C.get k4.nq (by omega) (fun x => x)]; exact y6), Abb (by rw [sC.get q2.nq (by omega) (fun x => x)]; exact gB)⟩
    have jD : J kD := ⟨Abb (by rw [s1D.get h.nq (by omega) (fun x => x)]; exact y1), Abb (by rw [s1D.get k1.nq (by omega) (fun x => x)]; exact y2), Abb (by rw [s1D.get k4.nq (by omega) (fun x => x)]; exact y6), Abb (by rw [sD.get q2.nq (by omega) (fun x => x), sC.get q2.nq (by omega) (fun x => x)]; exact gB)⟩
    have vp : veq (pp bm) (pp bm) = true := by simp [veq, Atr]
    have r1q : q1.rd h.nq 0 = some (pp bm) := Abb y1
    simp only [SV, SS, seval, t2, r1q]
    refine ⟨_, _, F2, ?_⟩
    simp only [SV, SS, seval, hhA, Aeb, wB]
    by_cases h0 : i = 0
    ·skip
     obtain ⟨CR, hcr, g118, g58, g108⟩ : ∃ CR : Aa7, Ajg P CR /\ CR (.fn 93) [I a, I (cs.length : Int), I i] kB = some (I ((a + 4 + cs.length + i : Nat) : Int), kC') /\ CR (.fn 21) [(pp bm), I ((a + 4 + cs.length + i : Nat) : Int)] kC' = some (I cs[i].word, kC') /\ CR (.fn 9) [I cs[i].word] kC' = some (I (cs[i].kindN : Int), kC') :=
      ⟨Ad9 93 _ kB _ kC' (Ad9 21 _ kC' _ kC' (Ad9 9 _ kC' _ kC' Agy)), Aba FC (Aba FD (Aba FK Abo)), Abd, by rw [Acd (by decide)]; exact Abd, by rw [Acd (by decide), Acd (by decide)]; exact Abd⟩
     have cgt : ((i : Int) > 0) = False := by simp; omega
     have pjB := fun (r : List Aao) (ts : T Value) (dst : Option Nat) (q : POp) (S : T Value -> Aac -> Prop) => j_p (J := J) (cf := CR) (r := r) (ts := ts) (dst := dst) (q := q) (S := S) jB
     have pjC := fun (r : List Aao) (ts : T Value) (dst : Option Nat) (q : POp) (S : T Value -> Aac -> Prop) => j_p (J := J) (cf := CR) (r := r) (ts := ts) (dst := dst) (q := q) (S := S) jC
     have pjD := fun (r : List Aao) (ts : T Value) (dst : Option Nat) (q : POp) (S : T Value -> Aac -> Prop) => j_p (J := J) (cf := CR) (r := r) (ts := ts) (dst := dst) (q := q) (S := S) jD
     have zA : kC'.bqs.get q2.nq = some ⟨[I (cs[i].content.length : Int), I cs[i].first], 2, 2, true, false⟩ := by rw [sC.get q2.nq (by omega) (fun x => x)]; exact gB
     have z7 : kC'.bqs.get k5.nq = some ⟨[I ((Aaf (cs.take i)).length : Int), I (if i = 0 then 0 else Adv cs)], 2, 2, true, false⟩ := by rw [s1C.get k5.nq (by omega) (fun x => x)]; exact y7
     have z8 : kC'.bqs.get k8.nq = some ⟨[Aal u8 i], 1, 1, true, false⟩ := by rw [s1C.get k8.nq (by omega) (fun x => x)]; exact y8
     have oQ := o1.same s1C (fun _ _ x => x)
     have xQ := s1C.nq
     have c0 : ((i : Int) == 0) = true := by simp; omega
     have rA1 : kC'.rd q2.nq (0 + 1) = some (I cs[i].first) := Abb zA
     have wR : kC'.wrs k5.nq (0 + 1) [I cs[i].first] = some (kC'.setB k5.nq ⟨[I ((Aaf (cs.take i)).length : Int), I cs[i].first], 2, 2, true, false⟩) := Ab7 z7 rfl (by simp) rfl
     have sR : Aad kC' (kC'.setB k5.nq ⟨[I ((Aaf (cs.take i)).length : Int), I cs[i].first], 2, 2, true, false⟩) (fun j => j = k5.nq) := Aad.setB rfl
     have gR : (kC'.setB k5.nq ⟨[I ((Aaf (cs.take i)).length : Int), I cs[i].first], 2, 2, true, false⟩).bqs.get k5.nq = some ⟨[I ((Aaf (cs.take i)).length : Int), I cs[i].first], 2, 2, true, false⟩ := by rw [Aaz, if_pos rfl]
     generalize kC'.setB k5.nq ⟨[I ((Aaf (cs.take i)).length : Int), I cs[i].first], 2, 2, true, false⟩ = kR at wR sR gR
     have xR := sR.nq
     have efi : cs[i].first = Adv cs := by
      subst h0
      exact ef hi
     have zR : kR.bqs.get q2.nq = some ⟨[I (cs[i].content.length : Int), I cs[i].first], 2, 2, true, false⟩ := by rw [sR.get q2.nq (by omega) (by omega)]; exact zA
     have zR8 : kR.bqs.get k8.nq = some ⟨[Aal u8 i], 1, 1, true, false⟩ := by rw [sR.get k8.nq (by omega) (by omega)]; exact z8
     have oR := oQ.same sR (fun y hy e => by have := i4 y hy; omega)
     have s1R : Aad q1 kR (fun j => j = k5.nq \/ j = k8.nq) := (s1C.mono (fun _ x => x.elim)).trans sR (fun j hj e => .inl e)
     rw [efi] at gR
     have hxR : q2.nq < kR.nq := by omega
     have wT : Aan .i64 (((Aaf (cs.take i)).length : Int) + (cs[i].content.length : Int)) = ((Aaf (cs.take (i + 1))).length : Int) := by
      have h1 := hct i hi
      have h2 := hcm (i + 1)
      have h3 := hsi i hi
      rw [Aav] <;> omega
     obtain ⟨kS, kT, u9, kU, kV, rT, rS, wS, rS8, rSA, hhT, aU, wV, gV7, gV8, oV, nV, sRV⟩ := A5f (lim := E.nq) (tot' := ((Aaf (cs.take (i + 1))).length : Int)) gR zR zR8 oR (by omega) (by omega) (by omega) (by omega) (by omega) hxR (by omega) i4 (by omega)
     refine Anp J CR hcr jB ?_
     simp only [SS, seval, Am9, Alj, A2n, Apl, pjB, t2, t3, t6]
     refine ⟨_, fun k hk => hk.1, vp, _, fun k hk => hk.2.1, Ac4 _ _, _, fun k hk => hk.2.2.1, Ac4 _ _, ?_⟩
     simp only [SS, seval, A1d, Alj, A2n, A24, Apl, Apq, pjC, g118, g58, g108, ck5, cgt]
     refine ⟨jC, jC, jC, ?_⟩
     simp only [SS, seval, t7, c0, rA1, wR]
     simp only [SS, seval, t7, t8, rT, rS, wT, wS, rS8, rSA, hhT, aU, wV]
     have hno9 : ¬ (h4.nq + 1 = k5.nq \/ h4.nq + 1 = k8.nq \/ u8 = some (h4.nq + 1)) := by
      rintro (e | e | e)
      ·omega
      ·omega
      ·have := i4 _ e
       omega
     have l2 : kV.lqs.get (h4.nq + 1) = some { k with st := 1 } := by rw [sRV.lqs (h4.nq + 1) (by omega) hno9, s1R.lqs (h4.nq + 1) (by omega) (by omega)]; exact l1
     have oV' : Abh kV u9 1 (i + 1) ((List.range (i + 1)).map fun j => I (Abs (Aaf cs).length j)) := by
      rw [List.range_succ, List.map_append]
      have e := hsi i hi
      rw [e] at oV
      exact oV
     have hsub : ∀ j, j < E.nq -> (j = k5.nq \/ j = k8.nq \/ u8 = some j) -> (j = k5.nq \/ j = k8.nq) \/ j = h4.nq + 1 := by
      rintro j hj (e | e | e)
      ·exact .inl (.inl e)
      ·exact .inl (.inr e)
      ·have := i4 _ e
       omega
     refine ⟨l2, u9, gV7, gV8, ⟨fun y hy => oV'.use y hy, oV'.non, oV'.len, oV'.sc⟩, nV, ?_⟩
     refine Ac2.of ?_ ?_
     ·refine Ac2.less (b := h4.nq + 1) (((((s.toB.mono (T := fun j => (j = k5.nq \/ j = k8.nq) \/ j = h4.nq + 1) (fun j e => .inl e)).trans bq (fun j hj e => .inr e)).trans s1R.toB (fun j hj e => .inl e)).trans sRV.toB (fun j hj e => hsub j hj e)).trans (Adw kV (h4.nq + 1) k q.mq) (fun j hj e => .inr e)) ?_ ?_
      ·rw [Aez, if_pos rfl]; exact lE.symm
      ·show kV.bqs.get _ = _
       rw [sRV.get (h4.nq + 1) (by omega) hno9, s1R.get (h4.nq + 1) (by omega) (by omega), bl1, s.get (h4.nq + 1) (by omega) (by omega)]
     ·rw [Ajo, s.mq]
    ·skip
     have FF : Aa3 P 21 [(pp bm), I ((a + 4 + i : Nat) : Int)] kD (I cs[i].first) kD := by
      obtain ⟨_, _, F, e, rfl⟩ := Aco hT V mD (a + 4 + i) (by omega)
      have e1 := hks (i - 1) (by omega)
      have e2 := hkf (i - 1) (by omega) (by omega)
      have e3 : i - 1 + 1 = i := by omega
      simp only [e3] at e2
      rw [show a + 5 + (i - 1) = a + 4 + i by omega, e2] at e1
      rw [e1] at e; subst e; exact F
     obtain ⟨CR, hcr, g118, g58, g108, g130, g58b⟩ : ∃ CR : Aa7, Ajg P CR /\ CR (.fn 93) [I a, I (cs.length : Int), I i] kB = some (I ((a + 4 + cs.length + i : Nat) : Int), kC') /\ CR (.fn 21) [(pp bm), I ((a + 4 + cs.length + i : Nat) : Int)] kC' = some (I cs[i].word, kC') /\ CR (.fn 9) [I cs[i].word] kC' = some (I (cs[i].kindN : Int), kC') /\ CR (.fn 119) [I a, I i] kC' = some (I ((a + 4 + i : Nat) : Int), kD) /\ CR (.fn 21) [(pp bm), I ((a + 4 + i : Nat) : Int)] kD = some (I cs[i].first, kD) :=
      ⟨Ad9 93 _ kB _ kC' (Ad9 21 _ kC' _ kC' (Ad9 9 _ kC' _ kC' (Ad9 119 _ kC' _ kD (Ad9 21 _ kD _ kD Agy)))), Aba FC (Aba FD (Aba FK (Aba FE (Aba FF Abo)))), Abd, by rw [Acd (by decide)]; exact Abd, by rw [Acd (by decide), Acd (by decide)]; exact Abd, by rw [Acd (by decide), Acd (by decide), Acd (by decide)]; exact Abd, by
       rw [Acd (by decide)]
       unfold Ad9
       rw [if_neg (by
        rintro ⟨_, e, _⟩
        simp only [List.cons.injEq, Value.int.injEq, true_and, and_true] at e
        omega), if_neg (by
        rintro ⟨e, _⟩
        cases e), if_neg (by
        rintro ⟨e, _⟩
        cases e), if_pos ⟨rfl, rfl, rfl⟩]⟩
     have cgt : ((i : Int) > 0) = True := by simp; omega
     have cne : (cs[i].first != cs[i].first) = false := by simp
     have pjB := fun (r : List Aao) (ts : T Value) (dst : Option Nat) (q : POp) (S : T Value -> Aac -> Prop) => j_p (J := J) (cf := CR) (r := r) (ts := ts) (dst := dst) (q := q) (S := S) jB
     have pjC := fun (r : List Aao) (ts : T Value) (dst : Option Nat) (q : POp) (S : T Value -> Aac -> Prop) => j_p (J := J) (cf := CR) (r := r) (ts := ts) (dst := dst) (q := q) (S := S) jC
     have pjD := fun (r : List Aao) (ts : T Value) (dst : Option Nat) (q : POp) (S : T Value -> Aac -> Prop) => j_p (J := J) (cf := CR) (r := r) (ts := ts) (dst := dst) (q := q) (S := S) jD
     have zA : kD.bqs.get q2.nq = some ⟨[I (cs[i].content.length : Int), I cs[i].first], 2, 2, true, false⟩ := by rw [sD.get q2.nq (by omega) (fun x => x), sC.get q2.nq (by omega) (fun x => x)]; exact gB
     have z7 : kD.bqs.get k5.nq = some ⟨[I ((Aaf (cs.take i)).length : Int), I (if i = 0 then 0 else Adv cs)], 2, 2, true, false⟩ := by rw [s1D.get k5.nq (by omega) (fun x => x)]; exact y7
     have z8 : kD.bqs.get k8.nq = some ⟨[Aal u8 i], 1, 1, true, false⟩ := by rw [s1D.get k8.nq (by omega) (fun x => x)]; exact y8
     have oQ := o1.same s1D (fun _ _ x => x)
     have xQ := s1D.nq
     have c0 : ((i : Int) == 0) = false := by simp; omega
     rw [if_neg h0] at z7
     have s1R : Aad q1 kD (fun j => j = k5.nq \/ j = k8.nq) := s1D.mono (fun _ x => x.elim)
     obtain ⟨kR, ekR⟩ : ∃ k, k = kD := ⟨_, rfl⟩
     have gR := z7
     have zR := zA
     have zR8 := z8
     have oR := oQ
     rw [<- ekR] at gR zR zR8 oR s1R
     have xR : kR.nq = kD.nq := by rw [ekR]
     have hxR : q2.nq < kR.nq := by omega
     have wT : Aan .i64 (((Aaf (cs.take i)).length : Int) + (cs[i].content.length : Int)) = ((Aaf (cs.take (i + 1))).length : Int) := by
      have h1 := hct i hi
      have h2 := hcm (i + 1)
      have h3 := hsi i hi
      rw [Aav] <;> omega
     obtain ⟨kS, kT, u9, kU, kV, rT, rS, wS, rS8, rSA, hhT, aU, wV, gV7, gV8, oV, nV, sRV⟩ := A5f (lim := E.nq) (tot' := ((Aaf (cs.take (i + 1))).length : Int)) gR zR zR8 oR (by omega) (by omega) (by omega) (by omega) (by omega) hxR (by omega) i4 (by omega)
     refine Anp J CR hcr jB ?_
     simp only [SS, seval, Am9, Alj, A2n, Apl, pjB, t2, t3, t6]
     refine ⟨_, fun k hk => hk.1, vp, _, fun k hk => hk.2.1, Ac4 _ _, _, fun k hk => hk.2.2.1, Ac4 _ _, ?_⟩
     simp only [SS, seval, Am9, Alj, A2n, Apl, Apq, pjC, t2, t3, g118, g58, g108, ck5, cgt]
     refine ⟨jC, jC, jC, _, fun k hk => hk.1, vp, _, fun k hk => hk.2.1, Ac4 _ _, ?_⟩
     simp only [SS, seval, Am9, Alj, A2n, Apl, Apq, pjD, g130, g58b]
     refine ⟨jD, jD, _, fun k hk => hk.2.2.2, Ac4 _ _, ?_⟩
     simp only [SS, seval, A1d, A2n, Apl, pjD, cne]
     simp only [SS, seval, t7, c0, <- ekR]
     simp only [SS, seval, t7, t8, rT, rS, wT, wS, rS8, rSA, hhT, aU, wV]
     have hno9 : ¬ (h4.nq + 1 = k5.nq \/ h4.nq + 1 = k8.nq \/ u8 = some (h4.nq + 1)) := by
      rintro (e | e | e)
      ·omega
      ·omega
      ·have := i4 _ e
       omega
     have l2 : kV.lqs.get (h4.nq + 1) = some { k with st := 1 } := by rw [sRV.lqs (h4.nq + 1) (by omega) hno9, s1R.lqs (h4.nq + 1) (by omega) (by omega)]; exact l1
     have oV' : Abh kV u9 1 (i + 1) ((List.range (i + 1)).map fun j => I (Abs (Aaf cs).length j)) := by
      rw [List.range_succ, List.map_append]
      have e := hsi i hi
      rw [e] at oV
      exact oV
     have hsub : ∀ j, j < E.nq -> (j = k5.nq \/ j = k8.nq \/ u8 = some j) -> (j = k5.nq \/ j = k8.nq) \/ j = h4.nq + 1 := by
      rintro j hj (e | e | e)
      ·exact .inl (.inl e)
      ·exact .inl (.inr e)
      ·have := i4 _ e
       omega
     refine ⟨l2, u9, gV7, gV8, ⟨fun y hy => oV'.use y hy, oV'.non, oV'.len, oV'.sc⟩, nV, ?_⟩
     refine Ac2.of ?_ ?_
     ·refine Ac2.less (b := h4.nq + 1) (((((s.toB.mono (T := fun j => (j = k5.nq \/ j = k8.nq) \/ j = h4.nq + 1) (fun j e => .inl e)).trans bq (fun j hj e => .inr e)).trans s1R.toB (fun j hj e => .inl e)).trans sRV.toB (fun j hj e => hsub j hj e)).trans (Adw kV (h4.nq + 1) k q.mq) (fun j hj e => .inr e)) ?_ ?_
      ·rw [Aez, if_pos rfl]; exact lE.symm
      ·show kV.bqs.get _ = _
       rw [sRV.get (h4.nq + 1) (by omega) hno9, s1R.get (h4.nq + 1) (by omega) (by omega), bl1, s.get (h4.nq + 1) (by omega) (by omega)]
     ·rw [Ajo, s.mq]) (h := E) ⟨none, b7, b8, Abh.nil _ _, fun y hy => (by cases hy), Aad.refl _ _⟩
  rw [List.take_length] at gX7
  have d2 : 2 <= cs.length := by omega
  rw [if_neg (by omega)] at gX7
  have lX : hX.lqs.get (h4.nq + 1) = some k := by rw [sX.lqs (h4.nq + 1) (by omega) (by omega)]; exact lE
  refine ⟨vv, hX, FX, lX, ?_⟩
  have xX := sX.nq
  have bX : Ac2 hX (hX.setL (h4.nq + 1) { k with st := 3 } hX.mq) (fun j => j = h4.nq + 1) := Adw _ _ _ _
  have blX : ∀ j, (hX.setL (h4.nq + 1) { k with st := 3 } hX.mq).bqs.get j = hX.bqs.get j := fun j => rfl
  have xY : (hX.setL (h4.nq + 1) { k with st := 3 } hX.mq).nq = hX.nq := rfl
  simp only [Ant, Ab1, Agq]
  generalize hX.setL (h4.nq + 1) { k with st := 3 } hX.mq = Y at bX blX xY
  have y1 : Y.bqs.get h.nq = some ⟨[(pp bm)], 1, 1, true, false⟩ := by rw [blX, sX.get h.nq (by omega) (by omega)]; exact b1
  have y2 : Y.bqs.get k1.nq = some ⟨[I a], 1, 1, true, false⟩ := by rw [blX, sX.get k1.nq (by omega) (by omega)]; exact b2
  have y3 : Y.bqs.get k2.nq = some ⟨[I 0, I 0], 2, 2, true, false⟩ := by rw [blX, sX.get k2.nq (by omega) (by omega)]; exact b3
  have y4 : Y.bqs.get k3.nq = some ⟨[.bool false], 1, 1, true, false⟩ := by rw [blX, sX.get k3.nq (by omega) (by omega)]; exact b4
  have y6 : Y.bqs.get k4.nq = some ⟨[I (cs.length : Int)], 1, 1, true, false⟩ := by rw [blX, sX.get k4.nq (by omega) (by omega)]; exact b6
  have y7 : Y.bqs.get k5.nq = some ⟨[I ((Aaf cs).length : Int), I (Adv cs)], 2, 2, true, false⟩ := by rw [blX]; exact gX7
  have y8 : Y.bqs.get k8.nq = some ⟨[Aal uX cs.length], 1, 1, true, false⟩ := by rw [blX]; exact gX8
  have oY : Abh Y uX 1 cs.length ((List.range cs.length).map fun j => I (Abs (Aaf cs).length j)) := ⟨fun y hy => by
   obtain ⟨z1, z2, z3⟩ := oX.use y hy
   exact ⟨by rw [blX]; exact z1, by omega, z3⟩, oX.non, oX.len, oX.sc⟩
  have mY : Aa2 Y bm um C z c o r := (memk hX sX).sameB bX (fun e => by omega) (fun y hy e => by have := huml y hy; omega)
  have SY : Ac2 h Y (fun _ => False) := (T0.trans sX.toB (fun j hj e => by omega)).trans bX (fun j hj e => by omega)
  have xSY := SY.nq
  obtain ⟨yX, rfl⟩ : ∃ y, uX = some y := by
   cases uX with
   | none => have := oX.non rfl; omega
   | some y => exact ⟨y, rfl⟩
  have rY := oY.rd
  have FA : ∀ (j : Nat) (x : Int), j <= 4 -> at0 C (a + j) = x -> Aa3 P 21 [(pp bm), I ((a + j : Nat) : Int)] Y (I x) Y := by
   intro j x hj hx
   obtain ⟨_, _, F, e, rfl⟩ := Aco hT V mY (a + j) (by omega)
   rw [hx] at e; subst e; exact F
  have FA1 := FA 1 ((Aaf cs).length : Int) (by omega) (by rw [p1, esz])
  have FA2 := FA 2 0 (by omega) (by rw [p2, esh])
  have FA3 := FA 3 0 (by omega) (by rw [p3, ech])
  have FA4 := FA 4 0 (by omega) (by rw [p4, esm])
  have F71 := Nu.deg (Aaf cs).length n120 Y
  rw [<- hd] at F71
  obtain ⟨CR, hcr, g71, gA1, gA2, gA3, gA4⟩ : ∃ CR : Aa7, Ajg P CR /\ CR (.fn 83) [I ((Aaf cs).length : Nat)] Y = some (I (cs.length : Nat), Y) /\ CR (.fn 21) [(pp bm), I ((a + 1 : Nat) : Int)] Y = some (I ((Aaf cs).length : Nat), Y) /\ CR (.fn 21) [(pp bm), I ((a + 2 : Nat) : Int)] Y = some (I 0, Y) /\ CR (.fn 21) [(pp bm), I ((a + 3 : Nat) : Int)] Y = some (I 0, Y) /\ CR (.fn 21) [(pp bm), I ((a + 4 : Nat) : Int)] Y = some (I 0, Y) :=
   ⟨Ad9 83 _ Y _ Y (Ad9 21 _ Y _ Y (Ad9 21 _ Y _ Y (Ad9 21 _ Y _ Y (Ad9 21 _ Y _ Y Agy)))), Aba F71 (Aba FA1 (Aba FA2 (Aba FA3 (Aba FA4 Abo)))), Abd, by rw [Acd (by decide)]; exact Abd, by rw [Acd (by decide), Ahp (by simp)]; exact Abd, by rw [Acd (by decide), Ahp (by simp), Ahp (by simp)]; exact Abd, by rw [Acd (by decide), Ahp (by simp), Ahp (by simp), Ahp (by simp)]; exact Abd⟩
  have a1 : Aan .i64 ((a : Int) + 1) = ((a + 1 : Nat) : Int) := by rw [Aav] <;> omega
  have a2 : Aan .i64 ((a : Int) + 2) = ((a + 2 : Nat) : Int) := by rw [Aav] <;> omega
  have a3 : Aan .i64 ((a : Int) + 3) = ((a + 3 : Nat) : Int) := by rw [Aav] <;> omega
  have a4 : Aan .i64 ((a : Int) + 4) = ((a + 4 : Nat) : Int) := by rw [Aav] <;> omega
  have vp : veq (pp bm) (pp bm) = true := by simp [veq, Atr]
  have i1 : Y.rd h.nq 0 = some (pp bm) := Abb y1
  have i2 : Y.rd k1.nq 0 = some (I a) := Abb y2
  have i6 : Y.rd k4.nq 0 = some (I (cs.length : Int)) := Abb y6
  have i7 : Y.rd k5.nq 0 = some (I ((Aaf cs).length : Int)) := Abb y7
  have i8 : Y.rd k8.nq 0 = some (Aal (some yX) cs.length) := Abb y8
  have cd1 : ((cs.length : Int) != (cs.length : Int)) = false := by simp
  have cd2 : (((Aaf cs).length : Int) != ((Aaf cs).length : Int)) = false := by simp
  have w3 := Ah9 (Aif (u := I ((Aaf cs).length : Int)) (v := I (Adv cs)) y3 rfl rfl)
  have s3' : Aad Y (Y.setB k2.nq ⟨[I ((Aaf cs).length : Int), I (Adv cs)], 2, 2, true, false⟩) (fun j => j = k2.nq) := Aad.setB rfl
  have z3 : (Y.setB k2.nq ⟨[I ((Aaf cs).length : Int), I (Adv cs)], 2, 2, true, false⟩).bqs.get k2.nq = some ⟨[I ((Aaf cs).length : Int), I (Adv cs)], 2, 2, true, false⟩ := by rw [Aaz, if_pos rfl]
  generalize Y.setB k2.nq ⟨[I ((Aaf cs).length : Int), I (Adv cs)], 2, 2, true, false⟩ = Z1 at w3 s3' z3
  have z4 : Z1.bqs.get k3.nq = some ⟨[.bool false], 1, 1, true, false⟩ := by rw [s3'.get k3.nq (by omega) (by omega)]; exact y4
  have w4 : Z1.wrs k3.nq 0 [.bool true] = some (Z1.setB k3.nq ⟨[.bool true], 1, 1, true, false⟩) := Ab7 z4 rfl (by simp) rfl
  have s4' : Aad Z1 (Z1.setB k3.nq ⟨[.bool true], 1, 1, true, false⟩) (fun j => j = k3.nq) := Aad.setB rfl
  have z5 : (Z1.setB k3.nq ⟨[.bool true], 1, 1, true, false⟩).bqs.get k3.nq = some ⟨[.bool true], 1, 1, true, false⟩ := by rw [Aaz, if_pos rfl]
  generalize Z1.setB k3.nq ⟨[.bool true], 1, 1, true, false⟩ = Z2 at w4 s4' z5
  have xZ1 := s3'.nq
  have e3 : Z2.rds k2.nq 0 2 = some [I ((Aaf cs).length : Int), I (Adv cs)] := Aln (by rw [s4'.get k2.nq (by omega) (by omega)]; exact z3)
  have e4 : Z2.rd k3.nq 0 = some (.bool true) := Abb z5
  have e7 := Af7 (Aln y7)
  have SZ : Ac2 h Z2 (fun _ => False) := (SY.trans s3'.toB (fun j hj e => by omega)).trans s4'.toB (fun j hj e => by omega)
  have hfin := SZ.close
  refine Awl CR hcr ?_
  simp only [SS, seval, A65, q_p, q_r, A6l, A85, A8d, A5w, A5o, Ac4, vp, t2, t3, t6, t7, t8, i1, i2, i6, i7, g71, gA1, gA2, gA3, gA4, a1, a2, a3, a4, cd1, cd2]
  simp only [SS, seval, i8, Aal, Option.map_some]
  refine Ac6 (fun k ts h' => ∃ i : Nat, k = cs.length - i /\ i <= cs.length /\ h' = Y /\ look ts 4 = (pp k2.nq) /\ look ts 5 = (pp k3.nq) /\ look ts 7 = (pp k5.nq) /\ look ts 110 = .slice (some ⟨yX, 0, none⟩) cs.length cs.length /\ look ts 111 = I cs.length /\ look ts 112 = I i) ?_ (n := cs.length) ⟨0, rfl, Nat.zero_le _, rfl, by simp only [SS, seval, t4], by simp only [SS, seval, t5], by simp only [SS, seval, t7], by simp only [SS, seval], by simp only [SS, seval], by simp only [SS, seval] <;> rfl⟩
  rintro k ts h' ⟨i, rfl, i2, rfl, t4, t5, t7, t110, t111, t112⟩
  refine Acf ?_
  by_cases hi : i < cs.length
  ·have ci : ((i : Int) < cs.length) = True := by simp [hi]
   have wi : Aan .i64 ((i : Int) + 1) = ((i + 1 : Nat) : Int) := by rw [Aav] <;> omega
   have rk : h'.rd yX i = some (I (Abs (Aaf cs).length i)) := by
    have := rY.rd (i := i) (by omega)
    rw [Nat.zero_add] at this
    rw [this]; simp [hi]
   have Fs := Nu.siz (Aaf cs).length i n2 n120 (by omega) h'
   have ce : ((Abs (Aaf cs).length i : Int) != (Abs (Aaf cs).length i : Int)) = false := by simp
   simp only [SS, seval, t7, t110, t111, t112, ci, rk, i7]
   refine ⟨_, _, Fs, ?_⟩
   simp only [SS, seval, t4, t5, t7, t110, t111, t112, ce, wi]
   exact ⟨cs.length - (i + 1), by omega, i + 1, rfl, by omega, rfl⟩
  ·have ci : ((i : Int) < cs.length) = False := by simp; omega
   simp only [SS, seval, Abi, t4, t5, t7, t111, t112, ci, e7, Aeb, w3, w4, e3, e4]
   exact hfin
theorem Avy (H : Has tab) (V5 : Aiz tab) (V8 : Art tab) (Nu : Num P) {bm : Nat} {um : Option Nat} {C : List Int} {z c o r : Int} (hC : C.length <= 65536) : ∀ t : Tr, A8u P bm um C z c o r t := by
 intro t
 induction t using Tr.ind with
 | e a =>
  intro h m hok _
  refine Aaa hT V8.v79 rfl ?_
  have s1 : Aad h (h.new ⟨[I 0, I 0], 2, 2, true, false⟩) (fun _ => False) := Aad.new
  have g1 : (h.new ⟨[I 0, I 0], 2, 2, true, false⟩).bqs.get h.nq = some ⟨[I 0, I 0], 2, 2, true, false⟩ := by rw [Aa5, if_pos rfl]
  have x1 : (h.new ⟨[I 0, I 0], 2, 2, true, false⟩).nq = h.nq + 1 := rfl
  generalize hh1 : h.new ⟨[I 0, I 0], 2, 2, true, false⟩ = h1 at s1 g1 x1
  obtain ⟨_, h1, F1, rfl, rfl⟩ := Ab0 hT V H h1 a 1 hok.1 (by have := hok.2; omega) (by omega) (by omega)
  obtain ⟨_, h1, F2, rfl, rfl⟩ := Abt hT V H h1 a 1 hok.1 (by have := hok.2; omega) (by omega) (by omega)
  have s2 : Aad h1 (h1.setB h.nq ⟨[I 0, I 0], 2, 2, true, false⟩) (fun j => j = h.nq) := Aad.setB rfl
  have w2 := Ah9 (Aif (u := I 0) (v := I 0) g1 rfl rfl)
  have g2 : (h1.setB h.nq ⟨[I 0, I 0], 2, 2, true, false⟩).bqs.get h.nq = some ⟨[I 0, I 0], 2, 2, true, false⟩ := by rw [Aaz, if_pos rfl]
  generalize h1.setB h.nq ⟨[I 0, I 0], 2, 2, true, false⟩ = h2 at s2 w2 g2
  have r2 := Aln g2
  simp only [SV, SS, seval, af45, hh1]
  refine ⟨_, _, F1, ?_⟩
  simp only [SS, seval]
  refine ⟨_, _, F2, ?_⟩
  simp only [SS, seval, Aeb, w2, r2]
  have sf : Aad h h2 (fun _ => False) := s1.trans s2 (fun j hj e => by omega)
  rw [Aab h h2 sf.mq]
  exact ⟨rfl, sf⟩
 | l a k v =>
  intro h m hok _
  refine Aaa hT V8.v79 rfl ?_
  obtain ⟨q1, q2, q3, q4⟩ := hok
  have s1 : Aad h (h.new ⟨[I 0, I 0], 2, 2, true, false⟩) (fun _ => False) := Aad.new
  have g1 : (h.new ⟨[I 0, I 0], 2, 2, true, false⟩).bqs.get h.nq = some ⟨[I 0, I 0], 2, 2, true, false⟩ := by rw [Aa5, if_pos rfl]
  have x1 : (h.new ⟨[I 0, I 0], 2, 2, true, false⟩).nq = h.nq + 1 := rfl
  generalize hh1 : h.new ⟨[I 0, I 0], 2, 2, true, false⟩ = h1 at s1 g1 x1
  obtain ⟨_, h1, F1, rfl, rfl⟩ := Ab0 hT V H h1 a 2 q1 (by omega) (by omega) (by omega)
  obtain ⟨_, h1, F2, rfl, rfl⟩ := Abt hT V H h1 a 2 q1 (by omega) (by omega) (by omega)
  have F3 : Aa3 P 21 [(pp bm), I a] h1 (I k) h1 := by
   obtain ⟨_, _, F, e, rfl⟩ := Aco hT V (m.same s1 (fun x => x) (fun _ _ x => x)) a (by omega)
   rw [q3] at e; subst e; exact F
  have wz : Aan .i64 ((a : Int) + 0) = (a : Int) := by rw [Aav] <;> omega
  have s2 : Aad h1 (h1.setB h.nq ⟨[I 1, I k], 2, 2, true, false⟩) (fun j => j = h.nq) := Aad.setB rfl
  have w2 := Ah9 (Aif (u := I 1) (v := I k) g1 rfl rfl)
  have g2 : (h1.setB h.nq ⟨[I 1, I k], 2, 2, true, false⟩).bqs.get h.nq = some ⟨[I 1, I k], 2, 2, true, false⟩ := by rw [Aaz, if_pos rfl]
  generalize h1.setB h.nq ⟨[I 1, I k], 2, 2, true, false⟩ = h2 at s2 w2 g2
  have r2 := Aln g2
  simp only [SV, SS, seval, af45, hh1]
  refine ⟨_, _, F1, ?_⟩
  simp only [SS, seval]
  refine ⟨_, _, F2, ?_⟩
  simp only [SS, seval, wz]
  refine ⟨_, _, F3, ?_⟩
  simp only [SS, seval, Aeb, w2, r2]
  have sf : Aad h h2 (fun _ => False) := s1.trans s2 (fun j hj e => by omega)
  rw [Aab h h2 sf.mq]
  exact ⟨rfl, sf⟩
 | i a sz sh ch sm ks cs ih =>
  intro h m hok hid
  refine Aaa hT V8.v79 rfl ?_
  have s1 : Aad h (h.new ⟨[I 0, I 0], 2, 2, true, false⟩) (fun _ => False) := Aad.new
  have g1 : (h.new ⟨[I 0, I 0], 2, 2, true, false⟩).bqs.get h.nq = some ⟨[I 0, I 0], 2, 2, true, false⟩ := by rw [Aa5, if_pos rfl]
  have x1 : (h.new ⟨[I 0, I 0], 2, 2, true, false⟩).nq = h.nq + 1 := rfl
  generalize hh1 : h.new ⟨[I 0, I 0], 2, 2, true, false⟩ = h1 at s1 g1 x1
  have qa := hok.1.1
  have qb := hok.1.2.1
  obtain ⟨_, h1, F1, rfl, rfl⟩ := Ab0 hT V H h1 a 3 qa (by omega) (by omega) (by omega)
  obtain ⟨_, h1, F2, rfl, rfl⟩ := Abt hT V H h1 a 3 qa (by omega) (by omega) (by omega)
  obtain ⟨_, h2, F3, rfl, s2⟩ := Aki hT V H V5 V8 Nu hC ih (m.same s1 (fun x => x) (fun _ _ x => x)) hok hid
  have x2 := s2.nq
  have g2 : h2.bqs.get h.nq = some ⟨[I 0, I 0], 2, 2, true, false⟩ := by rw [s2.get h.nq (by omega) (fun x => x)]; exact g1
  have w3 := Ah9 (Aif (u := I ((Aaf cs).length : Int)) (v := I (Adv cs)) g2 rfl rfl)
  have s3 : Aad h2 (h2.setB h.nq ⟨[I ((Aaf cs).length : Int), I (Adv cs)], 2, 2, true, false⟩) (fun j => j = h.nq) := Aad.setB rfl
  have g3 : (h2.setB h.nq ⟨[I ((Aaf cs).length : Int), I (Adv cs)], 2, 2, true, false⟩).bqs.get h.nq = some ⟨[I ((Aaf cs).length : Int), I (Adv cs)], 2, 2, true, false⟩ := by rw [Aaz, if_pos rfl]
  generalize h2.setB h.nq ⟨[I ((Aaf cs).length : Int), I (Adv cs)], 2, 2, true, false⟩ = h3 at w3 s3 g3
  have r3 := Aln g3
  have ew : (Tr.inner a sz sh ch sm ks cs).word = (a : Int) * 8 + ((3 : Nat) : Int) := rfl
  have sf : Aad h h3 (fun _ => False) := (s1.trans s2 (fun _ _ x => x)).trans s3 (fun j hj e => by omega)
  rw [ew]
  simp only [SV, SS, seval, af45, hh1]
  refine ⟨_, _, F1, ?_⟩
  simp only [SS, seval]
  refine ⟨_, _, F2, ?_⟩
  simp only [SS, seval]
  refine ⟨_, _, F3, ?_⟩
  simp only [SS, seval, Aeb, w3, r3]
  rw [Aab h h3 sf.mq]
  exact ⟨rfl, sf⟩
theorem Arx (H : Has tab) (V2 : Aje tab) (V3 : Ail tab) (V4 : Aku tab) (V5 : Aiz tab) (V6 : Aml tab) (V8 : Art tab) (Nu : Num P) {bm : Nat} {um : Option Nat} {C : List Int} {z c o r : Int} {t : Tr} {h : Aac} (m : Aa2 h bm um C z c o r) (R : Ah6 C t) (hid : t.idl) : Aah P 22 [(pp bm), I t.word] h fun v h' => v = .bool true /\ Aad h h' (fun _ => False) := by
 refine Aaa hT V8.v45 rfl ?_
 obtain ⟨_, h1, F1, bt, ut, us, rfl, w, _, s1⟩ := Ae3 hT V H V2 V3 V4 m R
 obtain ⟨_, h2, F2, rfl, s2⟩ := Aty hT V V6 w (by have := R.few; simp; omega) (x := t.word) ⟨((6 : Int), t.word), by simp, rfl⟩
 have s02 := s1.trans s2 (fun _ _ x => x)
 have m2 := m.same s02 (fun x => x) (fun _ _ x => x)
 obtain ⟨_, h3, F3, rfl, s3⟩ := Avy hT V H V5 V8 Nu R.len.2 t h2 m2 R.ok hid
 have s4 : Aad h3 (h3.new ⟨[I 0, I 0], 2, 2, true, false⟩) (fun _ => False) := Aad.new
 have g4 : (h3.new ⟨[I 0, I 0], 2, 2, true, false⟩).bqs.get h3.nq = some ⟨[I 0, I 0], 2, 2, true, false⟩ := by rw [Aa5, if_pos rfl]
 have x4 : (h3.new ⟨[I 0, I 0], 2, 2, true, false⟩).nq = h3.nq + 1 := rfl
 generalize hh4 : h3.new ⟨[I 0, I 0], 2, 2, true, false⟩ = h4 at s4 g4 x4
 have w5 := Ah9 (Aif (u := I (t.content.length : Int)) (v := I t.first) g4 rfl rfl)
 have s5 : Aad h4 (h4.setB h3.nq ⟨[I (t.content.length : Int), I t.first], 2, 2, true, false⟩) (fun j => j = h3.nq) := Aad.setB rfl
 generalize h4.setB h3.nq ⟨[I (t.content.length : Int), I t.first], 2, 2, true, false⟩ = h5 at w5 s5
 have sf : Aad h h5 (fun _ => False) := ((s02.trans s3 (fun _ _ x => x)).trans s4 (fun _ _ x => x)).trans s5 (fun j hj e => by have := s02.nq; have := s3.nq; omega)
 simp only [SS, seval, af22]
 refine ⟨_, _, F1, ?_⟩
 simp only [SS, seval]
 refine ⟨_, _, F2, ?_⟩
 simp only [SS, seval]
 refine ⟨_, _, F3, ?_⟩
 simp only [SV, SS, seval, hh4, Aeb, w5]
 rw [Aab h h5 sf.mq]
 exact sf
end
structure Acg (tab : Nat -> Option Aae) : Prop where
 v42 : tab 31 = some af31
 v43 : tab 12 = some af12
 v73 : tab 36 = some af36
theorem A6y : Acg tabT.get := ⟨by kernel_rfl, by kernel_rfl, by kernel_rfl⟩
theorem Ask {h : Aac} {x s n cap bytes : Nat} {k : Blk} (hb : h.bqs.get x = some k) (hs : k.s = s) (hn : n <= cap) (s1 : 1 <= s) (b1 : n * bytes <= 1099511627776) (b2 : n <= 1099511627776) :
  Aqv h s bytes (.slice (some ⟨x, 0, none⟩) n cap) (.slice none 0 0) = some (.slice (some ⟨x, 0, none⟩) n cap, h) := by
 have hg : (Nat.ble ((n + 0) * bytes) 1099511627776 && Nat.ble (n + 0) 1099511627776 && Nat.ble 1 s && ([] : List Value).all Aas) = true := by
  rw [Nat.add_zero, Abl b1, Abl b2, Abl s1]; rfl
 show Arg h s bytes (some ⟨x, 0, none⟩) n cap [] 0 = _
 unfold Arg
 rw [hg, cond_true]
 simp only [hb, hs, Nat.beq_refl, Bool.not_true, cond_false, Nat.add_zero, Abl hn, cond_true]
section
variable (hT : Aa0 P tab)
include hT
theorem Ap9 (H : Has tab) {h : Aac} {y : Nat} {A C : List Int} {xa oa ca xc oc cc : Nat} (hy : Abq h y 0 1 3 3 [.slice (some ⟨xa, oa, none⟩) A.length ca, .slice none 0 0, .slice (some ⟨xc, oc, none⟩) C.length cc])
  (ha : Abq h xa oa 1 A.length ca (A.map I)) (hc : Abq h xc oc 1 C.length cc (C.map I)) (a0 : A ≠ []) (c0 : C ≠ []) (hl : A.length + C.length < 100000) :
  Aah P 80 [.slice (some ⟨y, 0, none⟩) 3 3] h fun v h' => v = .slice (some ⟨h.nq, 0, none⟩) (A ++ C).length (A ++ C).length /\ Abq h' h.nq 0 1 (A ++ C).length (A ++ C).length ((A ++ C).map I) /\ Aad h h' (fun _ => False) := by
 refine Aaa hT H.f106 rfl ?_
 have y0 : h.rd y 0 = _ := hy.rd (i := 0) (by omega)
 have y1 : h.rd y 1 = _ := hy.rd (i := 1) (by omega)
 have y2 : h.rd y 2 = _ := hy.rd (i := 2) (by omega)
 have pa := List.length_pos_iff.2 a0
 have pc := List.length_pos_iff.2 c0
 have w1 : Aan .i64 (0 + (A.length : Int)) = A.length := by rw [Aav] <;> omega
 have w2 : Aan .i64 ((A.length : Int)) = A.length := by rw [Aav] <;> omega
 have w3 : Aan .i64 ((A.length : Int) + C.length) = ((A.length + C.length : Nat) : Int) := by rw [Aav] <;> omega
 have w4 : Aan .i64 1 = 1 := by decide
 have w5 : Aan .i64 2 = 2 := by decide
 have w6 : Aan .i64 3 = 3 := by decide
 have n1 : ((A.length : Int) < 0) = False := by simp
 have n3 : (((A.length + C.length : Nat) : Int) < 0) = False := by simp; omega
 obtain ⟨v, h1, F, rfl, rfl⟩ := Ao7 hT H h (n := A.length + C.length) (by omega) (by omega)
 have e0 : (h.new ⟨rep [I 0] (A.length + C.length), A.length + C.length, 1, true, true⟩).bqs.get h.nq = some ⟨[] ++ rep [I 0] (A.length + C.length), A.length + C.length, 1, true, true⟩ := by rw [Aa5]; exact if_pos rfl
 have lr : (rep [I 0] (A.length + C.length)).length = A.length + C.length := by rw [Alx]; simp
 have s0 : Aad h (h.new ⟨rep [I 0] (A.length + C.length), A.length + C.length, 1, true, true⟩) (fun _ => False) := Aad.new
 have nx : ∀ j, j < h.nq -> j = h.nq -> False := fun j h1 h2 => by omega
 obtain ⟨k1, i1, e1, t1⟩ := Aig (bytes := 8) (n := 0) (cap := A.length + C.length) e0 (by simp) ((ha.same s0 (fun x => x)).src) (by simp) (by simp [lr]; try omega) (by simp [Aas]) (Nat.le_refl _) (by omega) (by omega) (by omega) (by omega)
 have s1 : Aad h k1 (fun _ => False) := s0.trans t1 nx
 have i2 := Ask (bytes := 8) (s := 1) (n := A.length) (cap := A.length + C.length) e1 rfl (by omega) (Nat.le_refl _) (by omega) (by omega)
 obtain ⟨k3, i3, e3, t3⟩ := Aig (bytes := 8) (n := 0 + A.length) (cap := A.length + C.length) e1 (by simp) ((hc.same s1 (fun x => x)).src) (by simp) (by simp [lr]; try omega) (by simp [Aas]) (Nat.le_refl _) (by omega) (by omega) (by omega) (by omega)
 have s3 : Aad h k3 (fun _ => False) := s1.trans t3 nx
 have z0 : (h.new ⟨rep [I 0] (A.length + C.length), A.length + C.length, 1, true, true⟩).rd y 0 = _ := (hy.same s0 (fun x => x)).rd (i := 0) (by omega)
 have z1 : k1.rd y 1 = _ := (hy.same s1 (fun x => x)).rd (i := 1) (by omega)
 have z2 : k1.rd y 2 = _ := (hy.same s1 (fun x => x)).rd (i := 2) (by omega)
 simp only [Nat.zero_add] at i1 i3
 have hL : (A ++ C).length = A.length + C.length := by simp
 simp only [SS, seval, af80]
 refine Apt (Acm ?_)
 simp only [SS, seval, y0, w1, w4, n1]
 refine Acm ?_
 simp only [SS, seval, y1, w2, w5, n1, Int.add_zero]
 refine Acm ?_
 simp only [SS, seval, y2, w3, w6, n3]
 refine Acm ?_
 simp only [SS, seval]
 refine ⟨_, _, F, ?_⟩
 simp only [SS, seval]
 refine Apt (Acm ?_)
 simp only [SS, seval, z0, i1, w4]
 refine Acm ?_
 simp only [SS, seval, z1, i2, w5]
 refine Acm ?_
 simp only [SS, seval, z2, i3, w6]
 refine Acm ?_
 simp only [SS, seval]
 rw [Aab h k3 s3.mq, hL]
 refine ⟨rfl, ⟨⟨_, e3, rfl, ?_, ?_⟩, Nat.le_refl _, ?_⟩, s3⟩
 ·rw [List.drop_zero, List.take_append_of_le_length (by simp)]
  simp only [List.nil_append, List.map_append]
  rw [List.take_of_length_le (by simp)]
 ·simp
 ·have := t1.nq; have := t3.nq
  rw [Aet] at *
  omega
theorem Arv (H : Has tab) {h : Aac} {n : Int} {x cap : Nat} {W : List Int} (hw : Abq h x 0 1 W.length cap (W.map I)) (hl : W.length = 1) :
  Aah P 48 [I n, .slice none 0 0, .slice (some ⟨x, 0, none⟩) W.length cap] h fun v h' => ∃ x, h.nq <= x /\ v = .slice (some ⟨x, 0, none⟩) ([1, n, 0, 0, 0] ++ W).length ([1, n, 0, 0, 0] ++ W).length /\ Abq h' x 0 1 ([1, n, 0, 0, 0] ++ W).length ([1, n, 0, 0, 0] ++ W).length (([1, n, 0, 0, 0] ++ W).map I) /\ Aad h h' (fun _ => False) := by
 refine Aaa hT H.f72 rfl ?_
 have w1 : Aan .i64 1 = 1 := by decide
 have c1 : ((1 : Int) != 1) = false := by simp
 have w0 : W ≠ [] := fun e => by rw [e] at hl; simp at hl
 have r5 : Abq (h.new ⟨[I 1, I n, I 0, I 0, I 0], 5, 1, true, false⟩) h.nq 0 1 5 5 [I 1, I n, I 0, I 0, I 0] := Abq.fresh h [I 1, I n, I 0, I 0, I 0] 5 1 true false rfl
 have s1 : Aad h (h.new ⟨[I 1, I n, I 0, I 0, I 0], 5, 1, true, false⟩) (fun _ => False) := Aad.new
 generalize hk1 : h.new ⟨[I 1, I n, I 0, I 0, I 0], 5, 1, true, false⟩ = k1 at r5 s1
 have r3 : Abq (k1.new ⟨[.slice (some ⟨h.nq, 0, none⟩) 5 5, .slice none 0 0, .slice (some ⟨x, 0, none⟩) W.length cap], 3, 1, true, false⟩) k1.nq 0 1 3 3 [.slice (some ⟨h.nq, 0, none⟩) 5 5, .slice none 0 0, .slice (some ⟨x, 0, none⟩) W.length cap] := Abq.fresh k1 _ 3 1 true false rfl
 have s2 : Aad k1 (k1.new ⟨[.slice (some ⟨h.nq, 0, none⟩) 5 5, .slice none 0 0, .slice (some ⟨x, 0, none⟩) W.length cap], 3, 1, true, false⟩) (fun _ => False) := Aad.new
 generalize hk2 : k1.new ⟨[.slice (some ⟨h.nq, 0, none⟩) 5 5, .slice none 0 0, .slice (some ⟨x, 0, none⟩) W.length cap], 3, 1, true, false⟩ = k2 at r3 s2
 have sA : Aad h k2 (fun _ => False) := s1.trans s2 (fun _ _ x => x)
 obtain ⟨v, h3, F, rfl, q2, q3⟩ := Ap9 hT H (A := [1, n, 0, 0, 0]) (C := W) r3 (r5.same s2 (fun x => x)) (hw.same sA (fun x => x)) (by simp) w0 (by simp; omega)
 have hwl : (W.length : Int) = 1 := by omega
 simp only [SS, seval, af48, hwl, w1, c1, hk1, hk2, Int.zero_add]
 refine ⟨_, _, F, ?_⟩
 simp only [SS, seval]
 have sB := sA.trans q3 (fun _ _ x => x)
 rw [Aab h h3 sB.mq]
 exact ⟨_, Nat.le_trans s1.nq s2.nq, rfl, q2, sB⟩
theorem Au9 (H : Has tab) (V9 : Acg tab) {h : Aac} {b : Nat} {z c o r : Int} (m : Aa2 h b none [] z c o r) (hz7 : 7 <= z) (hz : z <= 65536) (hc : 0 <= c /\ c < 1000) :
  Aah P 31 [(pp b)] h fun v h' => v = .bool true /\ (∃ u', Aa2 h' b u' [1, 0, 0, 0, 0, 57, 0] z (c + 2) o r /\ (∀ x, u' = some x -> h.nq <= x)) /\ Aad h h' (fun j => j = b) := by
 refine Aaa hT V9.v42 rfl ?_
 obtain ⟨_, h, F1, rfl, rfl⟩ := Ai9 hT H m
 obtain ⟨_, h, F2, rfl, rfl⟩ := Apx hT H m
 obtain ⟨_, h, F3, rfl, rfl⟩ := Aed hT H 1 7 h (by omega) (by omega) (by omega) (by omega)
 have e57 : (7 : Int) * 8 + 1 = 57 := rfl
 rw [e57] at F3
 have s1 : Aad h (h.new ⟨[I 57], 1, 1, true, false⟩) (fun _ => False) := Aad.new
 have r1 : Abq (h.new ⟨[I 57], 1, 1, true, false⟩) h.nq 0 1 1 1 [I 57] := Abq.fresh h [I 57] 1 1 true false rfl
 have x1 : (h.new ⟨[I 57], 1, 1, true, false⟩).nq = h.nq + 1 := rfl
 generalize hh1 : h.new ⟨[I 57], 1, 1, true, false⟩ = h1 at s1 r1 x1
 have m1 := m.same s1 (fun x => x) (fun _ _ x => x)
 obtain ⟨_, h2, F4, ⟨x, hx, rfl, r2, s2⟩⟩ := Arv hT H (n := 0) (W := [57]) r1 rfl
 have m2 := m1.same s2 (fun x => x) (fun _ _ x => x)
 have hbl := m.lt
 obtain ⟨_, h3, F5, rfl, ⟨u3, m3, n3⟩, s3⟩ := Akh hT H (ws := [1, 0, 0, 0, 0, 57]) m2 r2 (by omega) (by simp) (by simp; omega) hz ⟨by omega, by omega⟩
 have x2 := s2.nq
 have x3 := s3.nq
 obtain ⟨_, h4, F6, rfl, r4, s4⟩ := Afz hT H h3
 have m4 := m3.same s4 (fun x => x) (fun _ _ x => x)
 obtain ⟨_, h5, F7, rfl, ⟨u5, m5, n5⟩, s5⟩ := Akh hT H (ws := [0]) m4 r4 (by omega) (by simp) (by simp; omega) hz ⟨by omega, by omega⟩
 have x4 := s4.nq
 have hu3 : ∀ x, u3 = some x -> h.nq <= x := fun x hx => by
  rcases n3 x hx with e | e
  ·cases e
  ·omega
 have sf : Aad h h5 (fun j => j = b) := ((((s1.mono (fun _ x => x.elim)).trans s2 (fun _ _ x => x.elim)).trans s3 (fun j hj e => by
  rcases e with e | e
  ·exact e
  ·cases e)).trans s4 (fun _ _ x => x.elim)).trans s5 (fun j hj e => by
   rcases e with e | e
   ·exact e
   ·have := hu3 _ e; omega)
 have cz : (z < 7) = False := by simp; omega
 simp only [SS, seval, af31]
 refine ⟨_, _, F1, ?_⟩
 simp only [SS, seval]
 refine ⟨_, _, F2, ?_⟩
 simp only [SS, seval, cz]
 refine ⟨_, _, F3, ?_⟩
 simp only [SS, seval, hh1]
 refine ⟨_, _, F4, ?_⟩
 simp only [SV, SS, seval]
 refine ⟨_, _, F5, ?_⟩
 simp only [SS, seval]
 refine ⟨_, _, F6, ?_⟩
 simp only [SS, seval]
 refine ⟨_, _, F7, ?_⟩
 simp only [SV, SS, seval]
 rw [Aab h h5 sf.mq]
 refine ⟨⟨u5, ?_, fun x hx => ?_⟩, sf⟩
 ·have e : c + 1 + 1 = c + 2 := by omega
  rw [e] at m5
  exact m5
 ·rcases n5 x hx with e | e
  ·exact hu3 x e
  ·omega
theorem Ay5 (V9 : Acg tab) {h : Aac} {b x : Nat} {C : List Int} {z c o r : Int} (m : Aa2 h b (some x) C z c o r) (hc : 0 <= c /\ c < 1000000) {a : Nat} (a1 : 1 <= a) (a2 : a <= C.length) (hC : C.length <= 65536) :
  Aah P 36 [(pp b), I a] h fun v h' => v = .pointer (some ⟨x, a - 1, none⟩) /\ Aa2 h' b (some x) C z (c + 1) o r /\ Aad h h' (fun j => j = b) := by
 refine Aaa hT V9.v73 rfl ?_
 have wc : Aan .i64 (c + 1) = c + 1 := Aav (by omega) (by omega)
 have m1 := m.set z (c + 1) o r
 have s1 : Aad h (h.setB b (Ac9 (Ad6 (some x) C) z (c + 1) o r)) (fun j => j = b) := Aad.setB rfl
 have w2 := m.wr2 (c + 1)
 generalize h.setB b (Ac9 (Ad6 (some x) C) z (c + 1) o r) = h1 at w2 m1 s1
 have c1 : ((a : Int) < 1) = False := by simp; omega
 have c2 : ((a : Int) > C.length) = False := by simp; omega
 have w : Aan .i64 ((a : Int) - 1) = ((a - 1 : Nat) : Int) := by rw [Aav] <;> omega
 have c3 : (((a - 1 : Nat) : Int) < C.length) = True := by simp; omega
 have r0 : h1.rd b 0 = some (.slice (some ⟨x, 0, none⟩) C.length C.length) := m1.rd0
 simp only [SS, seval, af36, m.rd2, wc, w2, c1, r0, c2, w, c3]
 rw [Aab h h1 s1.mq]
 exact ⟨m1, s1⟩
theorem Auo (V9 : Acg tab) {h : Aac} {b x : Nat} {C : List Int} {z c o r : Int} (m : Aa2 h b (some x) C z c o r) (hc : 0 <= c /\ c < 1000000) {a : Nat} (a1 : 1 <= a) (a2 : a <= C.length) (hC : C.length <= 65536) (w : Int) :
  Aah P 12 [(pp b), I a, I w] h fun _ h' => Aa2 h' b (some x) (C.set (a - 1) w) z (c + 1) o r /\ Aad h h' (fun j => j = b \/ j = x) := by
 refine Aaa hT V9.v43 rfl ?_
 obtain ⟨_, h1, F1, rfl, m1, s1⟩ := Ay5 hT V9 m hc a1 a2 hC
 obtain ⟨q1, q2, q3, q4⟩ := m1.use x rfl
 have w1 : h1.wrs x (a - 1) [I w] = some (h1.setB x (Aeq (C.set (a - 1) w))) := by
  rw [Ab7 q1 rfl (by simp [Aeq]; omega) rfl]
  simp [Aeq, List.map_set]
 have s2 : Aad h1 (h1.setB x (Aeq (C.set (a - 1) w))) (fun j => j = x) := Aad.setB rfl
 have m2 : Aa2 (h1.setB x (Aeq (C.set (a - 1) w))) b (some x) (C.set (a - 1) w) z (c + 1) o r := by
  refine ⟨?_, fun y hy => ?_, (fun e => by cases e), m1.lt⟩
  ·rw [Aaz, if_neg (Ne.symm q2), m1.blk]
   simp [Ad6]
  ·cases hy
   exact ⟨by rw [Aaz, if_pos rfl], q2, q3, fun e => by
    have := congrArg List.length e
    simp only [List.length_set, List.length_nil] at this
    omega⟩
 generalize h1.setB x (Aeq (C.set (a - 1) w)) = h2 at w1 s2 m2
 have sf : Aad h h2 (fun j => j = b \/ j = x) := (s1.mono (fun _ e => .inl e)).trans s2 (fun _ _ e => .inr e)
 simp only [SS, seval, af12]
 refine ⟨_, _, F1, ?_⟩
 simp only [SS, seval, w1]
 rw [Aab h h2 sf.mq]
 exact ⟨m2, sf⟩
end
structure Agf (tab : Nat -> Option Aae) : Prop where
 mread : tab 64 = some af64
 mcas : tab 72 = some af72
 madd : tab 73 = some af73
theorem A88 : Agf tabT.get := ⟨by kernel_rfl, by kernel_rfl, by kernel_rfl⟩
structure PM where
 C : List Int
 z : Int
 c : Int
 o : Int
 r : Int
def PM.isin (m : PM) (a : Int) : Prop := 1 <= a /\ a <= m.C.length
instance (m : PM) (a : Int) : Decidable (m.isin a) := inferInstanceAs (Decidable (_ /\ _))
def PM.get (m : PM) (a : Int) : Int := if m.isin a then (m.C[(a - 1).toNat]?).getD 0 else 0
def PM.tick (m : PM) (a : Int) : PM := { m with c := m.c + 1, o := if m.isin a then m.o else m.o + 1 }
def PM.put (m : PM) (a x : Int) : PM := if m.isin a then { m with C := m.C.set (a - 1).toNat x } else m
def PM.read (m : PM) (a : Int) : Int × PM := (m.get a, m.tick a)
def PM.write (m : PM) (a x : Int) : PM := (m.put a x).tick a
def PM.cas (m : PM) (a old x : Int) : Bool × PM := if m.isin a /\ m.get a = old then (true, m.write a x) else (false, m.tick a)
def PM.add (m : PM) (a d : Int) : Int × PM := (m.get a, m.write a (Aan .i64 (m.get a + d)))
def Aa8 (h : Aac) (b : Nat) (u : Option Nat) (m : PM) : Prop := Aa2 h b u m.C m.z m.c m.o m.r
structure PM.fine (m : PM) : Prop where
 z0 : 0 <= m.z
 z1 : m.z <= 65536
 len : (m.C.length : Int) <= m.z
 c : 0 <= m.c /\ m.c < 1000000000
 o : 0 <= m.o /\ m.o < 1000000000
 r : 0 <= m.r /\ m.r < 1000000000
def cl (b : Nat) (u : Option Nat) (j : Nat) : Prop := j = b \/ u = some j
theorem Aa8.same {h h' : Aac} {b : Nat} {u : Option Nat} {m : PM} {S : Nat -> Prop} (mm : Aa8 h b u m) (s : Aad h h' S) (hS : ∀ j, cl b u j -> ¬ S j) : Aa8 h' b u m := Aa2.same mm s (hS b (.inl rfl)) (fun y hy => hS y (.inr hy))
theorem Aa8.lt {h : Aac} {b : Nat} {u : Option Nat} {m : PM} (mm : Aa8 h b u m) : ∀ j, cl b u j -> j < h.nq := fun j hj => hj.elim (fun e => by rw [e]; exact Aa2.lt mm) (fun e => (Aa2.use mm j e).2.2.1)
section
variable (hT : Aa0 P tab) (V9 : Acg tab) (HM : Agf tab)
include hT V9
theorem Ahr {h : Aac} {b : Nat} {u : Option Nat} {m : PM} (mm : Aa8 h b u m) (f : m.fine) (a : Int) (ha : -1000000000000000 <= a /\ a <= 1000000000000000) :
  Aah P 36 [(pp b), I a] h fun v h' => (m.isin a /\ (∃ x, u = some x /\ v = .pointer (some ⟨x, (a - 1).toNat, none⟩)) \/ ¬ m.isin a /\ v = .pointer none) /\ Aa8 h' b u (m.tick a) /\ Aad h h' (fun j => j = b) := by
 refine Aaa hT V9.v73 rfl ?_
 have fc := f.c
 have fo := f.o
 have fl := f.len
 have fz := f.z1
 have wc : Aan .i64 (m.c + 1) = m.c + 1 := Aav (by omega) (by omega)
 have wo : Aan .i64 (m.o + 1) = m.o + 1 := Aav (by omega) (by omega)
 have m1 := Aa2.set mm m.z (m.c + 1) m.o m.r
 have s1 : Aad h (h.setB b (Ac9 (Ad6 u m.C) m.z (m.c + 1) m.o m.r)) (fun j => j = b) := Aad.setB rfl
 have w2 := Aa2.wr2 mm (m.c + 1)
 have q2 := Aa2.rd2 mm
 generalize h.setB b (Ac9 (Ad6 u m.C) m.z (m.c + 1) m.o m.r) = h1 at w2 m1 s1
 have r0 : h1.rd b 0 = some (Ad6 u m.C) := m1.rd0
 have m2 := m1.set m.z (m.c + 1) (m.o + 1) m.r
 have s2 : Aad h1 (h1.setB b (Ac9 (Ad6 u m.C) m.z (m.c + 1) (m.o + 1) m.r)) (fun j => j = b) := Aad.setB rfl
 have w3 := m1.wr3 (m.o + 1)
 have r3 := m1.rd3
 generalize h1.setB b (Ac9 (Ad6 u m.C) m.z (m.c + 1) (m.o + 1) m.r) = h2 at w3 m2 s2
 have sF : Aad h h2 (fun j => j = b) := s1.trans s2 (fun _ _ x => x)
 by_cases c1 : a < 1
 ·have c1' : (a < 1) = True := by simp [c1]
  have hn : ¬ m.isin a := fun e => by have := e.1; omega
  have et : m.tick a = { m with c := m.c + 1, o := m.o + 1 } := by unfold PM.tick; rw [if_neg hn]
  simp only [SV, SS, seval, af36, q2, wc, w2, c1', r3, wo, w3]
  rw [Aab h h2 sF.mq]
  refine ⟨.inr hn, ?_, sF⟩
  rw [et]; exact m2
 ·have c1' : (a < 1) = False := by simp; omega
  by_cases c2 : a > m.C.length
  ·have c2' : (a > (m.C.length : Int)) = True := by simp; omega
   have hn : ¬ m.isin a := fun e => by have := e.2; omega
   have et : m.tick a = { m with c := m.c + 1, o := m.o + 1 } := by unfold PM.tick; rw [if_neg hn]
   simp only [Ad6] at r0
   simp only [SV, SS, seval, af36, q2, wc, w2, c1', r0, c2', r3, wo, w3]
   rw [Aab h h2 sF.mq]
   refine ⟨.inr hn, ?_, sF⟩
   rw [et]; exact m2
  ·have c2' : (a > (m.C.length : Int)) = False := by simp; omega
   have hy : m.isin a := ⟨by omega, by omega⟩
   have et : m.tick a = { m with c := m.c + 1 } := by unfold PM.tick; rw [if_pos hy]
   obtain ⟨x, rfl⟩ : ∃ x, u = some x := by
    cases u with
    | none => have e := Aa2.non mm rfl; have h1 := hy.1; have h2 := hy.2; rw [e] at h2; simp at h2; omega
    | some x => exact ⟨x, rfl⟩
   obtain ⟨k, hk⟩ := Int.eq_ofNat_of_zero_le (show 0 <= a - 1 by omega)
   have hk : a - 1 = (k : Int) := hk
   have wk : Aan .i64 (a - 1) = (k : Int) := by rw [hk, Aav] <;> omega
   have c3 : ((k : Int) < m.C.length) = True := by simp; omega
   have ek : (a - 1).toNat = k := by omega
   have r0' : h1.rd b 0 = some (.slice (some ⟨x, 0, none⟩) m.C.length m.C.length) := r0
   simp only [SV, SS, seval, af36, q2, wc, w2, c1', r0', c2', wk, c3]
   rw [Aab h h1 s1.mq]
   refine ⟨.inl ⟨hy, ?_⟩, ?_, s1⟩
   ·first | exact ⟨x, rfl, by rw [ek]⟩ | simp [ek]
   ·rw [et]; exact m1
include HM
theorem Abm {h : Aac} {b : Nat} {u : Option Nat} {m : PM} (mm : Aa8 h b u m) (f : m.fine) (a : Int) (ha : -1000000000000000 <= a /\ a <= 1000000000000000) :
  Aah P 64 [(pp b), I a] h fun v h' => v = I (m.read a).1 /\ Aa8 h' b u (m.read a).2 /\ Aad h h' (fun j => j = b) := by
 refine Aaa hT HM.mread rfl ?_
 obtain ⟨v1, h1, F1, hv, m1, s1⟩ := Ahr hT V9 mm f a ha
 rcases hv with ⟨hy, x, rfl, rfl⟩ | ⟨hn, rfl⟩
 ·obtain ⟨q1, _, _, _⟩ := Aa2.use m1 x rfl
  have hk : (a - 1).toNat < m.C.length := by have h1 := hy.1; have h2 := hy.2; omega
  have rd : h1.rd x (a - 1).toNat = some (I (m.get a)) := by
   rw [Abb q1]
   show (m.C.map I)[(a - 1).toNat]? = _
   rw [List.getElem?_map, PM.get, if_pos hy, List.getElem?_eq_getElem hk]; rfl
  simp only [SV, SS, seval, af64]
  refine ⟨_, _, F1, ?_⟩
  simp only [SV, SS, seval, rd]
  rw [Aab h h1 s1.mq]
  exact ⟨rfl, m1, s1⟩
 ·simp only [SV, SS, seval, af64]
  refine ⟨_, _, F1, ?_⟩
  simp only [SV, SS, seval]
  rw [Aab h h1 s1.mq]
  exact ⟨by simp [PM.read, PM.get, hn], m1, s1⟩
omit hT V9 HM in
theorem Aa8.put {h : Aac} {b x : Nat} {m : PM} (mm : Aa8 h b (some x) m) {a : Int} (hy : m.isin a) (w : Int) :
  ∃ h', h.wrs x (a - 1).toNat [I w] = some h' /\ Aa8 h' b (some x) (m.put a w) /\ Aad h h' (fun j => j = x) := by
 have hk : (a - 1).toNat < m.C.length := by have h1 := hy.1; have h2 := hy.2; omega
 obtain ⟨q1, q2, q3, q4⟩ := Aa2.use mm x rfl
 have ep : (m.put a w) = { m with C := m.C.set (a - 1).toNat w } := if_pos hy
 refine ⟨h.setB x (Aeq (m.C.set (a - 1).toNat w)), ?_, ?_, Aad.setB rfl⟩
 ·rw [Ab7 q1 rfl (by simp [Aeq]; omega) rfl]
  simp [Aeq, List.map_set]
 ·rw [ep]
  refine ⟨?_, fun y hy => ?_, (fun e => by cases e), (show b < h.nq from Aa2.lt mm)⟩
  ·rw [Aaz, if_neg (Ne.symm q2), Aa2.blk mm]
   simp [Ad6]
  ·cases hy
   exact ⟨by rw [Aaz, if_pos rfl], q2, q3, fun e => by
    have := congrArg List.length e
    simp only [List.length_set, List.length_nil] at this
    omega⟩
omit hT V9 HM in
theorem PM.tick_put (m : PM) (a x : Int) : (m.tick a).put a x = (m.put a x).tick a := by
 have hi : (m.tick a).isin a ↔ m.isin a := Iff.rfl
 by_cases h : m.isin a
 ·have e1 : (m.tick a).put a x = { m.tick a with C := m.C.set (a - 1).toNat x } := if_pos (hi.2 h)
  have e2 : m.put a x = { m with C := m.C.set (a - 1).toNat x } := if_pos h
  have h2 : (m.put a x).isin a := by rw [e2]; exact ⟨h.1, by simpa using h.2⟩
  rw [e1]
  have e3 : m.tick a = { m with c := m.c + 1, o := m.o } := by unfold PM.tick; rw [if_pos h]
  have e4 : (m.put a x).tick a = { m.put a x with c := (m.put a x).c + 1, o := (m.put a x).o } := by
   show ({ m.put a x with c := (m.put a x).c + 1, o := if (m.put a x).isin a then (m.put a x).o else (m.put a x).o + 1 } : PM) = _
   rw [if_pos h2]
  rw [e4, e3, e2]
 ·have e1 : (m.tick a).put a x = m.tick a := if_neg (fun e => h (hi.1 e))
  have e2 : m.put a x = m := if_neg h
  rw [e1, e2]
theorem Ao5 {h : Aac} {b : Nat} {u : Option Nat} {m : PM} (mm : Aa8 h b u m) (f : m.fine) (a d : Int) (ha : -1000000000000000 <= a /\ a <= 1000000000000000) :
  Aah P 73 [(pp b), I a, I d] h fun v h' => v = I (m.add a d).1 /\ Aa8 h' b u (m.add a d).2 /\ Aad h h' (cl b u) := by
 refine Aaa hT HM.madd rfl ?_
 obtain ⟨v1, h1, F1, hv, m1, s1⟩ := Ahr hT V9 mm f a ha
 rcases hv with ⟨hy, x, rfl, rfl⟩ | ⟨hn, rfl⟩
 ·obtain ⟨q1, _, _, _⟩ := Aa2.use m1 x rfl
  have hk : (a - 1).toNat < m.C.length := by have h1 := hy.1; have h2 := hy.2; omega
  have rd : h1.rd x (a - 1).toNat = some (I (m.get a)) := by
   rw [Abb q1]
   show (m.C.map I)[(a - 1).toNat]? = _
   rw [List.getElem?_map, PM.get, if_pos hy, List.getElem?_eq_getElem hk]; rfl
  obtain ⟨h2, w2, m2, s2⟩ := m1.put (a := a) hy (Aan .i64 (m.get a + d))
  rw [PM.tick_put] at m2
  have sF : Aad h h2 (cl b (some x)) := (s1.mono (fun j e => .inl e)).trans s2 (fun j hj e => .inr (by rw [e]))
  simp only [SV, SS, seval, af73]
  refine ⟨_, _, F1, ?_⟩
  simp only [SV, SS, seval, rd, w2]
  rw [Aab h h2 sF.mq]
  exact ⟨rfl, m2, sF⟩
 ·simp only [SV, SS, seval, af73]
  refine ⟨_, _, F1, ?_⟩
  simp only [SV, SS, seval]
  rw [Aab h h1 s1.mq]
  refine ⟨by simp [PM.add, PM.get, hn], ?_, s1.mono (fun j e => .inl e)⟩
  have : (m.add a d).2 = m.tick a := by simp [PM.add, PM.write, PM.put, hn]
  rw [this]; exact m1
theorem Ag3 {h : Aac} {b : Nat} {u : Option Nat} {m : PM} (mm : Aa8 h b u m) (f : m.fine) (a old w : Int) (ha : -1000000000000000 <= a /\ a <= 1000000000000000) :
  Aah P 72 [(pp b), I a, I old, I w] h fun v h' => v = .bool (m.cas a old w).1 /\ Aa8 h' b u (m.cas a old w).2 /\ Aad h h' (cl b u) := by
 refine Aaa hT HM.mcas rfl ?_
 obtain ⟨v1, h1, F1, hv, m1, s1⟩ := Ahr hT V9 mm f a ha
 rcases hv with ⟨hy, x, rfl, rfl⟩ | ⟨hn, rfl⟩
 ·obtain ⟨q1, _, _, _⟩ := Aa2.use m1 x rfl
  have hk : (a - 1).toNat < m.C.length := by have h1 := hy.1; have h2 := hy.2; omega
  have rd : h1.rd x (a - 1).toNat = some (I (m.get a)) := by
   rw [Abb q1]
   show (m.C.map I)[(a - 1).toNat]? = _
   rw [List.getElem?_map, PM.get, if_pos hy, List.getElem?_eq_getElem hk]; rfl
  by_cases he : m.get a = old
  ·obtain ⟨h2, w2, m2, s2⟩ := m1.put (a := a) hy w
   rw [PM.tick_put] at m2
   have sF : Aad h h2 (cl b (some x)) := (s1.mono (fun j e => .inl e)).trans s2 (fun j hj e => .inr (by rw [e]))
   have ec : m.cas a old w = (true, m.write a w) := if_pos ⟨hy, he⟩
   simp only [SV, SS, seval, af72]
   refine ⟨_, _, F1, ?_⟩
   have ce : (old != old) = false := by simp
   simp only [SV, SS, seval, rd, he, ce, w2]
   rw [Aab h h2 sF.mq, ec]
   exact ⟨rfl, m2, sF⟩
  ·have ce : (m.get a != old) = true := by simp [he]
   have ec : m.cas a old w = (false, m.tick a) := if_neg (fun e => he e.2)
   simp only [SV, SS, seval, af72]
   refine ⟨_, _, F1, ?_⟩
   simp only [SV, SS, seval, rd, ce]
   rw [Aab h h1 s1.mq, ec]
   exact ⟨rfl, m1, s1.mono (fun j e => .inl e)⟩
 ·have ec : m.cas a old w = (false, m.tick a) := if_neg (fun e => hn e.1)
  simp only [SV, SS, seval, af72]
  refine ⟨_, _, F1, ?_⟩
  simp only [SV, SS, seval]
  rw [Aab h h1 s1.mq, ec]
  exact ⟨rfl, m1, s1.mono (fun j e => .inl e)⟩
end
structure Afx (tab : Nat -> Option Aae) : Prop where
 rnew : tab 126 = some af126
 rstep : tab 100 = some af100
 rword : tab 102 = some af102
 pnew : tab 130 = some af130
 pstep : tab 108 = some af108
 pend : tab 132 = some af132
 pdone : tab 133 = some af133
 pword : tab 110 = some af110
 dnew : tab 61 = some af61
 dstep : tab 62 = some af62
 dend : tab 95 = some af95
 ddone : tab 96 = some af96
 dout : tab 63 = some af63
 dwords : tab 94 = some af94
 mnew : tab 65 = some af65
 menter : tab 103 = some af103
 mdone : tab 105 = some af105
 msum : tab 67 = some af67
theorem A84 : Afx tabT.get := ⟨by kernel_rfl, by kernel_rfl, by kernel_rfl, by kernel_rfl, by kernel_rfl, by kernel_rfl, by kernel_rfl, by kernel_rfl, by kernel_rfl, by kernel_rfl, by kernel_rfl, by kernel_rfl, by kernel_rfl, by kernel_rfl, by kernel_rfl, by kernel_rfl, by kernel_rfl, by kernel_rfl⟩
section
variable (hT : Aa0 P tab) (HS : Afx tab)
include hT HS
def Amb (slot : Int) (hp : Value) (w : Int) (dn : Bool) : List Value := [I slot, hp, I w, .bool dn]
theorem Av1 (h : Aac) (slot : Int) : Aah P 126 [I slot] h fun v h' => v = (pp h.nq) /\ h' = h.newR (Amb slot (.pointer none) 0 false) := by
 refine Aaa hT HS.rnew rfl ?_
 have bx := Adn h [I slot, .pointer none, .int .i64 0, .bool false] 4 rfl
 simp only [SV, SS, seval, af126, bx]
 exact rfl
theorem Akq {h : Aac} {b : Nat} {slot w : Int} {hp : Value} {dn : Bool} (r : Rcd h b (Amb slot hp w dn)) : Aah P 102 [(pp b)] h fun v h' => v = I w /\ h' = h := by
 refine Aaa hT HS.rword rfl ?_
 simp only [Amb] at r
 simp only [SV, SS, seval, af102, r.rd]
theorem Aux (h : Aac) (slot : Int) : Aah P 130 [I slot] h fun v h' => v = (pp h.nq) /\ h' = h.newR [I 0, I slot, I 0, I 0] := by
 refine Aaa hT HS.pnew rfl ?_
 have bx := Adn h [.int .i64 0, I slot, .int .i64 0, .int .i64 0] 4 rfl
 simp only [SV, SS, seval, af130, bx]
 exact rfl
theorem Arn {h : Aac} {b : Nat} {nx c a w : Int} (r : Rcd h b [I nx, I c, I a, I w]) : Aah P 110 [(pp b)] h fun v h' => v = I w /\ h' = h := by
 refine Aaa hT HS.pword rfl ?_
 simp only [SV, SS, seval, af110, r.rd]
theorem Ars {h : Aac} {b : Nat} {nx c a w : Int} (r : Rcd h b [I nx, I c, I a, I w]) : Aah P 133 [(pp b)] h fun v h' => v = .bool (nx == 3) /\ h' = h := by
 refine Aaa hT HS.pdone rfl ?_
 simp only [SV, SS, seval, af133, r.rd]
theorem Avi {h : Aac} {b : Nat} {nx c a w : Int} (r : Rcd h b [I nx, I c, I a, I w]) (x : Int) : Aah P 132 [(pp b), I x] h fun v h' => h' = h.setR b [I 3, I c, I a, I x] := by
 refine Aaa hT HS.pend rfl ?_
 simp only [SV, SS, seval, af132, r.wr, Abp]
 exact rfl
theorem Ax4 {h : Aac} {b : Nat} {nx g p o n r s oc : Int} (rc : Rcd h b [I nx, I g, I p, I o, I n, I r, I s, I oc]) (x : Int) : Aah P 95 [(pp b), I x] h fun v h' => h' = h.setR b [I 6, I g, I p, I o, I n, I r, I s, I x] := by
 refine Aaa hT HS.dend rfl ?_
 simp only [SV, SS, seval, af95, rc.wr, Abp]
 exact rfl
theorem Ae0 {h : Aac} {b : Nat} {nx g p o n r s oc : Int} (rc : Rcd h b [I nx, I g, I p, I o, I n, I r, I s, I oc]) : Aah P 96 [(pp b)] h fun v h' => v = .bool (nx == 6) /\ h' = h := by
 refine Aaa hT HS.ddone rfl ?_
 simp only [SV, SS, seval, af96, rc.rd]
theorem Ap3 {h : Aac} {b : Nat} {nx g p o n r s oc : Int} (rc : Rcd h b [I nx, I g, I p, I o, I n, I r, I s, I oc]) : Aah P 63 [(pp b)] h fun v h' => v = I oc /\ h' = h := by
 refine Aaa hT HS.dout rfl ?_
 simp only [SV, SS, seval, af63, rc.rd]
theorem Aqn (h : Aac) (g p o n : Int) : Aah P 61 [I g, I p, I o, I n] h fun v h' => v = (pp h.nq) /\ h' = h.newR [I 0, I g, I p, I o, I n, I 0, I 0, I 0] := by
 refine Aaa hT HS.dnew rfl ?_
 have bx := Adn h [.int .i64 0, I g, I p, I o, I n, .int .i64 0, .int .i64 0, .int .i64 0] 8 rfl
 simp only [SV, SS, seval, af61, bx]
 exact rfl
theorem Ar3 (h : Aac) (g p o n : Int) : Aah P 94 [I g, I p, I o, I n] h fun v h' => v = .slice (some ⟨h.nq, 0, none⟩) 5 5 /\ Abq h' h.nq 0 1 5 5 ([g, p, o, n, 0].map I) /\ Aad h h' (fun _ => False) := by
 refine Aaa hT HS.dwords rfl ?_
 simp only [SV, SS, seval, af94]
 exact ⟨Abq.fresh h [I g, I p, I o, I n, I 0] 5 1 true false rfl, Aad.new⟩
theorem Awd (h : Aac) (n : Int) : Aah P 65 [I n] h fun v h' => v = (pp h.nq) /\ h' = h.newR [I 0, I n, .pointer none, I 0, .slice none 0 0, I 0] := by
 refine Aaa hT HS.mnew rfl ?_
 have bx := Adn h [.int .i64 0, I n, .pointer none, .int .i64 0, .slice none 0 0, .int .i64 0] 6 rfl
 simp only [SV, SS, seval, af65, bx]
 exact rfl
theorem Ash {h : Aac} {b : Nat} {nx n at' sm : Int} {rd lv : Value} (r : Rcd h b [I nx, I n, rd, I at', lv, I sm]) (x : Int) : Aah P 103 [(pp b), I x] h fun v h' => h' = h.setR b [I 0, I x, rd, I at', lv, I sm] := by
 refine Aaa hT HS.menter rfl ?_
 simp only [SV, SS, seval, af103, r.wr, Abp]
 exact rfl
theorem Af4 {h : Aac} {b : Nat} {nx n at' sm : Int} {rd lv : Value} (r : Rcd h b [I nx, I n, rd, I at', lv, I sm]) : Aah P 105 [(pp b)] h fun v h' => v = .bool (nx == 6) /\ h' = h := by
 refine Aaa hT HS.mdone rfl ?_
 simp only [SV, SS, seval, af105, r.rd]
theorem Axg {h : Aac} {b : Nat} {nx n at' sm : Int} {rd lv : Value} (r : Rcd h b [I nx, I n, rd, I at', lv, I sm]) : Aah P 67 [(pp b)] h fun v h' => v = I sm /\ h' = h := by
 refine Aaa hT HS.msum rfl ?_
 simp only [SV, SS, seval, af67, r.rd]
variable (V : Aea tab) (H : Has tab) (V9 : Acg tab) (HM : Agf tab)
include V H V9 HM
theorem Alw {h : Aac} {b bm : Nat} {um : Option Nat} {m : PM} {slot w0 : Int} (r : Rcd h b (Amb slot (.pointer none) w0 false)) (mm : Aa8 h bm um m) (f : m.fine) (hb : ¬ cl bm um b) (hs : -1000000000000000 <= slot /\ slot <= 1000000000000000) {a k : Nat} (a1 : 1 <= a) (a2 : a <= 65536) (k1 : 1 <= k) (k2 : k <= 4) (hw : m.get slot = (a : Int) * 8 + k) :
  Aah P 100 [(pp b), (pp bm)] h fun v h' => v = .bool true /\ Rcd h' b (Amb slot (.pointer none) ((a : Int) * 8 + k) true) /\ Aa8 h' bm um (m.tick slot) /\ Aad h h' (fun j => j = b \/ j = bm) := by
 refine Aaa hT HS.rstep rfl ?_
 obtain ⟨_, h1, F1, rfl, m1, s1⟩ := Abm hT V9 HM mm f slot hs
 have F1' : Aa3 P 64 [(pp bm), I slot] h (I ((a : Int) * 8 + k)) h1 := by rw [<- hw]; exact F1
 have m1 : Aa8 h1 bm um (m.tick slot) := m1
 have r1 := r.same s1 (fun e => hb (.inl e))
 obtain ⟨_, _, F2, rfl, e2⟩ := Abt hT V H h1 a k a1 a2 k1 (by omega)
 rw [e2] at F2
 have c5 : ((k : Int) == 5) = false := by rw [beq_eq_false_iff_ne]; omega
 simp only [Amb] at r r1
 have rq := r.rd
 have rw1 := r1.wr
 have sF : Aad h (h1.setR b [I slot, .pointer none, I ((a : Int) * 8 + k), .bool true]) (fun j => j = b \/ j = bm) := (s1.mono (T := fun j => j = b \/ j = bm) (fun j e => .inr e)).trans (Aad.setR (S := fun j => j = b \/ j = bm) (.inl rfl)) (fun _ _ x => x)
 have r2 := Rcd.set (h := h1) [I slot, .pointer none, I ((a : Int) * 8 + k), .bool true] r1.lt
 have m2 : Aa8 (h1.setR b [I slot, .pointer none, I ((a : Int) * 8 + k), .bool true]) bm um (m.tick slot) := m1.same (S := (· = b)) (Aad.setR rfl) (fun j hj e => hb (e ▸ hj))
 simp only [SV, SS, seval, af100, rq]
 refine ⟨_, _, F1', ?_⟩
 simp only [SV, SS, seval]
 refine ⟨_, _, F2, ?_⟩
 simp only [SV, SS, seval, c5, rw1, Abp, Adc]
 rw [Aab h _ sF.mq]
 exact ⟨r2, m2, sF⟩
theorem Ar1 {h : Aac} {b bm : Nat} {um : Option Nat} {m : PM} {slot at' w0 : Int} (r : Rcd h b [I 0, I slot, I at', I w0]) (mm : Aa8 h bm um m) (f : m.fine) (hb : ¬ cl bm um b) (hs : -1000000000000000 <= slot /\ slot <= 1000000000000000) {a k : Nat} (a1 : 1 <= a) (a2 : a <= 65536) (k1 : 1 <= k) (k2 : k <= 4) (hw : m.get slot = (a : Int) * 8 + k) :
  Aah P 108 [(pp b), (pp bm)] h fun v h' => v = .bool true /\ Rcd h' b [I 3, I slot, I at', I ((a : Int) * 8 + k)] /\ Aa8 h' bm um (m.tick slot) /\ Aad h h' (fun j => j = b \/ j = bm) := by
 refine Aaa hT HS.pstep rfl ?_
 obtain ⟨_, h1, F1, rfl, m1, s1⟩ := Abm hT V9 HM mm f slot hs
 have F1' : Aa3 P 64 [(pp bm), I slot] h (I ((a : Int) * 8 + k)) h1 := by rw [<- hw]; exact F1
 have m1 : Aa8 h1 bm um (m.tick slot) := m1
 have r1 := r.same s1 (fun e => hb (.inl e))
 obtain ⟨_, _, F2, rfl, e2⟩ := Abt hT V H h1 a k a1 a2 k1 (by omega)
 rw [e2] at F2
 have c5 : ((k : Int) != 5) = true := by simp; omega
 obtain ⟨v3, h3, F3, e3⟩ := Avi hT HS r1 ((a : Int) * 8 + k)
 rw [e3] at F3
 have rq := r.rd
 have r2 := Rcd.set (h := h1) [I 3, I slot, I at', I ((a : Int) * 8 + k)] r1.lt
 have sF : Aad h (h1.setR b [I 3, I slot, I at', I ((a : Int) * 8 + k)]) (fun j => j = b \/ j = bm) := (s1.mono (T := fun j => j = b \/ j = bm) (fun j e => .inr e)).trans (Aad.setR (S := fun j => j = b \/ j = bm) (.inl rfl)) (fun _ _ x => x)
 have m2 : Aa8 (h1.setR b [I 3, I slot, I at', I ((a : Int) * 8 + k)]) bm um (m.tick slot) := m1.same (S := (· = b)) (Aad.setR rfl) (fun j hj e => hb (e ▸ hj))
 obtain ⟨_, _, F4, e40, e4⟩ := Ars hT HS r2
 rw [e4, e40] at F4
 have F4' : Aa3 P 133 [(pp b)] (h1.setR b [I 3, I slot, I at', I ((a : Int) * 8 + k)]) (.bool true) (h1.setR b [I 3, I slot, I at', I ((a : Int) * 8 + k)]) := F4
 simp only [SV, SS, seval, af108, rq]
 refine ⟨_, _, F1', ?_⟩
 simp only [SV, SS, seval]
 refine ⟨_, _, F2, ?_⟩
 simp only [SV, SS, seval, c5]
 refine ⟨_, _, F3, ?_⟩
 simp only [SV, SS, seval]
 refine ⟨_, _, F4', ?_⟩
 simp only [SV, SS, seval]
 rw [Aab h _ sF.mq]
 exact ⟨r2, m2, sF⟩
end
theorem Ama {z l : List Value} {n : Nat} (hz : z.length = n) (hl : l.length = n) : Aew z [(0, n, .agg l.toArray)] = some l := by
 have e : (Value.agg l.toArray).cells.toList = l := by simp [Value.cells]
 unfold Aew
 simp only [e, hl, hz, Adk, Nat.zero_add, Abl (Nat.le_refl n), Bool.and_true, cond_true]
 unfold Aew
 congr 1
 simp only [splice]
 rw [List.take_zero, List.nil_append, Nat.zero_add, List.drop_of_length_le (by omega), List.append_nil]
def Whole (s : Nat) (Ls : List (List Value)) : Prop := ∀ l ∈ Ls, l.length = s /\ l.all Aas = true
theorem Whole.len {s : Nat} : ∀ {Ls : List (List Value)}, Whole s Ls -> Ls.flatten.length = Ls.length * s
 | [], _ => by simp
 | l :: Ls, w => by
  have h1 := (w l (by simp)).1
  have h2 := Whole.len (Ls := Ls) (fun x hx => w x (List.mem_cons_of_mem _ hx))
  simp only [List.flatten_cons, List.length_append, List.length_cons, h1, h2, Nat.add_mul, Nat.one_mul]
  omega
theorem Whole.sc {s : Nat} : ∀ {Ls : List (List Value)}, Whole s Ls -> Ls.flatten.all Aas = true
 | [], _ => rfl
 | l :: Ls, w => by
  have h1 := (w l (by simp)).2
  have h2 := Whole.sc (Ls := Ls) (fun x hx => w x (List.mem_cons_of_mem _ hx))
  simp only [List.flatten_cons, List.all_append, h1, h2, Bool.and_self]
def Adh (h : Aac) (v : Value) (s : Nat) (Ls : List (List Value)) (u : Option Nat) : Prop :=
 (u = none /\ Ls = [] /\ v = .slice none 0 0) \/ ∃ x rest r, u = some x /\ v = .slice (some ⟨x, 0, none⟩) Ls.length (Ls.length + r) /\ rest.length = r * s /\ h.bqs.get x = some ⟨Ls.flatten ++ rest, (Ls.length + r) * s, s, true, true⟩ /\ x < h.nq /\ 1 <= Ls.length + r
theorem Adh.same {h h' : Aac} {v : Value} {s : Nat} {Ls : List (List Value)} {u : Option Nat} {S : Nat -> Prop} (a : Adh h v s Ls u) (m : Aad h h' S) (hu : ∀ x, u = some x -> ¬ S x) : Adh h' v s Ls u := by
 rcases a with a | ⟨x, rest, r, e, e2, e3, b, l, n1⟩
 ·exact .inl a
 ·exact .inr ⟨x, rest, r, e, e2, e3, by rw [m.get x l (hu x e)]; exact b, Nat.lt_of_lt_of_le l m.nq, n1⟩
theorem Adh.lt {h : Aac} {v : Value} {s : Nat} {Ls : List (List Value)} {u : Option Nat} (a : Adh h v s Ls u) : ∀ x, u = some x -> x < h.nq := by
 rcases a with ⟨rfl, _⟩ | ⟨x, rest, r, rfl, _, _, _, l, _⟩
 ·intro x hx; cases hx
 ·intro y hy; cases hy; exact l
theorem Adh.val {h : Aac} {v : Value} {s : Nat} {Ls : List (List Value)} {u : Option Nat} (a : Adh h v s Ls u) : ∃ base cap, v = .slice base Ls.length cap := by
 rcases a with ⟨_, rfl, rfl⟩ | ⟨x, rest, r, _, rfl, _⟩ <;> exact ⟨_, _, rfl⟩
theorem Adh.nil (h : Aac) (s : Nat) : Adh h (.slice none 0 0) s [] none := .inl ⟨rfl, rfl, rfl⟩
theorem Adh.push {h : Aac} {v : Value} {s bytes : Nat} {Ls : List (List Value)} {u : Option Nat} (a : Adh h v s Ls u) (w : Whole s Ls) (s1 : 1 <= s) (hb : bytes <= 1000) {Y : Value} {l : List Value} (hy : Ach h s Y = some (l, 1)) (hl : l.length = s) (hs : l.all Aas = true) (hn : Ls.length < 1000000) :
  ∃ v' u' h', Aqv h s bytes v Y = some (v', h') /\ Adh h' v' s (Ls ++ [l]) u' /\ Aad h h' (fun j => u = some j) /\ (∀ x, u' = some x -> u = some x \/ x = h.nq) := by
 have hfl := w.len
 have bb : ∀ n, n <= 1000001 -> n * bytes <= 1099511627776 := fun n hn => by
  have := Nat.mul_le_mul hn hb; omega
 have own : ∀ {u : Option Nat} (_ : Abh h u s Ls.length Ls.flatten) (_ : v = Aal u Ls.length), ∃ v' u' h', Aqv h s bytes v Y = some (v', h') /\ Adh h' v' s (Ls ++ [l]) u' /\ Aad h h' (fun j => u = some j) /\ (∀ x, u' = some x -> u = some x \/ x = h.nq) := by
  intro u o e
  obtain ⟨u', h', e1, e2, e3, e4⟩ := Ad5 (bytes := bytes) o hy (by omega) hs s1 (bb _ (by omega)) (by omega)
  subst e
  refine ⟨_, u', h', e1, ?_, e3, e4⟩
  cases hu : u' with
  | none => rw [hu] at e2; have := e2.non rfl; omega
  | some x =>
   rw [hu] at e2
   obtain ⟨q1, q2, _⟩ := e2.use x rfl
   refine .inr ⟨x, [], 0, rfl, ?_, by simp, ?_, q2, by simp⟩
   ·simp [Aal]
   ·rw [q1]; simp
 rcases a with ⟨rfl, rfl, rfl⟩ | ⟨x, rest, r, rfl, rfl, hr, b, lt, n1⟩
 ·exact own (Abh.nil h s) rfl
 ·cases r with
  | zero =>
   have : rest = [] := List.eq_nil_of_length_eq_zero (by omega)
   subst this
   refine own (u := some x) { use := fun y hy => ?_, non := (by simp), len := hfl, sc := w.sc } (by simp [Aal])
   cases hy
   simp only [Nat.add_zero, List.append_nil] at b n1
   exact ⟨b, lt, n1⟩
  | succ r =>
   have hrl : s <= rest.length := by rw [hr, Nat.add_mul]; omega
   obtain ⟨h', e1, e2, e3⟩ := Aig (bytes := bytes) (n := Ls.length) (cap := Ls.length + (r + 1)) b hfl hy (by omega) (by omega) hs s1 (by omega) (by omega) (bb _ (by omega)) (by omega)
   refine ⟨_, some x, h', e1, .inr ⟨x, rest.drop s, r, rfl, ?_, ?_, ?_, Nat.lt_of_lt_of_le lt e3.nq, by simp; omega⟩, e3.mono (fun j hj => by rw [hj]), fun y hy => .inl hy⟩
   ·simp; omega
   ·rw [List.length_drop, hr, Nat.add_mul]; omega
   ·rw [e2, hl, show (Ls ++ [l]).length + r = Ls.length + (r + 1) by simp; omega]; simp
theorem Adh.pop {h : Aac} {v : Value} {s : Nat} {Ls : List (List Value)} {l z : List Value} {u : Option Nat} (a : Adh h v s (Ls ++ [l]) u) (w : Whole s (Ls ++ [l])) (s1 : 1 <= s) (hz : z.length = s) (hzs : z.all Aas = true) :
  ∃ x cap h', u = some x /\ v = .slice (some ⟨x, 0, none⟩) (Ls.length + 1) cap /\ h.rds x (Ls.length * s) s = some l /\ Aop h s (.pointer (some ⟨x, Ls.length * s, none⟩)) (.agg z.toArray) = some (undef, h') /\ slV h' s v none (some (I Ls.length)) = some (.slice (some ⟨x, 0, none⟩) Ls.length cap) /\ Adh h' (.slice (some ⟨x, 0, none⟩) Ls.length cap) s Ls (some x) /\ Aad h h' (· = x) := by
 rcases a with ⟨_, e, _⟩ | ⟨x, rest, r, rfl, rfl, hr, b, lt, n1⟩
 ·simp at e
 have wl : Whole s Ls := fun l hl => w l (by simp [hl])
 have hl := (w l (by simp)).1
 have hfl := wl.len
 have ef : (Ls ++ [l]).flatten ++ rest = Ls.flatten ++ (l ++ rest) := by simp
 have eN : (Ls ++ [l]).length = Ls.length + 1 := by simp
 rw [ef, eN] at b
 have hlen : (Ls.flatten ++ (l ++ rest)).length = (Ls.length + 1 + r) * s := by
  simp only [List.length_append, hfl, hl, hr, Nat.add_mul, Nat.one_mul]; omega
 have hb2 : Ls.length * s + s <= (Ls.length + 1 + r) * s := by simp only [Nat.add_mul, Nat.one_mul]; omega
 have hw : h.wrs x (Ls.length * s) z = some (h.setB x ⟨spl z (Ls.flatten ++ (l ++ rest)) (Ls.length * s), (Ls.length + 1 + r) * s, s, true, true⟩) := Ak6 b rfl (by simp only [hlen, hz]; exact hb2) hzs
 have es : spl z (Ls.flatten ++ (l ++ rest)) (Ls.length * s) = Ls.flatten ++ (z ++ rest) := by
  rw [Ai4]; simp only [splice]
  rw [<- hfl, List.take_left', hz, <- hl, List.append_assoc]
  ·congr 2
   rw [<- List.length_append, <- List.append_assoc, List.drop_left']
   simp
  ·rfl
 rw [es] at hw
 have sS : Aad h (h.setB x ⟨Ls.flatten ++ (z ++ rest), (Ls.length + 1 + r) * s, s, true, true⟩) (· = x) := Aad.setB rfl
 have g : (h.setB x ⟨Ls.flatten ++ (z ++ rest), (Ls.length + 1 + r) * s, s, true, true⟩).bqs.get x = some ⟨Ls.flatten ++ (z ++ rest), (Ls.length + 1 + r) * s, s, true, true⟩ := by rw [Aaz, if_pos rfl]
 refine ⟨x, Ls.length + 1 + r, _, rfl, by rw [eN], ?_, Alq hw hz s1, ?_, .inr ⟨x, z ++ rest, r + 1, rfl, by rw [show Ls.length + 1 + r = Ls.length + (r + 1) by omega], by rw [List.length_append, hz, hr, Nat.add_mul]; omega, by rw [g, show Ls.length + 1 + r = Ls.length + (r + 1) by omega], lt, by omega⟩, sS⟩
 ·rw [Ae8 b (by simp only [hlen]; exact hb2)]
  congr 1
  rw [List.drop_left' hfl, List.take_left' hl]
 ·rw [eN]
  have r0 : Abq (h.setB x ⟨Ls.flatten ++ (z ++ rest), (Ls.length + 1 + r) * s, s, true, true⟩) x 0 s (Ls.length + 1) (Ls.length + 1 + r) ((Ls.flatten ++ (z ++ rest)).take ((Ls.length + 1) * s)) := by
   have hlen2 : (Ls.flatten ++ (z ++ rest)).length = (Ls.length + 1 + r) * s := by
    simp only [List.length_append, hfl, hz, hr, Nat.add_mul, Nat.one_mul]; omega
   have hle : (Ls.length + 1) * s <= (Ls.length + 1 + r) * s := Nat.mul_le_mul_right _ (by omega)
   exact ⟨⟨_, g, rfl, by simp, by simp only [hlen2]; omega⟩, by omega, lt⟩
  exact r0.to (by omega) (by omega)
structure Ah3 (tab : Nat -> Option Aae) : Prop where
 push : tab 98 = some af98
 pop : tab 104 = some af104
 top : tab 125 = some af125
theorem A8m : Ah3 tabT.get := ⟨by kernel_rfl, by kernel_rfl, by kernel_rfl⟩
def A42 : List Value := [.int .i64 0, .int .i64 0, .int .i64 0, .int .i64 0]
section
variable (hT : Aa0 P tab) (HK : Ah3 tab)
include hT HK
theorem A1u {h : Aac} {b k : Nat} {L : List Value} {v : Value} {u : Option Nat} (r : Rcd h b L) (hk : L[k]? = some v) (a : Adh h v 4 [] u) : Aah P 125 [.pointer (some ⟨b, k, none⟩)] h fun v' h' => v' = .tuple #[.agg (A42).toArray, .bool false] /\ Aad h h' (fun _ => False) := by
 refine Aaa hT HK.top rfl ?_
 have s1 : Aad h (h.newR [.int .i64 0, .int .i64 0, .int .i64 0, .int .i64 0]) (fun _ => False) := Aad.newR
 have r1 := Rcd.new h [.int .i64 0, .int .i64 0, .int .i64 0, .int .i64 0]
 have b1 := r.same s1 (fun x => x)
 have q1 : (h.newR [.int .i64 0, .int .i64 0, .int .i64 0, .int .i64 0]).rd b k = some v := by rw [b1.rd]; exact hk
 generalize hh1 : h.newR [.int .i64 0, .int .i64 0, .int .i64 0, .int .i64 0] = h1 at s1 r1 b1 q1
 have s2 : Aad h1 (h1.newR [.int .i64 0, .int .i64 0, .int .i64 0, .int .i64 0]) (fun _ => False) := Aad.newR
 have ld2 := Afu h1 [.int .i64 0, .int .i64 0, .int .i64 0, .int .i64 0] 4 rfl
 have r2 := r1.same s2 (fun x => x)
 generalize hh2 : h1.newR [.int .i64 0, .int .i64 0, .int .i64 0, .int .i64 0] = h2 at s2 ld2 r2
 obtain ⟨h3, w3, g3, s3, n3, f3⟩ := A5z (m := 4) (L' := [.int .i64 0, .int .i64 0, .int .i64 0, .int .i64 0]) r2.blk rfl rfl (by omega) (by simp [Aas])
 have sF : Aad h h3 (fun _ => False) := (s1.trans s2 (fun _ _ x => x)).trans s3 (fun j hj e => by omega)
 obtain ⟨base, cap, hv⟩ := a.val
 subst hv
 have w3' : Aop h2 4 (pp h.nq) (.agg (List.toArray [.int .i64 0, .int .i64 0, .int .i64 0, .int .i64 0])) = some (undef, h3) := w3
 have f3' : h3.rds h.nq 0 4 = some [.int .i64 0, .int .i64 0, .int .i64 0, .int .i64 0] := f3
 simp only [SS, seval, af125, Aaw, hh1, q1, beq_self_eq_true, hh2, Abi, ld2, Acq, w3', f3']
 rw [Aab h h3 sF.mq]
 exact ⟨rfl, sF⟩
theorem Ao6 {h : Aac} {b k : Nat} {L : List Value} {v : Value} {Ls : List (List Value)} {l : List Value} {u : Option Nat} (r : Rcd h b L) (hk : L[k]? = some v) (a : Adh h v 4 (Ls ++ [l]) u) (w : Whole 4 (Ls ++ [l])) (hn : Ls.length < 1000000) : Aah P 125 [.pointer (some ⟨b, k, none⟩)] h fun v' h' => v' = .tuple #[.agg l.toArray, .bool true] /\ h' = h.newR l := by
 refine Aaa hT HK.top rfl ?_
 have hw := w l (by simp)
 have s1 : Aad h (h.newR [.int .i64 0, .int .i64 0, .int .i64 0, .int .i64 0]) (fun _ => False) := Aad.newR
 have b1 := r.same s1 (fun x => x)
 have q1 : (h.newR [.int .i64 0, .int .i64 0, .int .i64 0, .int .i64 0]).rd b k = some v := by rw [b1.rd]; exact hk
 obtain ⟨x, cap, h', hu, hv, e3, _⟩ := (a.same s1 (fun _ _ x => x)).pop w (by omega) (z := [.int .i64 0, .int .i64 0, .int .i64 0, .int .i64 0]) rfl (by simp [Aas])
 have st := Acw h [.int .i64 0, .int .i64 0, .int .i64 0, .int .i64 0] l 4 rfl hw.1 (by omega) hw.2
 have ld : ldN (h.newR [.int .i64 0, .int .i64 0, .int .i64 0, .int .i64 0]) 4 (.pointer (some ⟨x, Ls.length * 4, none⟩)) = some (.agg l.toArray) := Af7 e3
 have c0 : (((Ls.length + 1 : Nat) : Int) == 0) = false := by rw [beq_eq_false_iff_ne]; omega
 have wl : Aan .i64 (((Ls.length + 1 : Nat) : Int) - 1) = (Ls.length : Int) := by rw [Aav] <;> omega
 have ci : ((Ls.length : Int) < ((Ls.length + 1 : Nat) : Int)) = True := by simp; omega
 have fr := (Rcd.new h l)
 have f3 : (h.newR l).rds h.nq 0 4 = some l := by
  rw [Ae8 fr.blk (by simp only [hw.1]; omega)]
  simp only [List.drop_zero]
  rw [List.take_of_length_le (by rw [hw.1]; omega)]
 subst hv
 simp only [SS, seval, af125, Aaw, q1, c0]
 refine ⟨Agy, Abo, ?_⟩
 simp only [SS, seval, q1, wl, ci, Abi, ld, Acq, st, f3]
 exact rfl
theorem Amu {h : Aac} {b k : Nat} {L : List Value} {v : Value} {Ls : List (List Value)} {l : List Value} {u : Option Nat} (r : Rcd h b L) (hk : L[k]? = some v) (a : Adh h v 4 Ls u) (w : Whole 4 Ls) (hu : u ≠ some b) (hl : l.length = 4) (hs : l.all Aas = true) (hvl : veq (.agg l.toArray) (.agg l.toArray) = true) (hn : Ls.length < 1000000) : Aah P 98 [.pointer (some ⟨b, k, none⟩), .agg l.toArray] h fun _ h' => (∃ v' u', Rcd h' b (L.set k v') /\ Aas v' = true /\ Adh h' v' 4 (Ls ++ [l]) u' /\ (∀ x, u' = some x -> u = some x \/ h.nq <= x)) /\ Aad h h' (fun j => j = b \/ u = some j) := by
 refine Aaa hT HK.push rfl ?_
 have bx := Adn h l 4 hl
 have hkl : k < L.length := by
  rcases Nat.lt_or_ge k L.length with h | h
  ·exact h
  ·rw [List.getElem?_eq_none h] at hk; cases hk
 have s1 : Aad h (h.newR l) (fun _ => False) := Aad.newR
 have ld1 := Afu h l 4 hl
 have b1 := r.same s1 (fun x => x)
 have a1 := a.same s1 (fun _ _ x => x)
 have x1 : (h.newR l).nq = h.nq + 1 := rfl
 generalize hh1 : h.newR l = h1 at bx s1 ld1 b1 a1 x1
 have q1 : h1.rd b k = some v := by rw [b1.rd]; exact hk
 have s2 : Aad h1 (h1.new ⟨l, 1 * 4, 4, true, false⟩) (fun _ => False) := Aad.new
 have c2 : Abq (h1.new ⟨l, 1 * 4, 4, true, false⟩) h1.nq 0 4 1 1 l := Abq.fresh h1 l 1 4 true false (by omega)
 have x2 : (h1.new ⟨l, 1 * 4, 4, true, false⟩).nq = h1.nq + 1 := rfl
 have a2 := a1.same s2 (fun _ _ x => x)
 have b2 := b1.same s2 (fun x => x)
 have fl : Aew [.int .i64 0, .int .i64 0, .int .i64 0, .int .i64 0] [(0, 4, .agg l.toArray)] = some l := Ama rfl hl
 generalize hh2 : h1.new ⟨l, 1 * 4, 4, true, false⟩ = h2 at s2 c2 x2 a2 b2
 have q2 : h2.rd b k = some v := by rw [b2.rd]; exact hk
 obtain ⟨v', u', h3, e3, a3, s3, n3⟩ := a2.push w (by omega) (bytes := 32) (by omega) c2.src hl hs hn
 have b3 := b2.same s3 (fun e => hu e)
 have vs : Aas v' = true := by obtain ⟨base, cap, e⟩ := a3.val; rw [e]; exact Ab4 _ _ _
 have w4 := b3.wr k v' hkl vs
 have s4 : Aad h3 (h3.setR b (L.set k v')) (· = b) := Aad.setR rfl
 have b4 := Rcd.set (h := h3) (L.set k v') b3.lt
 have hb := r.lt
 have ul := a.lt
 have u'b : u' ≠ some b := fun e => by
  rcases n3 b e with e2 | e2
  ·exact hu e2
  ·omega
 have a4 := a3.same s4 (fun y hy e => u'b (by rw [hy, e]))
 generalize h3.setR b (L.set k v') = h4 at w4 s4 b4 a4
 have sF : Aad h h4 (fun j => j = b \/ u = some j) := (((s1.trans s2 (fun _ _ x => x)).mono (T := fun j => j = b \/ u = some j) (fun _ x => x.elim)).trans s3 (fun j _ e => .inr e)).trans s4 (fun j _ e => .inl e)
 obtain ⟨base, cap, hv⟩ := a.val
 let J : Nat -> Aac -> Prop := fun i k' => (i <= 1 -> k'.rd b k = some v) /\ (i <= 0 -> ldN k' 4 (pp h.nq) = some (.agg l.toArray))
 have j1 : J 1 h2 := ⟨fun _ => q2, fun h => by omega⟩
 have j0 : J 0 h1 := ⟨fun _ => q1, fun _ => ld1⟩
 have j2 : J 2 h3 := ⟨fun h => by omega, fun h => by omega⟩
 have j3 : J 3 h4 := ⟨fun h => by omega, fun h => by omega⟩
 have jr : ∀ j k', 0 <= j -> j <= 1 -> J j k' -> k'.rd b k = some v := fun j k' _ hj q => q.1 hj
 have vv : veq v v = true := by rw [hv]; exact Ag5 _ _ _
 have vl : veq (.agg l.toArray) (.agg l.toArray) = true := hvl
 have jn : ∀ j k', 0 <= j -> j <= 0 -> J j k' -> ldN k' 4 (pp h.nq) = some (.agg l.toArray) := fun j k' _ hj q => q.2 hj
 clear_value J
 simp only [SS, seval, af98, bx]
 refine Adz J Agy Abo j0 ?_
 simp only [SS, seval, Aiv, w_p, w_r, w_e, Afl, Awg, Ain, Afr, Ad3, q1, Abi, ld1, fl, hh2, e3, w4, vs, vv, vl]
 refine ⟨jr, jn, j1, j2, j3, ?_⟩
 rw [Aab h h4 sF.mq]
 exact ⟨⟨v', u', b4, vs, a4, fun y hy => (n3 y hy).imp_right (fun e => by omega)⟩, sF⟩
theorem A01 {h : Aac} {b k : Nat} {L : List Value} {v : Value} {u : Option Nat} (r : Rcd h b L) (hk : L[k]? = some v) (a : Adh h v 4 [] u) : Aah P 104 [.pointer (some ⟨b, k, none⟩)] h fun v' h' => v' = .tuple #[.agg (A42).toArray, .bool false] /\ Aad h h' (fun _ => False) := by
 refine Aaa hT HK.pop rfl ?_
 have s1 : Aad h (h.newR [.int .i64 0, .int .i64 0, .int .i64 0, .int .i64 0]) (fun _ => False) := Aad.newR
 have r1 := Rcd.new h [.int .i64 0, .int .i64 0, .int .i64 0, .int .i64 0]
 have b1 := r.same s1 (fun x => x)
 have a1 := a.same s1 (fun _ _ x => x)
 generalize hh1 : h.newR [.int .i64 0, .int .i64 0, .int .i64 0, .int .i64 0] = h1 at s1 r1 b1 a1
 obtain ⟨_, h2, F2, rfl, s2⟩ := A1u hT HK b1 hk a1
 have r2 := r1.same s2 (fun x => x)
 have s3 : Aad h2 (h2.newR [.int .i64 0, .int .i64 0, .int .i64 0, .int .i64 0]) (fun _ => False) := Aad.newR
 have st3 := Acw h2 [.int .i64 0, .int .i64 0, .int .i64 0, .int .i64 0] [.int .i64 0, .int .i64 0, .int .i64 0, .int .i64 0] 4 rfl rfl (by omega) (by simp [Aas])
 have ld3 := Afu h2 [.int .i64 0, .int .i64 0, .int .i64 0, .int .i64 0] 4 rfl
 have r3 := r2.same s3 (fun x => x)
 generalize hh3 : h2.newR [.int .i64 0, .int .i64 0, .int .i64 0, .int .i64 0] = h3 at s3 st3 ld3 r3
 obtain ⟨h4, w4, g4, s4, n4, f4⟩ := A5z (m := 4) (L' := [.int .i64 0, .int .i64 0, .int .i64 0, .int .i64 0]) r3.blk rfl rfl (by omega) (by simp [Aas])
 have sF : Aad h h4 (fun _ => False) := ((s1.trans s2 (fun _ _ x => x)).trans s3 (fun _ _ x => x)).trans s4 (fun j hj e => by omega)
 have st3' : Aop h3 4 (pp h2.nq) (.agg (A42).toArray) = some (undef, h3) := st3
 have w4' : Aop h3 4 (pp h.nq) (.agg (List.toArray [.int .i64 0, .int .i64 0, .int .i64 0, .int .i64 0])) = some (undef, h4) := w4
 have f4' : h4.rds h.nq 0 4 = some [.int .i64 0, .int .i64 0, .int .i64 0, .int .i64 0] := f4
 simp only [SS, seval, af104, Aaw, hh1]
 refine ⟨_, _, F2, ?_⟩
 simp only [SS, seval, Aaw, hh3, Acq, st3', Abi, ld3, w4', f4']
 rw [Aab h h4 sF.mq]
 exact ⟨rfl, sF⟩
theorem Apz {h : Aac} {b k : Nat} {L : List Value} {v : Value} {Ls : List (List Value)} {l : List Value} {u : Option Nat} (r : Rcd h b L) (hk : L[k]? = some v) (a : Adh h v 4 (Ls ++ [l]) u) (w : Whole 4 (Ls ++ [l])) (hu : u ≠ some b) (hn : Ls.length < 1000000) : Aah P 104 [.pointer (some ⟨b, k, none⟩)] h fun v' h' => v' = .tuple #[.agg l.toArray, .bool true] /\ (∃ v', Rcd h' b (L.set k v') /\ Aas v' = true /\ Adh h' v' 4 Ls u) /\ Aad h h' (fun j => j = b \/ u = some j) := by
 refine Aaa hT HK.pop rfl ?_
 have hw := w l (by simp)
 have hkl : k < L.length := by
  rcases Nat.lt_or_ge k L.length with h | h
  ·exact h
  ·rw [List.getElem?_eq_none h] at hk; cases hk
 have ul := a.lt
 have hb := r.lt
 have s1 : Aad h (h.newR [.int .i64 0, .int .i64 0, .int .i64 0, .int .i64 0]) (fun _ => False) := Aad.newR
 have r1 := Rcd.new h [.int .i64 0, .int .i64 0, .int .i64 0, .int .i64 0]
 have b1 := r.same s1 (fun x => x)
 have a1 := a.same s1 (fun _ _ x => x)
 have x1 : (h.newR [.int .i64 0, .int .i64 0, .int .i64 0, .int .i64 0]).nq = h.nq + 1 := rfl
 generalize hh1 : h.newR [.int .i64 0, .int .i64 0, .int .i64 0, .int .i64 0] = h1 at s1 r1 b1 a1 x1
 obtain ⟨_, h2, F2, rfl, e2⟩ := Ao6 hT HK b1 hk a1 w hn
 have s2 : Aad h1 h2 (fun _ => False) := by rw [e2]; exact Aad.newR
 have x2 : h2.nq = h1.nq + 1 := by rw [e2]; rfl
 clear e2
 have r2 := r1.same s2 (fun x => x)
 have s3 : Aad h2 (h2.newR l) (fun _ => False) := Aad.newR
 have st3 := Acw h2 [.int .i64 0, .int .i64 0, .int .i64 0, .int .i64 0] l 4 rfl hw.1 (by omega) hw.2
 have r3 := r2.same s3 (fun x => x)
 have l3 := Rcd.new h2 l
 have x3 : (h2.newR l).nq = h2.nq + 1 := rfl
 generalize hh3 : h2.newR l = h3 at s3 st3 r3 l3 x3
 have s4 : Aad h3 (h3.newR [.int .i64 0, .int .i64 0, .int .i64 0, .int .i64 0]) (fun _ => False) := Aad.newR
 have ld4 := Afu h3 [.int .i64 0, .int .i64 0, .int .i64 0, .int .i64 0] 4 rfl
 have sA : Aad h (h3.newR [.int .i64 0, .int .i64 0, .int .i64 0, .int .i64 0]) (fun _ => False) := ((s1.trans s2 (fun _ _ x => x)).trans s3 (fun _ _ x => x)).trans s4 (fun _ _ x => x)
 have b4 := r.same sA (fun x => x)
 have a4 := a.same sA (fun _ _ x => x)
 have r4 := r3.same s4 (fun x => x)
 have l4 := l3.same s4 (fun x => x)
 generalize hh4 : h3.newR [.int .i64 0, .int .i64 0, .int .i64 0, .int .i64 0] = h4 at s4 ld4 sA b4 a4 r4 l4
 obtain ⟨x, cap, h5, hux, hv, e5, st5, sl5, a5, s5⟩ := a4.pop w (by omega) (z := [.int .i64 0, .int .i64 0, .int .i64 0, .int .i64 0]) rfl (by simp [Aas])
 have hxb : x ≠ b := fun e => hu (by rw [hux, e])
 have hxl := ul x hux
 have b5 := b4.same s5 (fun e => hxb e.symm)
 have q4 : h4.rd b k = some v := by rw [b4.rd]; exact hk
 have q5 : h5.rd b k = some v := by rw [b5.rd]; exact hk
 have w6 := b5.wr k (.slice (some ⟨x, 0, none⟩) Ls.length cap) hkl (Ab4 _ _ _)
 have s6 : Aad h5 (h5.setR b (L.set k (.slice (some ⟨x, 0, none⟩) Ls.length cap))) (· = b) := Aad.setR rfl
 have b6 := Rcd.set (h := h5) (L.set k (.slice (some ⟨x, 0, none⟩) Ls.length cap)) b5.lt
 generalize h5.setR b (L.set k (.slice (some ⟨x, 0, none⟩) Ls.length cap)) = h6 at w6 s6 b6
 have a6 := a5.same s6 (fun y hy e => by cases hy; exact hxb e)
 have l6 := (l4.same s5 (fun e => by omega)).same s6 (fun e => by omega)
 have r6 := (r4.same s5 (fun e => by omega)).same s6 (fun e => by omega)
 have ld6 : ldN h6 4 (pp h2.nq) = some (.agg l.toArray) := Af7 (l := l) (by
  rw [Ae8 l6.blk (by simp only [hw.1]; omega)]
  simp only [List.drop_zero]
  rw [List.take_of_length_le (by rw [hw.1]; omega)])
 obtain ⟨h7, w7, g7, s7, n7, f7⟩ := A5z (m := 4) (L' := l) r6.blk rfl hw.1 (by omega) hw.2
 have a7 := a6.same s7 (fun y hy e => by cases hy; omega)
 have b7 := b6.same s7 (fun e => by omega)
 have sF : Aad h h7 (fun j => j = b \/ u = some j) := (((sA.mono (T := fun j => j = b \/ u = some j) (fun _ x => x.elim)).trans s5 (fun j _ e => .inr (by rw [hux, e]))).trans s6 (fun j _ e => .inl e)).trans s7 (fun j hj e => by omega)
 have wl : Aan .i64 (((Ls.length + 1 : Nat) : Int) - 1) = (Ls.length : Int) := by rw [Aav] <;> omega
 have ci : ((Ls.length : Int) < ((Ls.length + 1 : Nat) : Int)) = True := by simp; omega
 rw [hux]
 subst hv
 simp only [SS, seval, af104, Aaw, hh1]
 refine ⟨_, _, F2, ?_⟩
 simp only [SS, seval, Aaw, Acq, st3, hh3, hh4, q4, wl]
 refine ⟨Agy, Abo, ?_⟩
 simp only [SS, seval, q4, Abi, ld4, ci, Acq, st5, q5, sl5, w6, ld6, w7, f7]
 rw [Aab h h7 sF.mq]
 rw [hux] at sF
 exact ⟨⟨_, b7, Ab4 _ _ _, a7⟩, sF.mono (fun j e => e.imp_right (fun e => by cases e; rfl))⟩
end
structure Ae4 (tab : Nat -> Option Aae) : Prop where
 push : tab 106 = some af106
 pop : tab 131 = some af131
 top : tab 129 = some af129
theorem A7l : Ae4 tabT.get := ⟨by kernel_rfl, by kernel_rfl, by kernel_rfl⟩
def A8w : List Value := [.int .i64 0, .int .i64 0, .int .i64 0, .int .i64 0, .int .i64 0, .int .i64 0]
section
variable (hT : Aa0 P tab) (HK : Ae4 tab)
include hT HK
theorem A17 {h : Aac} {b k : Nat} {L : List Value} {v : Value} {u : Option Nat} (r : Rcd h b L) (hk : L[k]? = some v) (a : Adh h v 6 [] u) : Aah P 129 [.pointer (some ⟨b, k, none⟩)] h fun v' h' => v' = .tuple #[.agg (A8w).toArray, .bool false] /\ Aad h h' (fun _ => False) := by
 refine Aaa hT HK.top rfl ?_
 have s1 : Aad h (h.newR [.int .i64 0, .int .i64 0, .int .i64 0, .int .i64 0, .int .i64 0, .int .i64 0]) (fun _ => False) := Aad.newR
 have r1 := Rcd.new h [.int .i64 0, .int .i64 0, .int .i64 0, .int .i64 0, .int .i64 0, .int .i64 0]
 have b1 := r.same s1 (fun x => x)
 have q1 : (h.newR [.int .i64 0, .int .i64 0, .int .i64 0, .int .i64 0, .int .i64 0, .int .i64 0]).rd b k = some v := by rw [b1.rd]; exact hk
 generalize hh1 : h.newR [.int .i64 0, .int .i64 0, .int .i64 0, .int .i64 0, .int .i64 0, .int .i64 0] = h1 at s1 r1 b1 q1
 have s2 : Aad h1 (h1.newR [.int .i64 0, .int .i64 0, .int .i64 0, .int .i64 0, .int .i64 0, .int .i64 0]) (fun _ => False) := Aad.newR
 have ld2 := Afu h1 [.int .i64 0, .int .i64 0, .int .i64 0, .int .i64 0, .int .i64 0, .int .i64 0] 6 rfl
 have r2 := r1.same s2 (fun x => x)
 generalize hh2 : h1.newR [.int .i64 0, .int .i64 0, .int .i64 0, .int .i64 0, .int .i64 0, .int .i64 0] = h2 at s2 ld2 r2
 obtain ⟨h3, w3, g3, s3, n3, f3⟩ := A5z (m := 6) (L' := [.int .i64 0, .int .i64 0, .int .i64 0, .int .i64 0, .int .i64 0, .int .i64 0]) r2.blk rfl rfl (by omega) (by simp [Aas])
 have sF : Aad h h3 (fun _ => False) := (s1.trans s2 (fun _ _ x => x)).trans s3 (fun j hj e => by omega)
 obtain ⟨base, cap, hv⟩ := a.val
 subst hv
 have w3' : Aop h2 6 (pp h.nq) (.agg (List.toArray [.int .i64 0, .int .i64 0, .int .i64 0, .int .i64 0, .int .i64 0, .int .i64 0])) = some (undef, h3) := w3
 have f3' : h3.rds h.nq 0 6 = some [.int .i64 0, .int .i64 0, .int .i64 0, .int .i64 0, .int .i64 0, .int .i64 0] := f3
 simp only [SS, seval, af129, Aaw, hh1, q1, beq_self_eq_true, hh2, Abi, ld2, Abn, w3', f3']
 rw [Aab h h3 sF.mq]
 exact ⟨rfl, sF⟩
theorem Alu {h : Aac} {b k : Nat} {L : List Value} {v : Value} {Ls : List (List Value)} {l : List Value} {u : Option Nat} (r : Rcd h b L) (hk : L[k]? = some v) (a : Adh h v 6 (Ls ++ [l]) u) (w : Whole 6 (Ls ++ [l])) (hn : Ls.length < 1000000) : Aah P 129 [.pointer (some ⟨b, k, none⟩)] h fun v' h' => v' = .tuple #[.agg l.toArray, .bool true] /\ h' = h.newR l := by
 refine Aaa hT HK.top rfl ?_
 have hw := w l (by simp)
 have s1 : Aad h (h.newR [.int .i64 0, .int .i64 0, .int .i64 0, .int .i64 0, .int .i64 0, .int .i64 0]) (fun _ => False) := Aad.newR
 have b1 := r.same s1 (fun x => x)
 have q1 : (h.newR [.int .i64 0, .int .i64 0, .int .i64 0, .int .i64 0, .int .i64 0, .int .i64 0]).rd b k = some v := by rw [b1.rd]; exact hk
 obtain ⟨x, cap, h', hu, hv, e3, _⟩ := (a.same s1 (fun _ _ x => x)).pop w (by omega) (z := [.int .i64 0, .int .i64 0, .int .i64 0, .int .i64 0, .int .i64 0, .int .i64 0]) rfl (by simp [Aas])
 have st := Acw h [.int .i64 0, .int .i64 0, .int .i64 0, .int .i64 0, .int .i64 0, .int .i64 0] l 6 rfl hw.1 (by omega) hw.2
 have ld : ldN (h.newR [.int .i64 0, .int .i64 0, .int .i64 0, .int .i64 0, .int .i64 0, .int .i64 0]) 6 (.pointer (some ⟨x, Ls.length * 6, none⟩)) = some (.agg l.toArray) := Af7 e3
 have c0 : (((Ls.length + 1 : Nat) : Int) == 0) = false := by rw [beq_eq_false_iff_ne]; omega
 have wl : Aan .i64 (((Ls.length + 1 : Nat) : Int) - 1) = (Ls.length : Int) := by rw [Aav] <;> omega
 have ci : ((Ls.length : Int) < ((Ls.length + 1 : Nat) : Int)) = True := by simp; omega
 have fr := (Rcd.new h l)
 have f3 : (h.newR l).rds h.nq 0 6 = some l := by
  rw [Ae8 fr.blk (by simp only [hw.1]; omega)]
  simp only [List.drop_zero]
  rw [List.take_of_length_le (by rw [hw.1]; omega)]
 subst hv
 simp only [SS, seval, af129, Aaw, q1, c0]
 refine ⟨Agy, Abo, ?_⟩
 simp only [SS, seval, q1, wl, ci, Abi, ld, Abn, st, f3]
 exact rfl
theorem Anl {h : Aac} {b k : Nat} {L : List Value} {v : Value} {Ls : List (List Value)} {l : List Value} {u : Option Nat} (r : Rcd h b L) (hk : L[k]? = some v) (a : Adh h v 6 Ls u) (w : Whole 6 Ls) (hu : u ≠ some b) (hl : l.length = 6) (hs : l.all Aas = true) (hvl : veq (.agg l.toArray) (.agg l.toArray) = true) (hn : Ls.length < 1000000) : Aah P 106 [.pointer (some ⟨b, k, none⟩), .agg l.toArray] h fun _ h' => (∃ v' u', Rcd h' b (L.set k v') /\ Aas v' = true /\ Adh h' v' 6 (Ls ++ [l]) u' /\ (∀ x, u' = some x -> u = some x \/ h.nq <= x)) /\ Aad h h' (fun j => j = b \/ u = some j) := by
 refine Aaa hT HK.push rfl ?_
 have bx := Adn h l 6 hl
 have hkl : k < L.length := by
  rcases Nat.lt_or_ge k L.length with h | h
  ·exact h
  ·rw [List.getElem?_eq_none h] at hk; cases hk
 have s1 : Aad h (h.newR l) (fun _ => False) := Aad.newR
 have ld1 := Afu h l 6 hl
 have b1 := r.same s1 (fun x => x)
 have a1 := a.same s1 (fun _ _ x => x)
 have x1 : (h.newR l).nq = h.nq + 1 := rfl
 generalize hh1 : h.newR l = h1 at bx s1 ld1 b1 a1 x1
 have q1 : h1.rd b k = some v := by rw [b1.rd]; exact hk
 have s2 : Aad h1 (h1.new ⟨l, 1 * 6, 6, true, false⟩) (fun _ => False) := Aad.new
 have c2 : Abq (h1.new ⟨l, 1 * 6, 6, true, false⟩) h1.nq 0 6 1 1 l := Abq.fresh h1 l 1 6 true false (by omega)
 have x2 : (h1.new ⟨l, 1 * 6, 6, true, false⟩).nq = h1.nq + 1 := rfl
 have a2 := a1.same s2 (fun _ _ x => x)
 have b2 := b1.same s2 (fun x => x)
 have fl : Aew [.int .i64 0, .int .i64 0, .int .i64 0, .int .i64 0, .int .i64 0, .int .i64 0] [(0, 6, .agg l.toArray)] = some l := Ama rfl hl
 generalize hh2 : h1.new ⟨l, 1 * 6, 6, true, false⟩ = h2 at s2 c2 x2 a2 b2
 have q2 : h2.rd b k = some v := by rw [b2.rd]; exact hk
 obtain ⟨v', u', h3, e3, a3, s3, n3⟩ := a2.push w (by omega) (bytes := 48) (by omega) c2.src hl hs hn
 have b3 := b2.same s3 (fun e => hu e)
 have vs : Aas v' = true := by obtain ⟨base, cap, e⟩ := a3.val; rw [e]; exact Ab4 _ _ _
 have w4 := b3.wr k v' hkl vs
 have s4 : Aad h3 (h3.setR b (L.set k v')) (· = b) := Aad.setR rfl
 have b4 := Rcd.set (h := h3) (L.set k v') b3.lt
 have hb := r.lt
 have ul := a.lt
 have u'b : u' ≠ some b := fun e => by
  rcases n3 b e with e2 | e2
  ·exact hu e2
  ·omega
 have a4 := a3.same s4 (fun y hy e => u'b (by rw [hy, e]))
 generalize h3.setR b (L.set k v') = h4 at w4 s4 b4 a4
 have sF : Aad h h4 (fun j => j = b \/ u = some j) := (((s1.trans s2 (fun _ _ x => x)).mono (T := fun j => j = b \/ u = some j) (fun _ x => x.elim)).trans s3 (fun j _ e => .inr e)).trans s4 (fun j _ e => .inl e)
 obtain ⟨base, cap, hv⟩ := a.val
 let J : Nat -> Aac -> Prop := fun i k' => (i <= 1 -> k'.rd b k = some v) /\ (i <= 0 -> ldN k' 6 (pp h.nq) = some (.agg l.toArray))
 have j1 : J 1 h2 := ⟨fun _ => q2, fun h => by omega⟩
 have j0 : J 0 h1 := ⟨fun _ => q1, fun _ => ld1⟩
 have j2 : J 2 h3 := ⟨fun h => by omega, fun h => by omega⟩
 have j3 : J 3 h4 := ⟨fun h => by omega, fun h => by omega⟩
 have jr : ∀ j k', 0 <= j -> j <= 1 -> J j k' -> k'.rd b k = some v := fun j k' _ hj q => q.1 hj
 have vv : veq v v = true := by rw [hv]; exact Ag5 _ _ _
 have vl : veq (.agg l.toArray) (.agg l.toArray) = true := hvl
 have jn : ∀ j k', 0 <= j -> j <= 0 -> J j k' -> ldN k' 6 (pp h.nq) = some (.agg l.toArray) := fun j k' _ hj q => q.2 hj
 clear_value J
 simp only [SS, seval, af106, bx]
 refine Adz J Agy Abo j0 ?_
 simp only [SS, seval, Aiv, w_p, w_r, w_e, Afl, Awg, Ain, Afr, Ad3, q1, Abi, ld1, fl, hh2, e3, w4, vs, vv, vl]
 refine ⟨jr, jn, j1, j2, j3, ?_⟩
 rw [Aab h h4 sF.mq]
 exact ⟨⟨v', u', b4, vs, a4, fun y hy => (n3 y hy).imp_right (fun e => by omega)⟩, sF⟩
theorem Aou {h : Aac} {b k : Nat} {L : List Value} {v : Value} {Ls : List (List Value)} {l : List Value} {u : Option Nat} (r : Rcd h b L) (hk : L[k]? = some v) (a : Adh h v 6 (Ls ++ [l]) u) (w : Whole 6 (Ls ++ [l])) (hu : u ≠ some b) (hn : Ls.length < 1000000) : Aah P 131 [.pointer (some ⟨b, k, none⟩)] h fun v' h' => v' = .tuple #[.agg l.toArray, .bool true] /\ (∃ v', Rcd h' b (L.set k v') /\ Aas v' = true /\ Adh h' v' 6 Ls u) /\ Aad h h' (fun j => j = b \/ u = some j) := by
 refine Aaa hT HK.pop rfl ?_
 have hw := w l (by simp)
 have hkl : k < L.length := by
  rcases Nat.lt_or_ge k L.length with h | h
  ·exact h
  ·rw [List.getElem?_eq_none h] at hk; cases hk
 have ul := a.lt
 have hb := r.lt
 have s1 : Aad h (h.newR [.int .i64 0, .int .i64 0, .int .i64 0, .int .i64 0, .int .i64 0, .int .i64 0]) (fun _ => False) := Aad.newR
 have r1 := Rcd.new h [.int .i64 0, .int .i64 0, .int .i64 0, .int .i64 0, .int .i64 0, .int .i64 0]
 have b1 := r.same s1 (fun x => x)
 have a1 := a.same s1 (fun _ _ x => x)
 have x1 : (h.newR [.int .i64 0, .int .i64 0, .int .i64 0, .int .i64 0, .int .i64 0, .int .i64 0]).nq = h.nq + 1 := rfl
 generalize hh1 : h.newR [.int .i64 0, .int .i64 0, .int .i64 0, .int .i64 0, .int .i64 0, .int .i64 0] = h1 at s1 r1 b1 a1 x1
 obtain ⟨_, h2, F2, rfl, e2⟩ := Alu hT HK b1 hk a1 w hn
 have s2 : Aad h1 h2 (fun _ => False) := by rw [e2]; exact Aad.newR
 have x2 : h2.nq = h1.nq + 1 := by rw [e2]; rfl
 clear e2
 have r2 := r1.same s2 (fun x => x)
 have s3 : Aad h2 (h2.newR l) (fun _ => False) := Aad.newR
 have st3 := Acw h2 [.int .i64 0, .int .i64 0, .int .i64 0, .int .i64 0, .int .i64 0, .int .i64 0] l 6 rfl hw.1 (by omega) hw.2
 have r3 := r2.same s3 (fun x => x)
 have l3 := Rcd.new h2 l
 have x3 : (h2.newR l).nq = h2.nq + 1 := rfl
 generalize hh3 : h2.newR l = h3 at s3 st3 r3 l3 x3
 have s4 : Aad h3 (h3.newR [.int .i64 0, .int .i64 0, .int .i64 0, .int .i64 0, .int .i64 0, .int .i64 0]) (fun _ => False) := Aad.newR
 have ld4 := Afu h3 [.int .i64 0, .int .i64 0, .int .i64 0, .int .i64 0, .int .i64 0, .int .i64 0] 6 rfl
 have sA : Aad h (h3.newR [.int .i64 0, .int .i64 0, .int .i64 0, .int .i64 0, .int .i64 0, .int .i64 0]) (fun _ => False) := ((s1.trans s2 (fun _ _ x => x)).trans s3 (fun _ _ x => x)).trans s4 (fun _ _ x => x)
 have b4 := r.same sA (fun x => x)
 have a4 := a.same sA (fun _ _ x => x)
 have r4 := r3.same s4 (fun x => x)
 have l4 := l3.same s4 (fun x => x)
 generalize hh4 : h3.newR [.int .i64 0, .int .i64 0, .int .i64 0, .int .i64 0, .int .i64 0, .int .i64 0] = h4 at s4 ld4 sA b4 a4 r4 l4
 obtain ⟨x, cap, h5, hux, hv, e5, st5, sl5, a5, s5⟩ := a4.pop w (by omega) (z := [.int .i64 0, .int .i64 0, .int .i64 0, .int .i64 0, .int .i64 0, .int .i64 0]) rfl (by simp [Aas])
 have hxb : x ≠ b := fun e => hu (by rw [hux, e])
 have hxl := ul x hux
 have b5 := b4.same s5 (fun e => hxb e.symm)
 have q4 : h4.rd b k = some v := by rw [b4.rd]; exact hk
 have q5 : h5.rd b k = some v := by rw [b5.rd]; exact hk
 have w6 := b5.wr k (.slice (some ⟨x, 0, none⟩) Ls.length cap) hkl (Ab4 _ _ _)
 have s6 : Aad h5 (h5.setR b (L.set k (.slice (some ⟨x, 0, none⟩) Ls.length cap))) (· = b) := Aad.setR rfl
 have b6 := Rcd.set (h := h5) (L.set k (.slice (some ⟨x, 0, none⟩) Ls.length cap)) b5.lt
 generalize h5.setR b (L.set k (.slice (some ⟨x, 0, none⟩) Ls.length cap)) = h6 at w6 s6 b6
 have a6 := a5.same s6 (fun y hy e => by cases hy; exact hxb e)
 have l6 := (l4.same s5 (fun e => by omega)).same s6 (fun e => by omega)
 have r6 := (r4.same s5 (fun e => by omega)).same s6 (fun e => by omega)
 have ld6 : ldN h6 6 (pp h2.nq) = some (.agg l.toArray) := Af7 (l := l) (by
  rw [Ae8 l6.blk (by simp only [hw.1]; omega)]
  simp only [List.drop_zero]
  rw [List.take_of_length_le (by rw [hw.1]; omega)])
 obtain ⟨h7, w7, g7, s7, n7, f7⟩ := A5z (m := 6) (L' := l) r6.blk rfl hw.1 (by omega) hw.2
 have a7 := a6.same s7 (fun y hy e => by cases hy; omega)
 have b7 := b6.same s7 (fun e => by omega)
 have sF : Aad h h7 (fun j => j = b \/ u = some j) := (((sA.mono (T := fun j => j = b \/ u = some j) (fun _ x => x.elim)).trans s5 (fun j _ e => .inr (by rw [hux, e]))).trans s6 (fun j _ e => .inl e)).trans s7 (fun j hj e => by omega)
 have wl : Aan .i64 (((Ls.length + 1 : Nat) : Int) - 1) = (Ls.length : Int) := by rw [Aav] <;> omega
 have ci : ((Ls.length : Int) < ((Ls.length + 1 : Nat) : Int)) = True := by simp; omega
 rw [hux]
 subst hv
 simp only [SS, seval, af131, Aaw, hh1]
 refine ⟨_, _, F2, ?_⟩
 simp only [SS, seval, Aaw, Abn, st3, hh3, hh4, q4, wl]
 refine ⟨Agy, Abo, ?_⟩
 simp only [SS, seval, q4, Abi, ld4, ci, Abn, st5, q5, sl5, w6, ld6, w7, f7]
 rw [Aab h h7 sF.mq]
 rw [hux] at sF
 exact ⟨⟨_, b7, Ab4 _ _ _, a7⟩, sF.mono (fun j e => e.imp_right (fun e => by cases e; rfl))⟩
end
structure Air (tab : Nat -> Option Aae) : Prop where
 mchild : tab 99 = some af99
 mcame : tab 97 = some af97
 mmeet : tab 101 = some af101
 mstep : tab 66 = some af66
theorem A79 : Air tabT.get := ⟨by kernel_rfl, by kernel_rfl, by kernel_rfl, by kernel_rfl⟩
structure Lev where
 n : Nat
 d : Nat
 i : Nat
 s : Nat
def Lev.L (l : Lev) : List Value := [I l.n, I l.d, I l.i, I l.s]
def Lev.ok (l : Lev) : Prop := l.n < 100000 /\ l.d < 100000 /\ l.i < 100000 /\ l.s < 100000
theorem Ahj (Ls : List Lev) : Whole 4 (Ls.map Lev.L) := by
 intro x hx
 obtain ⟨l, _, rfl⟩ := List.mem_map.1 hx
 exact ⟨rfl, rfl⟩
theorem Ayo (l : Lev) : veq (.agg l.L.toArray) (.agg l.L.toArray) = true := by simp [Lev.L, veq, Atr, Aw7]
structure Afi (h : Aac) (b : Nat) (nx n at' sm : Int) (rdv lv : Value) (Ls : List Lev) (u : Option Nat) : Prop where
 rc : Rcd h b [I nx, I n, rdv, I at', lv, I sm]
 st : Adh h lv 4 (Ls.map Lev.L) u
 ub : u ≠ some b
 sc : Aas rdv = true
theorem Afi.same {h h' : Aac} {b : Nat} {nx n at' sm : Int} {rdv lv : Value} {Ls : List Lev} {u : Option Nat} {S : Nat -> Prop} (a : Afi h b nx n at' sm rdv lv Ls u) (m : Aad h h' S) (hS : ∀ j, cl b u j -> ¬ S j) : Afi h' b nx n at' sm rdv lv Ls u :=
 ⟨a.rc.same m (hS b (.inl rfl)), a.st.same m (fun x hx => hS x (.inr hx)), a.ub, a.sc⟩
theorem Afi.lt {h : Aac} {b : Nat} {nx n at' sm : Int} {rdv lv : Value} {Ls : List Lev} {u : Option Nat} (a : Afi h b nx n at' sm rdv lv Ls u) : ∀ j, cl b u j -> j < h.nq := fun j hj => hj.elim (fun e => by rw [e]; exact a.rc.lt) (fun e => a.st.lt j e)
def Aoa (h0 h : Aac) (b : Nat) (n at' sm : Int) (Ls : List Lev) (l : Lev) (u : Option Nat) : Prop :=
 ∃ rdv lv, (l.d <= l.i /\ Afi h b 5 n at' sm rdv lv (Ls ++ [l]) u) \/ (l.i < l.d /\ Afi h b 3 n at' sm rdv lv (Ls ++ [l]) u /\ ∃ rp : Nat, rdv = (pp rp) /\ h0.nq <= rp /\ rp ≠ b /\ u ≠ some rp /\ Rcd h rp (Amb (l.n + 4 + l.d + l.i : Nat) (.pointer none) 0 false))
section
variable (hT : Aa0 P tab) (HS : Afx tab) (HK : Ah3 tab) (HMk : Air tab) (V : Aea tab)
include hT HS HK HMk V
theorem Aj3 {h : Aac} {b : Nat} {nx n at' sm : Int} {rdv lv : Value} {Ls : List Lev} {l : Lev} {u : Option Nat} (a : Afi h b nx n at' sm rdv lv (Ls ++ [l]) u) (ok : l.ok) (hn : Ls.length < 100000) :
  Aah P 99 [(pp b)] h fun v h' => Aoa h h' b n at' sm Ls l u /\ Aad h h' (· = b) := by
 refine Aaa hT HMk.mchild rfl ?_
 obtain ⟨q1, q2, q3, q4⟩ := ok
 have hst := a.st
 rw [List.map_append, List.map_singleton] at hst
 have hw := Ahj (Ls ++ [l])
 rw [List.map_append, List.map_singleton] at hw
 obtain ⟨_, h1, F1, rfl, e1⟩ := Ao6 hT HK a.rc (k := 4) rfl hst hw (by rw [List.length_map]; omega)
 have s1 : Aad h h1 (fun _ => False) := by rw [e1]; exact Aad.newR
 have x1 : h1.nq = h.nq + 1 := by rw [e1]; rfl
 clear e1
 have hbl := a.rc.lt
 have a1 := a.same s1 (fun _ _ x => x)
 have st2 := Acw h1 [.int .i64 0, .int .i64 0, .int .i64 0, .int .i64 0] l.L 4 rfl rfl (by omega) rfl
 have s2 : Aad h1 (h1.newR l.L) (fun _ => False) := Aad.newR
 have r2 := Rcd.new h1 l.L
 have x2 : (h1.newR l.L).nq = h1.nq + 1 := rfl
 have a2 := a1.same s2 (fun _ _ x => x)
 generalize h1.newR l.L = h2 at st2 s2 r2 x2 a2
 have p0 : h2.rd h1.nq 0 = some (I l.n) := by rw [r2.rd]; rfl
 have p1 : h2.rd h1.nq 1 = some (I l.d) := by rw [r2.rd]; rfl
 have p2 : h2.rd h1.nq 2 = some (I l.i) := by rw [r2.rd]; rfl
 have s02 : Aad h h2 (fun _ => False) := s1.trans s2 (fun _ _ x => x)
 have sl : Aas lv = true := by obtain ⟨base, cap, e⟩ := a.st.val; rw [e]; exact Ab4 _ _ _
 by_cases hi : l.d <= l.i
 ·have c1 : ((l.i : Int) >= l.d) = True := by simp; omega
  have w3 := a2.rc.wr 0 (I 5) (by simp) (Aat _ _)
  have s3 : Aad h2 (h2.setR b ([I nx, I n, rdv, I at', lv, I sm].set 0 (I 5))) (· = b) := Aad.setR rfl
  have sF : Aad h (h2.setR b ([I nx, I n, rdv, I at', lv, I sm].set 0 (I 5))) (· = b) := (s02.mono (fun _ x => x.elim)).trans s3 (fun _ _ x => x)
  have a3 : Afi (h2.setR b ([I nx, I n, rdv, I at', lv, I sm].set 0 (I 5))) b 5 n at' sm rdv lv (Ls ++ [l]) u := ⟨Rcd.set _ a2.rc.lt, a2.st.same s3 (fun y hy e => a.ub (by rw [hy, e])), a.ub, a.sc⟩
  generalize h2.setR b ([I nx, I n, rdv, I at', lv, I sm].set 0 (I 5)) = h3 at w3 s3 sF a3
  simp only [SS, seval, af99]
  refine ⟨_, _, F1, ?_⟩
  simp only [SS, seval, Aaw, Acq, st2, p0, p1, p2, c1, w3]
  rw [Aab h h3 sF.mq]
  exact ⟨⟨rdv, lv, .inl ⟨hi, a3⟩⟩, sF⟩
 ·have c1 : ((l.i : Int) >= l.d) = False := by simp; omega
  obtain ⟨_, h3, F3, rfl, s3⟩ := Ada hT V h2 l.n l.d l.i (by omega) (by omega) (by omega)
  have x3 := s3.nq
  obtain ⟨_, h4, F4, rfl, e4⟩ := Av1 hT HS h3 (l.n + 4 + l.d + l.i : Nat)
  have s4 : Aad h3 h4 (fun _ => False) := by rw [e4]; exact Aad.newR
  have x4 : h4.nq = h3.nq + 1 := by rw [e4]; rfl
  have rr : Rcd h4 h3.nq (Amb (l.n + 4 + l.d + l.i : Nat) (.pointer none) 0 false) := by rw [e4]; exact Rcd.new _ _
  clear e4
  have a4 := (a2.same s3 (fun _ _ x => x)).same s4 (fun _ _ x => x)
  have hul := a.st.lt
  have w5 := a4.rc.wr 0 (I 3) (by simp) (Aat _ _)
  have w6 := Abp h4 b ([I nx, I n, rdv, I at', lv, I sm].set 0 (I 3)) 2 (pp h3.nq) (by simp) (Acs _)
  have s6 : Aad h4 (h4.setR b [I 3, I n, (pp h3.nq), I at', lv, I sm]) (· = b) := Aad.setR rfl
  have sF : Aad h (h4.setR b [I 3, I n, (pp h3.nq), I at', lv, I sm]) (· = b) := (((s02.trans s3 (fun _ _ x => x)).trans s4 (fun _ _ x => x)).mono (fun _ x => x.elim)).trans s6 (fun _ _ x => x)
  have a6 : Afi (h4.setR b [I 3, I n, (pp h3.nq), I at', lv, I sm]) b 3 n at' sm (pp h3.nq) lv (Ls ++ [l]) u := ⟨Rcd.set _ a4.rc.lt, a4.st.same s6 (fun y hy e => a.ub (by rw [hy, e])), a.ub, Acs _⟩
  have rr6 := rr.same s6 (fun e => by omega)
  have w6' : (h4.setR b [I 3, I n, rdv, I at', lv, I sm]).wrs b 2 [(pp h3.nq)] = some (h4.setR b [I 3, I n, (pp h3.nq), I at', lv, I sm]) := w6
  have w5' : h4.wrs b 0 [I 3] = some (h4.setR b [I 3, I n, rdv, I at', lv, I sm]) := w5
  generalize h4.setR b [I 3, I n, (pp h3.nq), I at', lv, I sm] = h6 at w6' s6 sF a6 rr6
  simp only [SS, seval, af99]
  refine ⟨_, _, F1, ?_⟩
  simp only [SS, seval, Aaw, Acq, st2, p0, p1, p2, c1]
  refine ⟨_, _, F3, ?_⟩
  simp only [SS, seval]
  refine ⟨_, _, F4, ?_⟩
  simp only [SS, seval, w5', w6']
  rw [Aab h h6 sF.mq]
  exact ⟨⟨_, lv, .inr ⟨by omega, a6, h3.nq, rfl, by omega, by omega, fun e => by have := hul _ e; omega, rr6⟩⟩, sF⟩
end
def Lev.more (l : Lev) (x : Nat) : Lev := ⟨l.n, l.d, l.i + 1, l.s + x⟩
section
variable (hT : Aa0 P tab) (HS : Afx tab) (HK : Ah3 tab) (HMk : Air tab) (V : Aea tab)
include hT HS HK HMk V
omit HS V in
theorem Aug {h : Aac} {b : Nat} {nx n at' sm : Int} {rdv lv : Value} {u : Option Nat} (a : Afi h b nx n at' sm rdv lv [] u) (x : Nat) :
  Aah P 97 [(pp b), I x] h fun v h' => Afi h' b 6 n at' x rdv lv [] u /\ Aad h h' (· = b) := by
 refine Aaa hT HMk.mcame rfl ?_
 obtain ⟨_, h1, F1, rfl, s1⟩ := A01 hT HK a.rc (k := 4) rfl a.st
 have a1 := a.same s1 (fun _ _ x => x)
 have st2 := Acw h1 [.int .i64 0, .int .i64 0, .int .i64 0, .int .i64 0] A42 4 rfl rfl (by omega) rfl
 have s2 : Aad h1 (h1.newR A42) (fun _ => False) := Aad.newR
 have a2 := a1.same s2 (fun _ _ x => x)
 generalize h1.newR A42 = h2 at st2 s2 a2
 have w3 : h2.wrs b 0 [I 6] = some (h2.setR b [I 6, I n, rdv, I at', lv, I sm]) := a2.rc.wr 0 (I 6) (by simp) (Aat _ _)
 have w4 : (h2.setR b [I 6, I n, rdv, I at', lv, I sm]).wrs b 5 [I x] = some (h2.setR b [I 6, I n, rdv, I at', lv, I x]) := Abp h2 b [I 6, I n, rdv, I at', lv, I sm] 5 (I x) (by simp) (Aat _ _)
 have s3 : Aad h2 (h2.setR b [I 6, I n, rdv, I at', lv, I x]) (· = b) := Aad.setR rfl
 have a3 : Afi (h2.setR b [I 6, I n, rdv, I at', lv, I x]) b 6 n at' x rdv lv [] u := ⟨Rcd.set _ a2.rc.lt, a2.st.same s3 (fun y hy e => a.ub (by rw [hy, e])), a.ub, a.sc⟩
 have sF : Aad h (h2.setR b [I 6, I n, rdv, I at', lv, I x]) (· = b) := ((s1.trans s2 (fun _ _ x => x)).mono (fun _ x => x.elim)).trans s3 (fun _ _ x => x)
 simp only [SS, seval, af97]
 refine ⟨_, _, F1, ?_⟩
 simp only [SS, seval, Aaw, Acq, st2, w3, w4]
 rw [Aab h _ sF.mq]
 exact ⟨a3, sF⟩
theorem Akw {h : Aac} {b : Nat} {nx n at' sm : Int} {rdv lv : Value} {Ls : List Lev} {l : Lev} {u : Option Nat} (a : Afi h b nx n at' sm rdv lv (Ls ++ [l]) u) (ok : l.ok) (hn : Ls.length < 90000) (x : Nat) (hx : l.s + x < 100000) (hi : l.i + 1 < 100000) :
  Aah P 97 [(pp b), I x] h fun v h' => (∃ u', Aoa h h' b n at' sm Ls (l.more x) u' /\ ∀ y, u' = some y -> u = some y \/ h.nq <= y) /\ Aad h h' (cl b u) := by
 refine Aaa hT HMk.mcame rfl ?_
 obtain ⟨q1, q2, q3, q4⟩ := ok
 have hst := a.st
 rw [List.map_append, List.map_singleton] at hst
 have hw := Ahj (Ls ++ [l])
 rw [List.map_append, List.map_singleton] at hw
 obtain ⟨_, h1, F1, rfl, ⟨v1, rc1, sc1, sk1⟩, s1⟩ := Apz hT HK a.rc (k := 4) rfl hst hw a.ub (by rw [List.length_map]; omega)
 have x1 := s1.nq
 have hbl := a.rc.lt
 have e1 : ([I nx, I n, rdv, I at', lv, I sm] : List Value).set 4 v1 = [I nx, I n, rdv, I at', v1, I sm] := rfl
 rw [e1] at rc1
 have a1 : Afi h1 b nx n at' sm rdv v1 Ls u := ⟨rc1, sk1, a.ub, a.sc⟩
 have st2 : Aop (h1.newR [.int .i64 0, .int .i64 0, .int .i64 0, .int .i64 0]) 4 (pp h1.nq) (.agg l.L.toArray) = some (undef, h1.newR [I l.n, I l.d, I l.i, I l.s]) := Acw h1 _ l.L 4 rfl rfl (by omega) rfl
 have p3 : (h1.newR [I l.n, I l.d, I l.i, I l.s]).rd h1.nq 3 = some (I l.s) := Ax3 _ _ _
 have wa : Aan .i64 ((l.s : Int) + x) = ((l.s + x : Nat) : Int) := by rw [Aav] <;> omega
 have w3 : (h1.newR [I l.n, I l.d, I l.i, I l.s]).wrs h1.nq 3 [I (l.s + x : Nat)] = some (h1.newR [I l.n, I l.d, I l.i, I (l.s + x : Nat)]) := Axu _ _ _ _ (by simp) (Aat _ _)
 have p2 : (h1.newR [I l.n, I l.d, I l.i, I (l.s + x : Nat)]).rd h1.nq 2 = some (I l.i) := Ax3 _ _ _
 have wi : Aan .i64 ((l.i : Int) + 1) = ((l.i + 1 : Nat) : Int) := by rw [Aav] <;> omega
 have w4 : (h1.newR [I l.n, I l.d, I l.i, I (l.s + x : Nat)]).wrs h1.nq 2 [I (l.i + 1 : Nat)] = some (h1.newR (l.more x).L) := Axu _ _ _ _ (by simp) (Aat _ _)
 have ld5 := Afu h1 (l.more x).L 4 rfl
 have s5 : Aad h1 (h1.newR (l.more x).L) (fun _ => False) := Aad.newR
 have x5 : (h1.newR (l.more x).L).nq = h1.nq + 1 := rfl
 have a5 := a1.same s5 (fun _ _ x => x)
 generalize h1.newR (l.more x).L = h5 at w4 ld5 s5 x5 a5
 obtain ⟨v6, h6, F6, ⟨lv6, u6, rc6, sc6, st6, n6⟩, s6⟩ := Amu hT HK a5.rc (k := 4) rfl a5.st (Ahj Ls) a5.ub (l := (l.more x).L) rfl rfl (Ayo _) (by rw [List.length_map]; omega)
 have e6 : ([I nx, I n, rdv, I at', v1, I sm] : List Value).set 4 lv6 = [I nx, I n, rdv, I at', lv6, I sm] := rfl
 rw [e6] at rc6
 have x6 := s6.nq
 have ub6 : u6 ≠ some b := fun e => by
  rcases n6 b e with e2 | e2
  ·exact a.ub e2
  ·omega
 have a6 : Afi h6 b nx n at' sm rdv lv6 (Ls ++ [l.more x]) u6 := ⟨rc6, by rw [List.map_append, List.map_singleton]; exact st6, ub6, a.sc⟩
 obtain ⟨v7, h7, F7, q7, s7⟩ := Aj3 hT HS HK HMk V a6 ⟨q1, q2, hi, hx⟩ (by omega)
 have sF : Aad h h7 (cl b u) := (((s1.mono (T := cl b u) (fun j e => e)).trans s5 (fun _ _ x => x.elim)).trans s6 (fun j _ e => e)).trans s7 (fun j _ e => .inl e)
 have q7' : Aoa h h7 b n at' sm Ls (l.more x) u6 := by
  obtain ⟨rdv, lv, c | ⟨c1, c2, rp, c3, c4, c5⟩⟩ := q7
  ·exact ⟨rdv, lv, .inl c⟩
  ·exact ⟨rdv, lv, .inr ⟨c1, c2, rp, c3, by omega, c5⟩⟩
 obtain ⟨CF, hcf, g6⟩ : ∃ CF : Aa7, Ajg P CF /\ CF (.fn 98) [.pointer (some ⟨b, 4, none⟩), .agg (l.more x).L.toArray] h5 = some (v6, h6) := ⟨Ad9 98 _ h5 _ h6 Agy, Aba F6 Abo, Abd⟩
 simp only [SS, seval, af97]
 refine ⟨_, _, F1, ?_⟩
 simp only [SS, seval, Aaw, Acq, st2, p3, wa, w3, p2, wi, w4]
 refine ⟨CF, hcf, ?_⟩
 simp only [SS, seval, Abi, ld5, g6]
 refine ⟨_, _, F7, ?_⟩
 simp only [SS, seval]
 rw [Aab h h7 sF.mq]
 exact ⟨⟨u6, q7', fun y hy => (n6 y hy).imp_right (fun e => by omega)⟩, sF⟩
end
section
variable (hT : Aa0 P tab) (V9 : Acg tab)
include hT V9
theorem Agu {h : Aac} {b : Nat} {u : Option Nat} {m : PM} (mm : Aa8 h b u m) (f : m.fine) (a w : Int) (ha : -1000000000000000 <= a /\ a <= 1000000000000000) :
  Aah P 12 [(pp b), I a, I w] h fun v h' => Aa8 h' b u (m.write a w) /\ Aad h h' (cl b u) := by
 refine Aaa hT V9.v43 rfl ?_
 obtain ⟨v1, h1, F1, hv, m1, s1⟩ := Ahr hT V9 mm f a ha
 rcases hv with ⟨hy, x, rfl, rfl⟩ | ⟨hn, rfl⟩
 ·obtain ⟨h2, w2, m2, s2⟩ := m1.put (a := a) hy w
  rw [PM.tick_put] at m2
  have sF : Aad h h2 (cl b (some x)) := (s1.mono (fun j e => .inl e)).trans s2 (fun j hj e => .inr (by rw [e]))
  simp only [SV, SS, seval, af12]
  refine ⟨_, _, F1, ?_⟩
  simp only [SV, SS, seval, w2]
  rw [Aab h h2 sF.mq]
  exact ⟨m2, sF⟩
 ·simp only [SV, SS, seval, af12]
  refine ⟨_, _, F1, ?_⟩
  simp only [SV, SS, seval]
  rw [Aab h h1 s1.mq]
  have : m.write a w = m.tick a := by simp [PM.write, PM.put, hn]
  rw [this]
  exact ⟨m1, s1.mono (fun j e => .inl e)⟩
end
theorem Aa8.sameB {h h' : Aac} {b bm : Nat} {u um : Option Nat} {m : PM} (mm : Aa8 h bm um m) (s : Aad h h' (cl b u)) (d : ∀ j, cl b u j -> ¬ cl bm um j) : Aa8 h' bm um m := mm.same s (fun j hj e => d j e hj)
section
variable (hT : Aa0 P tab) (HS : Afx tab) (HK : Ah3 tab) (HMk : Air tab) (V : Aea tab)
include hT HS HK HMk V
theorem Asj (H : Has tab) {h : Aac} {b : Nat} {nx n at' sm : Int} {rdv lv : Value} {Ls : List Lev} {l : Lev} {u : Option Nat} (a : Afi h b nx n at' sm rdv lv (Ls ++ [l]) u) (ok : l.ok) (hn : Ls.length < 90000) (hi : l.i + 1 < 100000) (hs : l.s + 1 < 100000) {ad k : Nat} (a1 : 1 <= ad) (a2 : ad <= 65536) (hk : k = 1 \/ k = 2) :
  Aah P 101 [(pp b), I ((ad : Int) * 8 + k)] h fun v h' => (∃ u', Aoa h h' b n at' sm Ls (l.more (k - 1)) u' /\ ∀ y, u' = some y -> u = some y \/ h.nq <= y) /\ Aad h h' (cl b u) := by
 refine Aaa hT HMk.mmeet rfl ?_
 obtain ⟨_, _, F1, rfl, e1⟩ := Abt hT V H h ad k a1 a2 (by omega) (by omega)
 rw [e1] at F1
 obtain ⟨v2, h2, F2, q2, s2⟩ := Akw hT HS HK HMk V a ok hn (k - 1) (by omega) hi
 rcases hk with rfl | rfl
 ·have k2 : (((1 : Nat) : Int) == 2) = false := rfl
  simp only [SS, seval, af101]
  refine ⟨_, _, F1, ?_⟩
  simp only [SS, seval, k2]
  refine ⟨_, _, F2, ?_⟩
  simp only [SS, seval]
  rw [Aab h h2 s2.mq]
  exact ⟨q2, s2⟩
 ·have k2 : (((2 : Nat) : Int) == 2) = true := rfl
  simp only [SS, seval, af101]
  refine ⟨_, _, F1, ?_⟩
  simp only [SS, seval, k2]
  refine ⟨_, _, F2, ?_⟩
  simp only [SS, seval]
  rw [Aab h h2 s2.mq]
  exact ⟨q2, s2⟩
omit HK in
theorem Aqd (H : Has tab) {h : Aac} {b : Nat} {nx n at' sm : Int} {rdv lv : Value} {Ls : List Lev} {u : Option Nat} (a : Afi h b nx n at' sm rdv lv Ls u) {ad : Nat} (a1 : 1 <= ad) (a2 : ad <= 65536) :
  Aah P 101 [(pp b), I ((ad : Int) * 8 + 3)] h fun v h' => Afi h' b 0 ad at' sm rdv lv Ls u /\ Aad h h' (· = b) := by
 refine Aaa hT HMk.mmeet rfl ?_
 obtain ⟨_, _, F1, rfl, e1⟩ := Abt hT V H h ad 3 a1 a2 (by omega) (by omega)
 rw [e1] at F1
 have F1' : Aa3 P 9 [I ((ad : Int) * 8 + 3)] h (I 3) h := F1
 obtain ⟨_, _, F2, rfl, e2⟩ := Ab0 hT V H h ad 3 a1 a2 (by omega) (by omega)
 rw [e2] at F2
 have F2' : Aa3 P 26 [I ((ad : Int) * 8 + 3)] h (I ad) h := F2
 obtain ⟨v3, h3, F3, e3⟩ := Ash hT HS a.rc (ad : Int)
 have s3 : Aad h h3 (· = b) := by rw [e3]; exact Aad.setR rfl
 have a3 : Afi h3 b 0 ad at' sm rdv lv Ls u := by rw [e3]; exact ⟨Rcd.set _ a.rc.lt, a.st.same (Aad.setR (S := (· = b)) rfl) (fun y hy e => a.ub (by rw [hy, e])), a.ub, a.sc⟩
 clear e3
 simp only [SS, seval, af101]
 refine ⟨_, _, F1', ?_⟩
 simp only [SS, seval]
 refine ⟨_, _, F2', ?_⟩
 simp only [SS, seval]
 refine ⟨_, _, F3, ?_⟩
 simp only [SS, seval]
 rw [Aab h h3 s3.mq]
 exact ⟨a3, s3⟩
theorem Aoa.nx {h0 h : Aac} {b : Nat} {n at' sm : Int} {Ls : List Lev} {l : Lev} {u : Option Nat} (q : Aoa h0 h b n at' sm Ls l u) : ∃ nx rdv lv, (nx = 3 \/ nx = 5) /\ Afi h b nx n at' sm rdv lv (Ls ++ [l]) u := by
 obtain ⟨rdv, lv, ⟨_, a⟩ | ⟨_, a, _⟩⟩ := q
 ·exact ⟨_, _, _, .inr rfl, a⟩
 ·exact ⟨_, _, _, .inl rfl, a⟩
variable (H : Has tab) (V9 : Acg tab) (HM : Agf tab)
include H V9 HM
theorem A36 {h : Aac} {b bm : Nat} {at' sm : Int} {n : Nat} {rdv lv : Value} {Ls : List Lev} {u um : Option Nat} {m : PM} (a : Afi h b 0 n at' sm rdv lv Ls u) (mm : Aa8 h bm um m) (f : m.fine) (d : ∀ j, cl b u j -> ¬ cl bm um j) (hn : n <= 65536) (h0 : m.get ((n : Int) + 4) = 0) :
  Aah P 66 [(pp b), (pp bm)] h fun v h' => v = .bool false /\ Afi h' b 1 n at' sm rdv lv Ls u /\ Aa8 h' bm um (m.tick ((n : Int) + 4)) /\ Aad h h' (fun j => cl b u j \/ cl bm um j) := by
 refine Aaa hT HMk.mstep rfl ?_
 have w4 : Aan .i64 ((n : Int) + 4) = (n : Int) + 4 := by rw [Aav] <;> omega
 have q0 := a.rc.rd
 have w1 : h.wrs b 0 [I 1] = some (h.setR b [I 1, I n, rdv, I at', lv, I sm]) := a.rc.wr 0 (I 1) (by simp) (Aat _ _)
 have s1 : Aad h (h.setR b [I 1, I n, rdv, I at', lv, I sm]) (· = b) := Aad.setR rfl
 have a1 : Afi (h.setR b [I 1, I n, rdv, I at', lv, I sm]) b 1 n at' sm rdv lv Ls u := ⟨Rcd.set _ a.rc.lt, a.st.same s1 (fun y hy e => a.ub (by rw [hy, e])), a.ub, a.sc⟩
 generalize h.setR b [I 1, I n, rdv, I at', lv, I sm] = h1 at w1 s1 a1
 have m1 := mm.same s1 (fun j hj e => d j (.inl e) hj)
 obtain ⟨_, h2, F2, rfl, m2, s2⟩ := Abm hT V9 HM m1 f ((n : Int) + 4) (by omega)
 have F2' : Aa3 P 64 [(pp bm), I ((n : Int) + 4)] h1 (I 0) h2 := by rw [<- h0]; exact F2
 have a2 := a1.same s2 (fun j hj e => d j hj (.inl e))
 have sF : Aad h h2 (fun j => cl b u j \/ cl bm um j) := (s1.mono (fun j e => .inl (.inl e))).trans s2 (fun j _ e => .inr (.inl e))
 obtain ⟨_, _, F3, e30, e3⟩ := Af4 hT HS a2.rc
 rw [e3, e30] at F3
 have F3' : Aa3 P 105 [(pp b)] h2 (.bool false) h2 := F3
 have q1 := a1.rc.rd
 simp only [SS, seval, af66, q0, w1, q1, w4]
 refine ⟨_, _, F2', ?_⟩
 simp only [SS, seval]
 refine ⟨_, _, F3', ?_⟩
 simp only [SS, seval]
 rw [Aab h h2 sF.mq]
 exact ⟨a2, m2, sF⟩
theorem A4a {h : Aac} {b bm : Nat} {at' sm : Int} {n : Nat} {rdv lv : Value} {Ls : List Lev} {u um : Option Nat} {m : PM} (a : Afi h b 1 n at' sm rdv lv Ls u) (mm : Aa8 h bm um m) (f : m.fine) (d : ∀ j, cl b u j -> ¬ cl bm um j) (hn : n <= 65536) :
  Aah P 66 [(pp b), (pp bm)] h fun v h' => v = .bool false /\ Afi h' b 2 n at' sm rdv lv Ls u /\ Aa8 h' bm um (m.write ((n : Int) + 2) 1) /\ Aad h h' (fun j => cl b u j \/ cl bm um j) := by
 refine Aaa hT HMk.mstep rfl ?_
 have w2 : Aan .i64 ((n : Int) + 2) = (n : Int) + 2 := by rw [Aav] <;> omega
 have q0 := a.rc.rd
 obtain ⟨v1, h1, F1, m1, s1⟩ := Agu hT V9 mm f ((n : Int) + 2) 1 (by omega)
 have a1 := a.same s1 (fun j hj => d j hj)
 have w1 : h1.wrs b 0 [I 2] = some (h1.setR b [I 2, I n, rdv, I at', lv, I sm]) := a1.rc.wr 0 (I 2) (by simp) (Aat _ _)
 have s2 : Aad h1 (h1.setR b [I 2, I n, rdv, I at', lv, I sm]) (· = b) := Aad.setR rfl
 have a2 : Afi (h1.setR b [I 2, I n, rdv, I at', lv, I sm]) b 2 n at' sm rdv lv Ls u := ⟨Rcd.set _ a1.rc.lt, a1.st.same s2 (fun y hy e => a.ub (by rw [hy, e])), a.ub, a.sc⟩
 generalize h1.setR b [I 2, I n, rdv, I at', lv, I sm] = h2 at w1 s2 a2
 have m2 := m1.same s2 (fun j hj e => d j (.inl e) hj)
 have sF : Aad h h2 (fun j => cl b u j \/ cl bm um j) := (s1.mono (fun j e => .inr e)).trans s2 (fun j _ e => .inl (.inl e))
 obtain ⟨_, _, F3, e30, e3⟩ := Af4 hT HS a2.rc
 rw [e3, e30] at F3
 have F3' : Aa3 P 105 [(pp b)] h2 (.bool false) h2 := F3
 simp only [SS, seval, af66, q0, w2]
 refine ⟨_, _, F1, ?_⟩
 simp only [SS, seval, w1]
 refine ⟨_, _, F3', ?_⟩
 simp only [SS, seval]
 rw [Aab h h2 sF.mq]
 exact ⟨a2, m2, sF⟩
end
section
variable (hT : Aa0 P tab) (HS : Afx tab) (HK : Ah3 tab) (HMk : Air tab) (V : Aea tab) (H : Has tab) (V9 : Acg tab) (HM : Agf tab)
include hT HS HK HMk V H V9 HM
omit HK HMk V H V9 HM in
theorem Aoa.notDone {h0 h : Aac} {b : Nat} {n at' sm : Int} {Ls : List Lev} {l : Lev} {u : Option Nat} (q : Aoa h0 h b n at' sm Ls l u) : Aa3 P 105 [(pp b)] h (.bool false) h := by
 obtain ⟨nx, rdv, lv, hx, a⟩ : ∃ nx rdv lv, (nx = 3 \/ nx = 5) /\ Afi h b nx n at' sm rdv lv (Ls ++ [l]) u := by
  obtain ⟨rdv, lv, ⟨_, a⟩ | ⟨_, a, _⟩⟩ := q
  ·exact ⟨_, _, _, .inr rfl, a⟩
  ·exact ⟨_, _, _, .inl rfl, a⟩
 obtain ⟨_, _, F, e0, e⟩ := Af4 hT HS a.rc
 rw [e, e0] at F
 rcases hx with rfl | rfl <;> exact F
theorem A3s {h : Aac} {b bm : Nat} {at' sm : Int} {n dg : Nat} {rdv lv : Value} {Ls : List Lev} {u um : Option Nat} {m : PM} (a : Afi h b 2 n at' sm rdv lv Ls u) (mm : Aa8 h bm um m) (f : m.fine) (d : ∀ j, cl b u j -> ¬ cl bm um j) (hn : n <= 65536) (hd : m.get (n : Int) = dg) (hdg : dg < 90000) (hLs : Ls.length < 90000) :
  Aah P 66 [(pp b), (pp bm)] h fun v h' => v = .bool false /\ (∃ u', Aoa h h' b n at' sm Ls ⟨n, dg, 0, 0⟩ u' /\ (∀ y, u' = some y -> u = some y \/ h.nq <= y)) /\ Aa8 h' bm um (m.tick (n : Int)) /\ Aad h h' (fun j => cl b u j \/ cl bm um j) := by
 refine Aaa hT HMk.mstep rfl ?_
 have w0 : Aan .i64 ((n : Int) + 0) = (n : Int) := by rw [Aav] <;> omega
 have hbl := a.rc.lt
 have hul := a.st.lt
 obtain ⟨_, h1, F1, rfl, m1, s1⟩ := Abm hT V9 HM mm f (n : Int) (by omega)
 have F1' : Aa3 P 64 [(pp bm), I (n : Int)] h (I dg) h1 := by rw [<- hd]; exact F1
 have x1 := s1.nq
 have a1 := a.same s1 (fun j hj e => d j hj (.inl e))
 obtain ⟨v2, h2, F2, ⟨lv2, u2, rc2, sc2, st2, n2⟩, s2⟩ := Amu hT HK a1.rc (k := 4) rfl a1.st (Ahj Ls) a1.ub (l := Lev.L ⟨n, dg, 0, 0⟩) rfl rfl (Ayo _) (by rw [List.length_map]; omega)
 have e2 : ([I 2, I n, rdv, I at', lv, I sm] : List Value).set 4 lv2 = [I 2, I n, rdv, I at', lv2, I sm] := rfl
 rw [e2] at rc2
 have x2 := s2.nq
 have ub2 : u2 ≠ some b := fun e => by
  rcases n2 b e with e2 | e2
  ·exact a.ub e2
  ·omega
 have a2 : Afi h2 b 2 n at' sm rdv lv2 (Ls ++ [⟨n, dg, 0, 0⟩]) u2 := ⟨rc2, by rw [List.map_append, List.map_singleton]; exact st2, ub2, a.sc⟩
 have m2 := Aa8.sameB (m := m.tick (n : Int)) m1 s2 d
 have d2 : ∀ j, cl b u2 j -> ¬ cl bm um j := fun j hj e => by
  rcases hj with hj | hj
  ·exact d j (.inl hj) e
  ·rcases n2 j hj with e2 | e2
   ·exact d j (.inr e2) e
   ·have := mm.lt j e; omega
 obtain ⟨v3, h3, F3, q3, s3⟩ := Aj3 hT HS HK HMk V a2 ⟨by show n < _; omega, by show dg < _; omega, by show 0 < _; omega, by show 0 < _; omega⟩ (by omega)
 have m3 := m2.same s3 (fun j hj e => d j (.inl e) hj)
 have sF : Aad h h3 (fun j => cl b u j \/ cl bm um j) := ((s1.mono (T := fun j => cl b u j \/ cl bm um j) (fun j e => .inr (.inl e))).trans s2 (fun j _ e => .inl e)).trans s3 (fun j _ e => .inl (.inl e))
 have q3' : Aoa h h3 b n at' sm Ls ⟨n, dg, 0, 0⟩ u2 := by
  obtain ⟨rdv, lv, c | ⟨c1, c2, rp, c3, c4, c5⟩⟩ := q3
  ·exact ⟨rdv, lv, .inl c⟩
  ·exact ⟨rdv, lv, .inr ⟨c1, c2, rp, c3, by omega, c5⟩⟩
 have F4 := Aoa.notDone hT HS q3
 have q0 := a.rc.rd
 have q1 := a1.rc.rd
 have F2' : Aa3 P 98 [.pointer (some ⟨b, 4, none⟩), .agg (List.toArray [I n, I dg, .int .i64 0, .int .i64 0])] h1 v2 h2 := F2
 obtain ⟨CF, hcf, g1, g2⟩ : ∃ CF : Aa7, Ajg P CF /\ CF (.fn 64) [(pp bm), I (n : Int)] h = some (I dg, h1) /\ CF (.fn 98) [.pointer (some ⟨b, 4, none⟩), .agg (List.toArray [I n, I dg, .int .i64 0, .int .i64 0])] h1 = some (v2, h2) := ⟨Ad9 64 _ h _ h1 (Ad9 98 _ h1 _ h2 Agy), Aba F1' (Aba F2' Abo), Abd, by rw [Acd (by decide)]; exact Abd⟩
 have r1 : h.rd b 1 = some (I n) := by rw [q0]; rfl
 have r11 : h1.rd b 1 = some (I n) := by rw [q1]; rfl
 let J : Nat -> Aac -> Prop := fun i k => i <= 1 -> k.rd b 1 = some (I n)
 have j0 : J 0 h := fun _ => r1
 have j1 : J 1 h1 := fun _ => r11
 have j2 : J 2 h2 := fun h => by omega
 have jr : ∀ j k, 0 <= j -> j <= 1 -> J j k -> k.rd b 1 = some (I n) := fun j k _ hj q => q hj
 have jr0 : ∀ j k, 0 <= j -> j <= 0 -> J j k -> k.rd b 1 = some (I n) := fun j k _ hj q => q (by omega)
 clear_value J
 simp only [SS, seval, af66, q0]
 refine Adz J CF hcf j0 ?_
 simp only [SS, seval, Aiv, w_p, w_r, w_e, Afl, Awg, Ain, Afr, Ad3, r1, w0, g1, g2, Ac4]
 refine ⟨jr, jr0, j1, j2, ?_⟩
 refine ⟨_, _, F3, ?_⟩
 simp only [SS, seval]
 refine ⟨_, _, F4, ?_⟩
 simp only [SS, seval]
 rw [Aab h h3 sF.mq]
 exact ⟨⟨u2, q3', fun y hy => (n2 y hy).imp_right (fun e => by omega)⟩, m3, sF⟩
theorem Aoz {h : Aac} {b bm rp : Nat} {at' sm n slot : Int} {lv : Value} {Ls : List Lev} {l : Lev} {u um : Option Nat} {m : PM} (a : Afi h b 3 n at' sm (pp rp) lv (Ls ++ [l]) u) (rr : Rcd h rp (Amb slot (.pointer none) 0 false)) (hrp : rp ≠ b /\ u ≠ some rp /\ ¬ cl bm um rp) (mm : Aa8 h bm um m) (f : m.fine) (d : ∀ j, cl b u j -> ¬ cl bm um j) (hs : 0 <= slot /\ slot <= 1000000)
  (ok : l.ok) (hn : Ls.length < 90000) (hi : l.i + 1 < 100000) (hls : l.s + 1 < 100000) {ad k : Nat} (a1 : 1 <= ad) (a2 : ad <= 65536) (hk : k = 1 \/ k = 2) (hw : m.get slot = (ad : Int) * 8 + k) :
  Aah P 66 [(pp b), (pp bm)] h fun v h' => v = .bool false /\ (∃ u', Aoa h h' b n at' sm Ls (l.more (k - 1)) u' /\ (∀ y, u' = some y -> u = some y \/ h.nq <= y)) /\ Aa8 h' bm um (m.tick slot) /\ Aad h h' (fun j => (cl b u j \/ j = rp) \/ cl bm um j) := by
 refine Aaa hT HMk.mstep rfl ?_
 obtain ⟨_, h1, F1, rfl, rr1, m1, s1⟩ := Alw hT HS V H V9 HM rr mm f hrp.2.2 (by omega) a1 a2 (by omega) (by omega) hw
 have a1' := a.same s1 (fun j hj e => by
  rcases e with e | e
  ·rcases hj with hj | hj
   ·exact hrp.1 (by rw [<- e, hj])
   ·exact hrp.2.1 (by rw [hj, e])
  ·exact d j hj (.inl e))
 have x1 := s1.nq
 obtain ⟨_, _, F2, e20, e2⟩ := Akq hT HS rr1
 rw [e2, e20] at F2
 obtain ⟨v3, h3, F3, ⟨u3, q3, n3⟩, s3⟩ := Asj hT HS HK HMk V H a1' ok hn hi hls a1 a2 hk
 have m3 := Aa8.sameB m1 s3 d
 have sF : Aad h h3 (fun j => (cl b u j \/ j = rp) \/ cl bm um j) := (s1.mono (T := fun j => (cl b u j \/ j = rp) \/ cl bm um j) (fun j e => e.elim (fun e => .inl (.inr e)) (fun e => .inr (.inl e)))).trans s3 (fun j _ e => .inl (.inl e))
 have q3' : Aoa h h3 b n at' sm Ls (l.more (k - 1)) u3 := by
  obtain ⟨rdv, lv, c | ⟨c1, c2, rp, c3, c4, c5⟩⟩ := q3
  ·exact ⟨rdv, lv, .inl c⟩
  ·exact ⟨rdv, lv, .inr ⟨c1, c2, rp, c3, by omega, c5⟩⟩
 have F4 := Aoa.notDone hT HS q3
 have q0 := a.rc.rd
 have q1 := a1'.rc.rd
 simp only [SS, seval, af66, q0]
 refine ⟨_, _, F1, ?_⟩
 simp only [SS, seval, q1]
 refine ⟨_, _, F2, ?_⟩
 simp only [SS, seval]
 refine ⟨_, _, F3, ?_⟩
 simp only [SS, seval]
 refine ⟨_, _, F4, ?_⟩
 simp only [SS, seval]
 rw [Aab h h3 sF.mq]
 exact ⟨⟨u3, q3', fun y hy => (n3 y hy).imp_right (fun e => by omega)⟩, m3, sF⟩
theorem An1 {h : Aac} {b bm rp : Nat} {at' sm n slot : Int} {lv : Value} {Ls : List Lev} {u um : Option Nat} {m : PM} (a : Afi h b 3 n at' sm (pp rp) lv Ls u) (rr : Rcd h rp (Amb slot (.pointer none) 0 false)) (hrp : rp ≠ b /\ u ≠ some rp /\ ¬ cl bm um rp) (mm : Aa8 h bm um m) (f : m.fine) (d : ∀ j, cl b u j -> ¬ cl bm um j) (hs : 0 <= slot /\ slot <= 1000000)
  {ad : Nat} (a1 : 1 <= ad) (a2 : ad <= 65536) (hw : m.get slot = (ad : Int) * 8 + 3) :
  Aah P 66 [(pp b), (pp bm)] h fun v h' => v = .bool false /\ (∃ rdv, Afi h' b 0 ad at' sm rdv lv Ls u) /\ Aa8 h' bm um (m.tick slot) /\ Aad h h' (fun j => (cl b u j \/ j = rp) \/ cl bm um j) := by
 refine Aaa hT HMk.mstep rfl ?_
 obtain ⟨_, h1, F1, rfl, rr1, m1, s1⟩ := Alw hT HS V H V9 HM rr mm f hrp.2.2 (by omega) a1 a2 (k := 3) (by omega) (by omega) hw
 have a1' := a.same s1 (fun j hj e => by
  rcases e with e | e
  ·rcases hj with hj | hj
   ·exact hrp.1 (by rw [<- e, hj])
   ·exact hrp.2.1 (by rw [hj, e])
  ·exact d j hj (.inl e))
 obtain ⟨_, _, F2, e20, e2⟩ := Akq hT HS rr1
 rw [e2, e20] at F2
 obtain ⟨v3, h3, F3, a3, s3⟩ := Aqd hT HS HMk V H a1' a1 a2
 have m3 := m1.same s3 (fun j hj e => d j (.inl e) hj)
 have sF : Aad h h3 (fun j => (cl b u j \/ j = rp) \/ cl bm um j) := (s1.mono (T := fun j => (cl b u j \/ j = rp) \/ cl bm um j) (fun j e => e.elim (fun e => .inl (.inr e)) (fun e => .inr (.inl e)))).trans s3 (fun j _ e => .inl (.inl (.inl e)))
 obtain ⟨_, _, F4, e40, e4⟩ := Af4 hT HS a3.rc
 rw [e4, e40] at F4
 have F4' : Aa3 P 105 [(pp b)] h3 (.bool false) h3 := F4
 have F2' : Aa3 P 102 [(pp rp)] h1 (I ((ad : Int) * 8 + 3)) h1 := F2
 have q0 := a.rc.rd
 have q1 := a1'.rc.rd
 simp only [SS, seval, af66, q0]
 refine ⟨_, _, F1, ?_⟩
 simp only [SS, seval, q1]
 refine ⟨_, _, F2', ?_⟩
 simp only [SS, seval]
 refine ⟨_, _, F3, ?_⟩
 simp only [SS, seval]
 refine ⟨_, _, F4', ?_⟩
 simp only [SS, seval]
 rw [Aab h h3 sF.mq]
 exact ⟨⟨_, a3⟩, m3, sF⟩
end
section
variable (hT : Aa0 P tab) (HS : Afx tab) (HK : Ah3 tab) (HMk : Air tab) (V : Aea tab) (H : Has tab) (V9 : Acg tab) (HM : Agf tab)
include hT HS HK HMk V H V9 HM
theorem A2x {h : Aac} {b bm : Nat} {at' sm n : Int} {rdv lv : Value} {Ls : List Lev} {l : Lev} {u um : Option Nat} {m : PM} (a : Afi h b 5 n at' sm rdv lv (Ls ++ [l]) u) (mm : Aa8 h bm um m) (f : m.fine) (d : ∀ j, cl b u j -> ¬ cl bm um j) (ok : l.ok) (hn : Ls.length < 90000) :
  ∃ h1 h2 v3 h3 lv1, Aa3 P 104 [.pointer (some ⟨b, 4, none⟩)] h (.tuple #[.agg l.L.toArray, .bool true]) h1 /\ Aop (h1.newR [.int .i64 0, .int .i64 0, .int .i64 0, .int .i64 0]) 4 (pp h1.nq) (.agg l.L.toArray) = some (undef, h2) /\ h2.rd h1.nq 0 = some (I l.n) /\ h2.rd h1.nq 3 = some (I l.s) /\ h3.rd h1.nq 3 = some (I l.s) /\
   Aa3 P 12 [(pp bm), I ((l.n : Int) + 4), I ((l.s : Int) + 1)] h2 v3 h3 /\ Afi h3 b 5 n at' sm rdv lv1 Ls u /\ Aa8 h3 bm um (m.write ((l.n : Int) + 4) ((l.s : Int) + 1)) /\ Aad h h3 (fun j => cl b u j \/ cl bm um j) /\ h.nq <= h3.nq := by
 obtain ⟨q1, q2, q3, q4⟩ := ok
 have hst := a.st
 rw [List.map_append, List.map_singleton] at hst
 have hw := Ahj (Ls ++ [l])
 rw [List.map_append, List.map_singleton] at hw
 obtain ⟨_, h1, F1, rfl, ⟨v1, rc1, sc1, sk1⟩, s1⟩ := Apz hT HK a.rc (k := 4) rfl hst hw a.ub (by rw [List.length_map]; omega)
 have x1 := s1.nq
 have e1 : ([I 5, I n, rdv, I at', lv, I sm] : List Value).set 4 v1 = [I 5, I n, rdv, I at', v1, I sm] := rfl
 rw [e1] at rc1
 have a1 : Afi h1 b 5 n at' sm rdv v1 Ls u := ⟨rc1, sk1, a.ub, a.sc⟩
 have m1 := Aa8.sameB mm s1 d
 have st2 := Acw h1 [.int .i64 0, .int .i64 0, .int .i64 0, .int .i64 0] l.L 4 rfl rfl (by omega) rfl
 have s2 : Aad h1 (h1.newR l.L) (fun _ => False) := Aad.newR
 have r2 := Rcd.new h1 l.L
 have x2 : (h1.newR l.L).nq = h1.nq + 1 := rfl
 have a2 := a1.same s2 (fun _ _ x => x)
 have m2 := m1.same s2 (fun _ _ x => x)
 generalize h1.newR l.L = h2 at st2 s2 r2 x2 a2 m2
 obtain ⟨v3, h3, F3, m3, s3⟩ := Agu hT V9 m2 f ((l.n : Int) + 4) ((l.s : Int) + 1) (by omega)
 have x3 := s3.nq
 have a3 := a2.same s3 (fun j hj => d j hj)
 have hm : ∀ j, cl bm um j -> j < h.nq := mm.lt
 have r3 := r2.same s3 (fun e => by have := hm _ e; omega)
 refine ⟨h1, h2, v3, h3, v1, F1, st2, by rw [r2.rd]; rfl, by rw [r2.rd]; rfl, by rw [r3.rd]; rfl, F3, a3, m3, ((s1.mono (T := fun j => cl b u j \/ cl bm um j) (fun j e => .inl e)).trans s2 (fun _ _ x => x.elim)).trans s3 (fun j _ e => .inr e), by omega⟩
theorem Aqe {h : Aac} {b bm : Nat} {at' sm n : Int} {rdv lv : Value} {Ls : List Lev} {l l0 : Lev} {u um : Option Nat} {m : PM} (a : Afi h b 5 n at' sm rdv lv (Ls ++ [l0] ++ [l]) u) (mm : Aa8 h bm um m) (f : m.fine) (d : ∀ j, cl b u j -> ¬ cl bm um j) (ok : l.ok) (ok0 : l0.ok) (hn : Ls.length < 80000) (hi : l0.i + 1 < 100000) (hs : l0.s + l.s < 100000) :
  Aah P 66 [(pp b), (pp bm)] h fun v h' => v = .bool false /\ (∃ u', Aoa h h' b n at' sm Ls (l0.more l.s) u' /\ (∀ y, u' = some y -> u = some y \/ h.nq <= y)) /\ Aa8 h' bm um (m.write ((l.n : Int) + 4) ((l.s : Int) + 1)) /\ Aad h h' (fun j => cl b u j \/ cl bm um j) := by
 refine Aaa hT HMk.mstep rfl ?_
 obtain ⟨h1, h2, v3, h3, lv1, F1, st2, p0, p3, p33, F3, a3, m3, s3, x3⟩ := A2x hT HS HK HMk V H V9 HM a mm f d ok (by simp; omega)
 obtain ⟨q1, q2, q3, q4⟩ := ok
 have w4 : Aan .i64 ((l.n : Int) + 4) = (l.n : Int) + 4 := by rw [Aav] <;> omega
 have w1 : Aan .i64 ((l.s : Int) + 1) = (l.s : Int) + 1 := by rw [Aav] <;> omega
 obtain ⟨v4, h4, F4, ⟨u4, q4, n4⟩, s4⟩ := Akw hT HS HK HMk V a3 ok0 (by omega) l.s hs hi
 have m4 := Aa8.sameB m3 s4 d
 have sF : Aad h h4 (fun j => cl b u j \/ cl bm um j) := s3.trans s4 (fun j _ e => .inl e)
 have q4' : Aoa h h4 b n at' sm Ls (l0.more l.s) u4 := by
  obtain ⟨rdv, lv, c | ⟨c1, c2, rp, c3, c4, c5⟩⟩ := q4
  ·exact ⟨rdv, lv, .inl c⟩
  ·exact ⟨rdv, lv, .inr ⟨c1, c2, rp, c3, by omega, c5⟩⟩
 have F5 := Aoa.notDone hT HS q4
 have q0 := a.rc.rd
 simp only [SS, seval, af66, q0]
 refine ⟨_, _, F1, ?_⟩
 simp only [SS, seval, Aaw, Acq, st2, p0, p3, w4, w1]
 refine ⟨_, _, F3, ?_⟩
 simp only [SS, seval, p33]
 refine ⟨_, _, F4, ?_⟩
 simp only [SS, seval]
 refine ⟨_, _, F5, ?_⟩
 simp only [SS, seval]
 rw [Aab h h4 sF.mq]
 exact ⟨⟨u4, q4', fun y hy => (n4 y hy).imp_right (fun e => by omega)⟩, m4, sF⟩
theorem Arq {h : Aac} {b bm : Nat} {at' sm n : Int} {rdv lv : Value} {l : Lev} {u um : Option Nat} {m : PM} (a : Afi h b 5 n at' sm rdv lv [l] u) (mm : Aa8 h bm um m) (f : m.fine) (d : ∀ j, cl b u j -> ¬ cl bm um j) (ok : l.ok) :
  Aah P 66 [(pp b), (pp bm)] h fun v h' => v = .bool true /\ (∃ rdv lv, Afi h' b 6 n at' l.s rdv lv [] u) /\ Aa8 h' bm um (m.write ((l.n : Int) + 4) ((l.s : Int) + 1)) /\ Aad h h' (fun j => cl b u j \/ cl bm um j) := by
 refine Aaa hT HMk.mstep rfl ?_
 obtain ⟨h1, h2, v3, h3, lv1, F1, st2, p0, p3, p33, F3, a3, m3, s3, x3⟩ := A2x hT HS HK HMk V H V9 HM (Ls := []) a mm f d ok (by simp)
 obtain ⟨q1, q2, q3, q4⟩ := ok
 have w4 : Aan .i64 ((l.n : Int) + 4) = (l.n : Int) + 4 := by rw [Aav] <;> omega
 have w1 : Aan .i64 ((l.s : Int) + 1) = (l.s : Int) + 1 := by rw [Aav] <;> omega
 obtain ⟨v4, h4, F4, a4, s4⟩ := Aug hT HK HMk a3 l.s
 have m4 := m3.same s4 (fun j hj e => d j (.inl e) hj)
 have sF : Aad h h4 (fun j => cl b u j \/ cl bm um j) := s3.trans s4 (fun j _ e => .inl (.inl e))
 obtain ⟨_, _, F5, e50, e5⟩ := Af4 hT HS a4.rc
 rw [e5, e50] at F5
 have F5' : Aa3 P 105 [(pp b)] h4 (.bool true) h4 := F5
 have q0 := a.rc.rd
 simp only [SS, seval, af66, q0]
 refine ⟨_, _, F1, ?_⟩
 simp only [SS, seval, Aaw, Acq, st2, p0, p3, w4, w1]
 refine ⟨_, _, F3, ?_⟩
 simp only [SS, seval, p33]
 refine ⟨_, _, F4, ?_⟩
 simp only [SS, seval]
 refine ⟨_, _, F5', ?_⟩
 simp only [SS, seval]
 rw [Aab h h4 sF.mq]
 exact ⟨⟨_, _, a4⟩, m4, sF⟩
end
inductive Ab3 (P : Program) (f : Nat) (args : List Value) (S : Nat -> Prop) : Aac -> Aac -> Nat -> Prop where
 | nil (h : Aac) : Ab3 P f args S h h 0
 | cons {h h1 h2 : Aac} {n : Nat} : Aa3 P f args h (.bool false) h1 -> Aad h h1 S -> Ab3 P f args S h1 h2 n -> Ab3 P f args S h h2 (n + 1)
theorem Ab3.app {P : Program} {f : Nat} {args : List Value} {S : Nat -> Prop} {h h1 h2 : Aac} {n k : Nat} (a : Ab3 P f args S h h1 n) (b : Ab3 P f args S h1 h2 k) : Ab3 P f args S h h2 (n + k) := by
 induction a with
 | nil h => simpa using b
 | cons x y z ih => rw [show ∀ n, n + 1 + k = n + k + 1 by omega]; exact .cons x y (ih b)
theorem Ab3.one {P : Program} {f : Nat} {args : List Value} {S : Nat -> Prop} {h h1 : Aac} (x : Aa3 P f args h (.bool false) h1) (y : Aad h h1 S) : Ab3 P f args S h h1 1 := .cons x y (.nil h1)
theorem Ab3.same {P : Program} {f : Nat} {args : List Value} {S : Nat -> Prop} {h h1 : Aac} {n : Nat} (a : Ab3 P f args S h h1 n) : Aad h h1 S := by
 induction a with
 | nil h => exact Aad.refl _ _
 | cons x y z ih => exact y.trans ih (fun _ _ e => e)
theorem Ab3.mono {P : Program} {f : Nat} {args : List Value} {S T : Nat -> Prop} {h h1 : Aac} {n : Nat} (a : Ab3 P f args S h h1 n) (hT : ∀ j, S j -> T j) : Ab3 P f args T h h1 n := by
 induction a with
 | nil h => exact .nil h
 | cons x y z ih => exact .cons x (y.mono hT) ih
theorem Ab3.lift {P : Program} {f g : Nat} {args brgs : List Value} {S : Nat -> Prop} {h h1 : Aac} {n : Nat} (Q : Aac -> Prop) (a : Ab3 P f args S h h1 n) (hq : Q h) (hS : ∀ k k', Q k -> Aad k k' S -> Q k') (step : ∀ k k', Q k -> Aa3 P f args k (.bool false) k' -> Aad k k' S -> Aa3 P g brgs k (.bool false) k') : Ab3 P g brgs S h h1 n /\ Q h1 := by
 induction a with
 | nil h => exact ⟨.nil h, hq⟩
 | cons x y z ih =>
  obtain ⟨c, q⟩ := ih (hS _ _ hq y)
  exact ⟨.cons (step _ _ hq x y) y c, q⟩
end
end Go.Proofs.YtnonihjoimobmaaGreat.Ai
