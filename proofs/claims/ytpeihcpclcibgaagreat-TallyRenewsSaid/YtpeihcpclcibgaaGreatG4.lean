/- Texts put together: IV, TC0, T3, T4, T5, T6, T7. -/
import Derived.Test.YtpeihcpclcibgaaGreatTh2
import Derived.Test.YtpeihcpclcibgaaGreatG3
import Derived.Test.YtpeihcpclcibgaaGreatG2
import Derived.Test.YtpeihcpclcibgaaGreatTabOk
import Derived.Test.YtpeihcpclcibgaaGreatG0
namespace Go.Proofs.YtpeihcpclcibgaaGreat.Ai
open Go.Proofs.YtpeihcpclcibgaaGreat
noncomputable section
set_option linter.all false
variable {P : Program} {tab : Nat -> Option Aae}
open Go.RowKit
theorem Aj6 {u0 u1 u2 : Option Nat} {x0 x1 : Nat} (n1 : ∀ y, u1 = some y -> u0 = some y \/ x0 <= y) (n2 : ∀ y, u2 = some y -> u1 = some y \/ x1 <= y) (hx : x0 <= x1) : ∀ y, u2 = some y -> u0 = some y \/ x0 <= y := fun y hy => by
 rcases n2 y hy with e | e
 ·exact n1 y e
 ·exact .inr (by omega)
theorem A3w {b bm x0 x1 : Nat} {u0 u1 : Option Nat} (n1 : ∀ y, u1 = some y -> u0 = some y \/ x0 <= y) (hx : x0 <= x1) : ∀ j, (j = b \/ cl bm u1 j \/ x1 <= j) -> (j = b \/ cl bm u0 j \/ x0 <= j) := fun j e => by
 rcases e with e | (e | e) | e
 ·exact .inl e
 ·exact .inr (.inl (.inl e))
 ·exact (n1 j e).elim (fun e => .inr (.inl (.inr e))) (fun e => .inr (.inr e))
 ·exact .inr (.inr (by omega))
theorem A12 {b bm x0 : Nat} {u0 u1 : Option Nat} (n1 : ∀ y, u1 = some y -> u0 = some y \/ x0 <= y) : ∀ j, (j = b \/ cl bm u1 j) -> (j = b \/ cl bm u0 j \/ x0 <= j) := fun j e => by
 rcases e with e | e | e
 ·exact .inl e
 ·exact .inr (.inl (.inl e))
 ·exact (n1 j e).elim (fun e => .inr (.inl (.inr e))) (fun e => .inr (.inr e))
theorem Aqi {b bm x0 : Nat} {u0 u1 : Option Nat} (hb : ¬ cl bm u0 b) (hbl : b < x0) (n1 : ∀ y, u1 = some y -> u0 = some y \/ x0 <= y) : ¬ cl bm u1 b := fun e => by
 rcases e with e | e
 ·exact hb (.inl e)
 ·rcases n1 b e with e2 | e2
  ·exact hb (.inr e2)
  ·omega
theorem Tr.word_pos (t : Tr) : 0 < t.word := by cases t <;> simp only [Tr.word, Tr.adr, Tr.kind] <;> omega
theorem Axb {n : Nat} (h2 : 2 <= Aaq n) : (Ac3 n).length = 2 * Aaq n + 4 := by simp [Ac3]; omega
theorem Au6 {n k : Nat} (hk : k < (Ac3 n).length) (h : 2 <= k) : (Ac3 n)[k] = 0 := by
 have e : Ac3 n = [(Aaq n : Int), (n : Int)] ++ List.replicate (3 + (Aaq n - 1) + Aaq n) 0 := by
  rw [<- List.replicate_append_replicate, <- List.replicate_append_replicate]
  simp [Ac3, List.replicate_succ]
 simp only [e]
 rw [List.getElem_append_right (by simp; omega)]
 simp
theorem Atq {l : List Pr} (h2 : 2 <= l.length) (h120 : l.length <= 120) (u : Nat) : (Aax (Abc l.length) l u (Aaq l.length)).2.length + (2 * Aaq l.length + 4) = Abr l.length := by
 have pn := Acz h2 h120
 have d2 := pn.deg2
 have e := Aga (l.length + 1) l u (by omega) h120
 rw [Afl h2] at e
 have kl := Ac0 l (Aaq l.length)
 have k2 := Akx (lay := Abc l.length) (l := l) (u := u) (Aaq l.length)
 simp only [List.length_append, List.length_cons, List.length_nil] at e
 omega
section
variable (hT : Aa2 P tab) (HR : Afg tab) (HRw : tab 162 = some af162) (HP : Aji tab) (Nu : Num P) (HS : Af8 tab) (HKM : Aiw tab) (HMk : Ajl tab) (HK : Afp tab) (HG : Aff tab) (G : An4 tab) (V : Aek tab) (H : Has tab) (V9 : Acl tab) (HM : Agr tab)
include hT HR HP Nu HS HKM HMk HK HG G V H V9 HM
variable {x0 x1 x2 tg n rt i gt : Int} {mk gk pc dc : Value} {cm ok : Bool}
theorem A0p {a : Nat} {sz sh ch0 sm0 : Int} {ks : List Int} {cs : List Tr} {l : List Pr} (hf : (Tr.inner a sz sh ch0 sm0 ks cs).old /\ (Tr.inner a sz sh ch0 sm0 ks cs).content = l) (h2 : 2 <= l.length) (h120 : l.length <= 120) (hdp : Aej cs <= 280) (asc : Asc l) (hnd : (Tr.inner a sz sh ch0 sm0 ks cs).adrs.Nodup) {h : Aac} {b bm A g p : Nat} {um : Option Nat} {m : PM} (r : Rcd h b (rnL 2 x0 x1 x2 A tg n mk gk rt i cm pc gt dc ok)) (mm : Aa9 h bm um m) (f : m.fine) (hb : ¬ cl bm um b) (hok : (Tr.inner a sz sh ch0 sm0 ks cs).ok m.C) (hc : m.c + (12 * (4 * (Aar cs).length + 310) + 10 * (Tr.inner a sz sh ch0 sm0 ks cs).adrs.length : Nat) < 500000000) (A1 : 1 <= A) (A2 : A + 4 <= m.C.length) (hin : ∀ y ∈ (Tr.inner a sz sh ch0 sm0 ks cs).adrs, 1 <= y /\ y < A)
  (hA : ∀ k (hk : k < 5), at0 m.C (A + k) = [(a : Int) * 8 + 3, (g : Int), (p : Int), 0, 0][k]) (g1 : 1 <= g) (g2 : g < A) (p1 : 1 <= p) (p2 : p < A) (hgp : g ≠ p) (hgn : g ∉ (Tr.inner a sz sh ch0 sm0 ks cs).adrs) (hpn : p ∉ (Tr.inner a sz sh ch0 sm0 ks cs).adrs) (hg : at0 m.C g = 0) (hp : at0 m.C p = (A : Int) * 8 + 4) (room : (m.C.length : Int) + (Abr l.length + 5 : Nat) <= m.z) :
  ∃ h' um' m', ∃ T : Tr, ∃ L : List Value, Adk P 75 [(pp b), (pp bm)] (fun j => j = b \/ cl bm um j \/ h.next <= j) (12 * (4 * (Aar cs).length + 320) + 10 * (Tr.inner a sz sh ch0 sm0 ks cs).adrs.length) h h' true /\ Rcd h' b L /\ (∃ x0 x1 x2 A' tg n mk gk rt i cm pc gt dc, L = rnL 15 x0 x1 x2 A' tg n mk gk rt i cm pc gt dc true) /\ Aa9 h' bm um' m' /\ (∀ y, um' = some y -> um = some y \/ h.next <= y) /\ (m'.z = m.z /\ m'.o = m.o /\ m'.r = m.r /\ m'.C.length = m.C.length + (Abr l.length + 5) /\ m.c <= m'.c /\ m'.c <= m.c + (12 * (4 * (Aar cs).length + 310) + 10 * (Tr.inner a sz sh ch0 sm0 ks cs).adrs.length : Nat)) /\ (∀ y, y < A -> y ∉ (Tr.inner a sz sh ch0 sm0 ks cs).adrs -> y ≠ p -> at0 m'.C y = at0 m.C y) /\ at0 m'.C p = T.word /\ T.ok m'.C /\ T.fits l /\ (∀ y ∈ T.adrs, m.C.length < y /\ y <= m'.C.length) /\ T.adrs.Nodup /\ (Tr.inner a sz sh ch0 sm0 ks cs).shut.ok m'.C := by
 have pn := Acz h2 h120
 have d2 := pn.deg2
 have d11 := pn.deg11
 have fz := f.z1
 have fc := f.c
 have hbl := r.lt
 have kc := Atq h2 h120
 have rl := Axb d2
 have hml := Nat.mul_le_mul_right (4 * (Aar cs).length + 303) (show Aaq l.length <= 11 from d11)
 have hml2 := Nat.mul_le_mul_right (4 * (Aar cs).length + 312) (show Aaq l.length <= 11 from d11)
 obtain ⟨h1, u1, M1, mk1, k1, hk1, ch1, r1, m1, n1, ⟨z1, o1, q1, l1, c1, c1'⟩, a1, v1, ok1, w1⟩ := Axl hT HR Nu HS HKM HMk V H V9 HM hf h2 h120 hdp hnd r mm f hb hok (by omega) A1 A2 (fun y hy => ⟨(hin y hy).1, by have := (hin y hy).2; omega⟩) (hA 0 (by omega)) (hA 3 (by omega)) (fun e => by have := (hin _ e).2; omega) (by rw [rl]; have := kc 0; omega)
 rw [rl] at l1
 have s1 := ch1.same.next
 have hb1 := Aqi hb hbl n1
 have f1 : M1.fine := ⟨by rw [z1]; exact f.z0, by rw [z1]; exact f.z1, by rw [z1]; have := kc 0; omega, ⟨by omega, by omega⟩, by rw [o1]; exact f.o, by rw [q1]; exact f.r⟩
 rw [show ((m.C.length : Int) + 1) = ((m.C.length + 1 : Nat) : Int) by omega] at r1
 have nin : ∀ y, A <= y -> y ∉ (Tr.inner a sz sh ch0 sm0 ks cs).adrs := fun y hy e => by have := (hin y e).2; omega
 have hA1' : ∀ k, k < 5 -> k ≠ 3 -> at0 M1.C (A + k) = at0 m.C (A + k) := fun k hk hk3 => a1 _ (by omega) (nin _ (by omega)) (by omega)
 have hw1 := w1
 have cl1 := kc M1.C.length
 obtain ⟨h2', u2, M2, pc2, cm2, k2, i2, hk2, ch2, r2, m2, n2, ⟨z2, o2, q2, c2, c2'⟩, I2⟩ := Avj hT HR HP Nu HS HK HG G V H V9 HM hf h2 h120 hdp asc r1 m1 f1 hb1 ok1 (fun y hy => (hin y hy).2) (by omega) (by omega) (by omega) (by rw [hA1' 4 (by omega) (by omega)]; exact hA 4 (by omega)) (fun j hj => by rw [show m.C.length + 1 + 4 + Aaq l.length + j = m.C.length + 1 + (4 + Aaq l.length + j) by omega, hw1 _ (by omega)]; exact Au6 _ (by omega)) (by rw [z1]; omega) (Aaq l.length) (Nat.le_refl _)
 have s2 := ch2.same.next
 have hb2 := Aqi hb1 (by omega) n2
 have l2 := I2.len
 have f2 : M2.fine := ⟨by rw [z2]; exact f1.z0, by rw [z2]; exact f1.z1, by rw [z2, z1]; omega, ⟨by omega, by omega⟩, by rw [o2]; exact f1.o, by rw [q2]; exact f1.r⟩
 obtain ⟨tok, tfit, tadr, tnd⟩ := I2.tree h2 h120 (by omega) (by omega) (by omega) hw1
 generalize hTT : A4c l (m.C.length + 1) M1.C.length = TT at tok tfit tadr tnd
 have hTa : TT.word = ((m.C.length + 1 : Nat) : Int) * 8 + 3 := by rw [<- hTT]; rfl
 obtain ⟨h3, F3, r3, m3, s3⟩ := Arq hT HR Nu V9 HM r2 m2 f2 hb2 (by omega) h2 h120 (x := (Aaq l.length : Int)) (by rw [show ((A : Int) + 4) = ((A + 4 : Nat) : Int) by omega, PM.get_at0]; exact I2.nxt) (Int.le_refl _)
 obtain ⟨M3, e3, P3⟩ : ∃ M3, (M2.add ((A : Int) + 4) 1).2 = M3 /\ Pas M2 M3 (· = A + 4) 1 := by
  refine ⟨_, rfl, ?_⟩
  unfold PM.add
  rw [show ((A : Int) + 4) = ((A + 4 : Nat) : Int) by omega]
  exact (Ab5 (· = A + 4) (by omega) (by omega) rfl).1
 rw [e3] at m3
 have f3 := P3.fine f2 (by omega)
 have l3 := P3.len
 have c3 := P3.c0
 have c3' := P3.c1
 have y3 := s3.next
 have kidw : ∀ j, j < Aaq l.length -> at0 M3.C (m.C.length + 1 + 4 + Aaq l.length + j) ≠ 0 := fun j hj => by
  rw [P3.get _ (by omega), I2.kids j hj]
  have tk := Al9 (f := l.length) (l := l) (u := M1.C.length) h2 h120 (Nat.le_refl _) _ (Nat.le_refl _)
  rw [tk.words, List.getElem?_map]
  have hl := tk.len
  rw [List.getElem?_eq_getElem (by omega)]
  have := Tr.word_pos ((Ae9 (Af7 l.length) (Abc l.length) l M1.C.length (Aaq l.length))[j]'(by omega))
  show Tr.word _ ≠ 0
  omega
 obtain ⟨h4, M4, k4, hk4, ch4, r4, m4, t4⟩ := Awt hT HR Nu V H V9 HM h2 h120 r3 m3 f3 hb2 (by omega) (by omega) (by omega) kidw (Aaq l.length) (Nat.le_refl _) (by omega)
 rw [if_pos (Nat.le_refl _)] at r4
 have f4 := t4.fine f3 (by omega)
 have c4 := t4.c0
 have c4' := t4.c1
 have y4 := ch4.same.next
 have old4 : ∀ y, y < A + 5 -> y ≠ A + 4 -> at0 M4.C y = at0 M1.C y := fun y h1 h2 => by rw [t4.C, P3.get y h2, I2.old y (by omega) h2]
 obtain ⟨h5, u5, M5, bd5, run5, r5, m5, n5, ⟨z5, o5, q5, l5, c5, c5'⟩, a5, v5⟩ := Azb hT HR HS V H V9 HM r4 m4 f4 hb2 (by rw [t4.C, t4.z, P3.z, z2, z1]; omega) (by omega) A1 (by rw [t4.C]; omega) g1 (by rw [t4.C]; omega) p1 (by rw [t4.C]; omega) hgp
  (by rw [old4 _ (by omega) (by omega), hA1' 1 (by omega) (by omega)]; exact hA 1 (by omega)) (by rw [old4 _ (by omega) (by omega), hA1' 2 (by omega) (by omega)]; exact hA 2 (by omega)) (by rw [old4 g (by omega) (by omega), a1 g (by omega) hgn (by omega)]; exact hg) (by rw [old4 p (by omega) (by omega), a1 p (by omega) hpn (by omega)]; exact hp)
 have e4 := t4.C
 have n12 := Aj6 n1 n2 s1
 have hlen5 : M5.C.length = m.C.length + (Abr l.length + 5) := by rw [l5, e4, l3, l2]; omega
 refine ⟨h5, u5, M5, TT, _, ((((ch1.app (ch2.mono (A3w n1 s1))).app (.one F3 (s3.mono (A12 n12)))).app (ch4.mono (A12 n12))).to (run5.mono (A3w n12 (by omega)))).le (by omega), r5, ⟨_, _, _, _, _, _, _, _, _, _, _, _, _, _, rfl⟩, m5, Aj6 n12 n5 (by omega), ⟨by rw [z5, t4.z, P3.z, z2, z1], by rw [o5, t4.o, P3.o, o2, o1], by rw [q5, t4.r, P3.r, q2, q1], hlen5, by omega, by omega⟩, fun y hy hyn hyp => ?_, by rw [v5, hTa], ?_, tfit, fun y hy => ?_, tnd, ?_⟩
 ·rw [a5 y (by rw [e4]; omega) hyp, old4 y (by omega) (by omega), a1 y (by omega) hyn (by omega)]
 ·refine Adl (by rw [hlen5]; omega) _ (fun y hy => ?_) tok
  have := tadr y hy
  rw [a5 y (by rw [e4, l3]; omega) (by omega), e4, P3.get y (by omega)]
 ·have := tadr y hy
  rw [hlen5]; omega
 ·refine Adl (by rw [hlen5]; omega) _ (fun y hy => ?_) ok1
  rw [Afa] at hy
  have := (hin y hy).2
  rw [a5 y (by rw [e4]; omega) (fun e => hpn (e ▸ hy)), old4 y (by omega) (by omega)]
include HRw in
theorem Axq {a : Nat} {sz sh ch0 sm0 : Int} {ks : List Int} {cs : List Tr} {l : List Pr} (hf : (Tr.inner a sz sh ch0 sm0 ks cs).old /\ (Tr.inner a sz sh ch0 sm0 ks cs).content = l) (h2 : 2 <= l.length) (h120 : l.length <= 120) (hdp : Aej cs <= 280) (asc : Asc l) (hnd : (Tr.inner a sz sh ch0 sm0 ks cs).adrs.Nodup) {h : Aac} {b bm e0 e1 : Nat} {w at1 : Int} {um : Option Nat} {m : PM} (r : Rcd h b (rnL 0 e0 e1 w at1 tg n mk gk rt i cm pc gt dc ok)) (mm : Aa9 h bm um m) (f : m.fine) (hb : ¬ cl bm um b) (hok : (Tr.inner a sz sh ch0 sm0 ks cs).ok m.C) (hw : w = (Tr.inner a sz sh ch0 sm0 ks cs).word) (hc : m.c + (12 * (4 * (Aar cs).length + 310) + 10 * (Tr.inner a sz sh ch0 sm0 ks cs).adrs.length : Nat) < 400000000) (hin : ∀ y ∈ (Tr.inner a sz sh ch0 sm0 ks cs).adrs, 1 <= y /\ y <= m.C.length)
  (g2 : e0 + 2 <= m.C.length) (p1 : 1 <= e1) (p2 : e1 <= m.C.length) (hgp : e0 + 2 ≠ e1) (hgn : e0 + 2 ∉ (Tr.inner a sz sh ch0 sm0 ks cs).adrs) (hpn : e1 ∉ (Tr.inner a sz sh ch0 sm0 ks cs).adrs) (hg : at0 m.C (e0 + 2) = 0) (hp : at0 m.C e1 = w) (room : (m.C.length : Int) + (Abr l.length + 15 : Nat) <= m.z) :
  ∃ h' um' m', ∃ T : Tr, ∃ L : List Value, Adk P 75 [(pp b), (pp bm)] (fun j => j = b \/ cl bm um j \/ h.next <= j) (12 * (4 * (Aar cs).length + 320) + 10 * (Tr.inner a sz sh ch0 sm0 ks cs).adrs.length + 7) h h' true /\ Rcd h' b L /\ (∃ x0 x1 x2 A' tg n mk gk rt i cm pc gt dc, L = rnL 15 x0 x1 x2 A' tg n mk gk rt i cm pc gt dc true) /\ Aa9 h' bm um' m' /\ (∀ y, um' = some y -> um = some y \/ h.next <= y) /\ (m'.z = m.z /\ m'.o = m.o /\ m'.r = m.r /\ m'.C.length = m.C.length + (Abr l.length + 15) /\ m.c <= m'.c /\ m'.c <= m.c + (12 * (4 * (Aar cs).length + 310) + 10 * (Tr.inner a sz sh ch0 sm0 ks cs).adrs.length + 7 : Nat)) /\ (∀ y, y <= m.C.length -> y ∉ (Tr.inner a sz sh ch0 sm0 ks cs).adrs -> y ≠ e1 -> at0 m'.C y = at0 m.C y) /\ at0 m'.C e1 = T.word /\ T.ok m'.C /\ T.fits l /\ (∀ y ∈ T.adrs, m.C.length < y /\ y <= m'.C.length) /\ T.adrs.Nodup /\ (Tr.inner a sz sh ch0 sm0 ks cs).shut.ok m'.C := by
 have hbl := r.lt
 have fc := f.c
 have fz := f.z1
 obtain ⟨h1, u1, M1, bd, k1, hk1, ch1, r1, m1, n1, ⟨z1, o1, q1, l1, c1, c1'⟩, a1, v1, w1⟩ := Aq9 hT HR HRw HS V H V9 HM r mm f hb (by omega) (by omega) g2 p1 p2 hgp hg hp
 have s1 := ch1.same.next
 have hb1 := Aqi hb hbl n1
 have f1 : M1.fine := ⟨by rw [z1]; exact f.z0, by rw [z1]; exact f.z1, by rw [z1]; omega, ⟨by omega, by omega⟩, by rw [o1]; exact f.o, by rw [q1]; exact f.r⟩
 have ok1 : (Tr.inner a sz sh ch0 sm0 ks cs).ok M1.C := Adl (by omega) _ (fun y hy => a1 y (hin y hy).2 (fun e => hpn (e ▸ hy))) hok
 obtain ⟨h2', u2, M2, T, L, run2, r2, L2, m2, n2, ⟨z2, o2, q2, l2, c2, c2'⟩, a2, v2, t2, t3, t4, t5, t6⟩ := A0p hT HR HP Nu HS HKM HMk HK HG G V H V9 HM hf h2 h120 hdp asc hnd r1 m1 f1 hb1 ok1 (by omega) (by omega) (by omega) (fun y hy => ⟨(hin y hy).1, by have := (hin y hy).2; omega⟩) (g := e0 + 2) (p := e1) (fun k hk => by rw [w1 k hk, hw]; rfl) (by omega) (by omega) p1 (by omega) hgp hgn hpn (by rw [a1 _ g2 hgp]; exact hg) v1 (by rw [z1]; omega)
 refine ⟨h2', u2, M2, T, L, (ch1.to (run2.mono (A3w n1 s1))).le (by omega), r2, L2, m2, Aj6 n1 n2 s1, ⟨by rw [z2, z1], by rw [o2, o1], by rw [q2, q1], by omega, by omega, by omega⟩, fun y hy hyn hyp => by rw [a2 y (by omega) hyn hyp, a1 y hy hyp], v2, t2, t3, fun y hy => by have := t4 y hy; omega, t5, t6⟩
end
theorem Aui {v u w x y z : Value} : Aec [v, u, w] [(0, 3, .agg #[x, y, z])] = some [x, y, z] := (rfl)
theorem Aql {v u w x y z : Value} : Aec [v, u, w] [(0, 3, .agg (List.toArray [x, y, z]))] = some [x, y, z] := (rfl)
theorem As0 : ∀ (l : List En) (i : Nat) (hi : i < l.length), ((Aht l).drop (i * 3)).take 3 = [I l[i].1, I l[i].2.1, I l[i].2.2]
 | e :: l, 0, _ => rfl
 | e :: l, i + 1, hi => by
  rw [show (i + 1) * 3 = i * 3 + 1 + 1 + 1 by omega]
  exact As0 l i (by simpa using hi)
theorem A0d {h : Aac} {x p cap : Nat} {l : List En} (r : Abs h x p 3 l.length cap (Aht l)) {i : Nat} (hi : i < l.length) : h.rds x (p + i * 3) 3 = some [I l[i].1, I l[i].2.1, I l[i].2.2] := by
 obtain ⟨k, hk, _, hc, hl⟩ := r.blk
 rw [Aen hk (by omega), <- As0 l i hi, <- hc, List.drop_take, List.take_take, List.drop_drop, Nat.min_eq_left (by omega)]
def tyL (nx : Int) (sl : Value) (i was full : Int) (rp : Value) : List Value := [I nx, sl, I i, I was, I full, rp]
structure TyF (h : Aac) (b : Nat) (E : List En) (uy : Option Nat) (nx : Int) (i : Nat) (was full : Int) (rp : Value) : Prop where
 ex : ∃ sl, Rcd h b (tyL nx sl i was full rp) /\ Ac6 h sl 3 E.length (Aht E) uy
 ub : uy ≠ some b
 ul : ∀ y, uy = some y -> y < h.next
 sc : Aas rp = true
theorem Axt.toF {h : Aac} {b : Nat} {E : List En} {uy : Option Nat} {nx was : Int} {i : Nat} (t : Axt h b E uy nx i was) : TyF h b E uy nx i was (-1) (.pointer none) := by
 obtain ⟨sl, e1, e2⟩ := t.blk
 exact ⟨⟨sl, ⟨e1, t.lt⟩, e2⟩, t.ub, t.ul, Ach _⟩
theorem TyF.lt {h : Aac} {b : Nat} {E : List En} {uy : Option Nat} {nx was full : Int} {i : Nat} {rp : Value} (t : TyF h b E uy nx i was full rp) : ∀ j, cl b uy j -> j < h.next := fun j hj => hj.elim (fun e => by obtain ⟨_, rc, _⟩ := t.ex; rw [e]; exact rc.lt) (fun e => t.ul j e)
theorem TyF.same {h h' : Aac} {b : Nat} {E : List En} {uy : Option Nat} {nx was full : Int} {i : Nat} {rp : Value} {S : Nat -> Prop} (t : TyF h b E uy nx i was full rp) (s : Aad h h' S) (hS : ∀ j, cl b uy j -> ¬ S j) : TyF h' b E uy nx i was full rp := by
 obtain ⟨sl, e1, e2⟩ := t.ex
 exact ⟨⟨sl, e1.same s (hS b (.inl rfl)), e2.same s (fun y hy => hS y (.inr hy))⟩, t.ub, fun y hy => Nat.lt_of_lt_of_le (t.ul y hy) s.next, t.sc⟩
def Azi (h0 h : Aac) (b : Nat) (E : List En) (uy : Option Nat) (i : Nat) (was full : Int) (rp : Value) : Prop :=
 if i + 1 < E.length then TyF h b E uy 0 (i + 1) was full rp else if full < 0 then TyF h b E uy 3 (i + 1) was full rp
 else ∃ br k : Nat, full = k /\ TyF h b E uy 2 (i + 1) was full (pp br) /\ h0.next <= br /\ ∃ hk : k < E.length, Rcd h br (rnL 0 E[k].1 E[k].2.1 E[k].2.2 0 0 0 (.pointer none) (.pointer none) 0 0 false (.pointer none) 0 (.pointer none) false)
section
variable (hT : Aa2 P tab) (HT : Azh tab) (HR : Afg tab)
include hT HT
theorem Aig {h : Aac} {b : Nat} {E : List En} {uy : Option Nat} {nx was full : Int} {i : Nat} {rp : Value} (t : TyF h b E uy nx i was full rp) : Aah P 20 [(pp b)] h fun v h' => v = .bool (nx == 3) /\ h' = h := by
 refine Aaa hT HT.tdone rfl ?_
 obtain ⟨sl, rc, _⟩ := t.ex
 simp only [tyL] at rc
 simp only [SV, SS, seval, af20, rc.rd]
theorem As4 (V : Aek tab) (H : Has tab) {h : Aac} {b : Nat} {E : List En} {uy : Option Nat} {nx was full : Int} {i : Nat} {rp : Value} (t : TyF h b E uy nx i was full rp) (hi : i < E.length) {a : Nat} (a1 : 1 <= a) (a2 : a <= 65536) (ha : E[i].2.2 = (a : Int) * 8 + 3) :
  Aah P 72 [(pp b)] h fun v h' => v = I a /\ h' = h := by
 refine Aaa hT HT.tinner rfl ?_
 obtain ⟨sl, rc, e2⟩ := t.ex
 simp only [tyL] at rc
 rcases e2 with ⟨e, _⟩ | ⟨x, p, cap, _, rfl, r⟩
 ·omega
 have ci : ((i : Int) < E.length) = True := by simp [hi]
 have rk : h.rd x (p + i * 3 + 2) = some (I ((a : Int) * 8 + 3)) := by
  rw [Nat.add_assoc, r.rd (by omega), Amo E i hi, ha]
 obtain ⟨_, h1, F, rfl, e1⟩ := Abo hT V H h a 3 a1 a2 (by omega) (by omega)
 rw [e1] at F
 have F' : Aa0 P 15 [I ((a : Int) * 8 + 3)] h (I a) h := F
 simp only [SV, SS, seval, af72]
 refine ⟨Ad7 15 _ h _ h Aft, Aba F' Abg, ?_⟩
 have g := @Abf 15 [I ((a : Int) * 8 + 3)] h (I a) h Aft
 simp only [SV, SS, seval, rc.rd, ci, rk, g]
include HR in
theorem A5v {h : Aac} {b : Nat} {E : List En} {uy : Option Nat} {nx was full : Int} {i : Nat} {rp : Value} (t : TyF h b E uy nx i was full rp) (hi : i < E.length) (hl : E.length < 10000) (hfu : full < 0 \/ ∃ k : Nat, full = k /\ k < E.length) :
  Aah P 74 [(pp b)] h fun v h' => Azi h h' b E uy i was full rp /\ Aad h h' (· = b) := by
 refine Aaa hT HT.tonw rfl ?_
 have wi : Aan .i64 ((i : Int) + 1) = ((i + 1 : Nat) : Int) := by rw [Aat] <;> omega
 have hlt := t.lt
 obtain ⟨sl, rc, e2⟩ := t.ex
 have row := e2
 rcases e2 with ⟨e, _⟩ | ⟨x, p, cap, ux, rfl, r⟩
 ·omega
 have hxb : x ≠ b := fun e => t.ub (by rw [ux, e])
 have sc := t.sc
 have rq := rc.rd
 have w1 := rc.wr 2 (I (i + 1 : Nat)) (by simp [tyL]) (Aav _ _)
 have e1 : (tyL nx (.slice (some ⟨x, p, none⟩) E.length cap) i was full rp).set 2 (I (i + 1 : Nat)) = tyL nx (.slice (some ⟨x, p, none⟩) E.length cap) (i + 1 : Nat) was full rp := rfl
 rw [e1] at w1
 have s1 : Aad h (h.setR b (tyL nx (.slice (some ⟨x, p, none⟩) E.length cap) (i + 1 : Nat) was full rp)) (· = b) := Aad.setR rfl
 have rc1 := Rcd.set (h := h) (tyL nx (.slice (some ⟨x, p, none⟩) E.length cap) (i + 1 : Nat) was full rp) rc.lt
 have row1 := row.same s1 (fun y hy e => t.ub (by rw [hy, e]))
 have r1 := r.same s1 hxb
 generalize h.setR b (tyL nx (.slice (some ⟨x, p, none⟩) E.length cap) (i + 1 : Nat) was full rp) = h1 at w1 s1 rc1 row1 r1
 have x1 := s1.next
 have rq1 := rc1.rd
 have rw1 := rc1.wr
 simp only [tyL] at rq rq1 rw1
 have fin : ∀ nx', TyF (h1.setR b (tyL nx' (.slice (some ⟨x, p, none⟩) E.length cap) (i + 1 : Nat) was full rp)) b E uy nx' (i + 1) was full rp /\ Aad h (h1.setR b (tyL nx' (.slice (some ⟨x, p, none⟩) E.length cap) (i + 1 : Nat) was full rp)) (· = b) := fun nx' =>
  ⟨⟨⟨_, Rcd.set _ rc1.lt, row1.same (Aad.setR (S := (· = b)) rfl) (fun y hy e => t.ub (by rw [hy, e]))⟩, t.ub, fun y hy => by have := t.ul y hy; show y < h1.next; omega, sc⟩, s1.trans (Aad.setR (S := (· = b)) rfl) (fun _ _ x => x)⟩
 by_cases hn : i + 1 < E.length
 ·have c1 : (((i + 1 : Nat) : Int) < E.length) = True := by simp; omega
  obtain ⟨t2, s2⟩ := fin 0
  simp only [tyL] at t2 s2
  simp only [SV, SS, seval, af74, rq, wi, w1]
  refine ⟨Aft, Abg, ?_⟩
  simp only [SV, SS, seval, rq1, c1, rw1]
  rw [Aab h _ s2.marks]
  exact ⟨by unfold Azi; rw [if_pos hn]; exact t2, s2⟩
 ·have c1 : (((i + 1 : Nat) : Int) < E.length) = False := by simp; omega
  by_cases hf : full < 0
  ·have c2 : (full >= 0) = False := by simp; omega
   obtain ⟨t2, s2⟩ := fin 3
   simp only [tyL] at t2 s2
   simp only [SV, SS, seval, af74, rq, wi, w1]
   refine ⟨Aft, Abg, ?_⟩
   simp only [SV, SS, seval, rq1, c1, c2, rw1]
   rw [Aab h _ s2.marks]
   exact ⟨by unfold Azi; rw [if_neg hn, if_pos hf]; exact t2, s2⟩
  ·obtain ⟨k, rfl, hk⟩ : ∃ k : Nat, full = k /\ k < E.length := hfu.elim (fun e => (hf e).elim) (fun e => e)
   have c2 : ((k : Int) >= 0) = True := by simp
   have c3 : ((k : Int) < E.length) = True := by simp; omega
   have ld := Ago (A0d r1 hk)
   obtain ⟨_, h2, F2, br, rfl, hbr, rb, s2⟩ := Ap7 hT HR h1 E[k].1 E[k].2.1 E[k].2.2
   obtain ⟨CF, hcf, g2⟩ := Ahv F2
   have rc2 := rc1.same s2 (fun x => x)
   have rw2 := rc2.wr
   have x2 := s2.next
   have t4 : TyF (h2.setR b (tyL 2 (.slice (some ⟨x, p, none⟩) E.length cap) (i + 1 : Nat) was k (pp br))) b E uy 2 (i + 1) was k (pp br) :=
    ⟨⟨_, Rcd.set _ rc2.lt, (row1.same s2 (fun _ _ x => x)).same (Aad.setR (S := (· = b)) rfl) (fun y hy e => t.ub (by rw [hy, e]))⟩, t.ub, fun y hy => by have := t.ul y hy; show y < h2.next; omega, Ach _⟩
   have rb4 : Rcd (h2.setR b (tyL 2 (.slice (some ⟨x, p, none⟩) E.length cap) (i + 1 : Nat) was k (pp br))) br _ := rb.same (Aad.setR (S := (· = b)) rfl) (fun e => by have := rc1.lt; omega)
   have s4 : Aad h (h2.setR b (tyL 2 (.slice (some ⟨x, p, none⟩) E.length cap) (i + 1 : Nat) was k (pp br))) (· = b) := (s1.trans s2 (fun _ _ x => x.elim)).trans (Aad.setR (S := (· = b)) rfl) (fun _ _ x => x)
   simp only [tyL] at rw2 t4 rb4 s4
   simp only [SV, SS, seval, af74, rq, wi, w1]
   refine ⟨Aft, Abg, ?_⟩
   simp only [SV, SS, seval, rq1, c1, c2]
   refine ⟨CF, hcf, ?_⟩
   simp only [SV, SS, seval, rq1, c2, c3, Abp, ld, g2, rw2, Abm]
   rw [Aab h _ s4.marks]
   exact ⟨by unfold Azi; rw [if_neg hn, if_neg hf]; exact ⟨br, k, rfl, t4, by omega, hk, rb4⟩, s4⟩
end
section
variable (hT : Aa2 P tab) (HT : Azh tab) (HR : Afg tab) (V : Aek tab) (H : Has tab) (V9 : Acl tab) (HM : Agr tab)
include hT HT V H V9 HM
theorem A0n {h : Aac} {b bm : Nat} {E : List En} {uy um : Option Nat} {was full : Int} {rp : Value} {i : Nat} {m : PM} (t : TyF h b E uy 0 i was full rp) (mm : Aa9 h bm um m) (f : m.fine) (dis : ∀ j, cl b uy j -> ¬ cl bm um j) (hi : i < E.length) {a : Nat} (a1 : 1 <= a) (a2 : a <= 65536) (ha : E[i].2.2 = (a : Int) * 8 + 3) :
  ∃ h', Aa0 P 21 [(pp b), (pp bm)] h (.bool false) h' /\ TyF h' b E uy 1 i (m.get ((a : Int) + 3)) full rp /\ Aa9 h' bm um (m.add ((a : Int) + 3) 1).2 /\ Aad h h' (TyS b uy bm um) := by
 suffices q : Aah P 21 [(pp b), (pp bm)] h (fun v h' => v = .bool false /\ TyF h' b E uy 1 i (m.get ((a : Int) + 3)) full rp /\ Aa9 h' bm um (m.add ((a : Int) + 3) 1).2 /\ Aad h h' (TyS b uy bm um)) by
  obtain ⟨v, h', F, rfl, x⟩ := q
  exact ⟨h', F, x⟩
 refine Aaa hT HT.tstep rfl ?_
 have w3 : Aan .i64 ((a : Int) + 3) = (a : Int) + 3 := by rw [Aat] <;> omega
 obtain ⟨_, h0, F1, rfl, e01⟩ := As4 hT HT V H t hi a1 a2 ha
 rw [e01] at F1
 obtain ⟨_, h1, F2, rfl, m1, s1⟩ := Akq hT V9 HM mm f ((a : Int) + 3) 1 (by omega)
 have t1 := t.same s1 (fun j hj => dis j hj)
 obtain ⟨sl0, rc0, _⟩ := t.ex
 obtain ⟨sl, rc, row⟩ := t1.ex
 have s2 : Aad h1 (h1.setR b (tyL 1 sl i (m.get ((a : Int) + 3)) full rp)) (· = b) := Aad.setR rfl
 have m3 := m1.same s2 (fun j hj e => dis j (.inl e) hj)
 have sF : Aad h (h1.setR b (tyL 1 sl i (m.get ((a : Int) + 3)) full rp)) (TyS b uy bm um) := (s1.mono (T := TyS b uy bm um) (fun j e => .inr e)).trans s2 (fun j _ e => .inl (.inl e))
 have t3 : TyF (h1.setR b (tyL 1 sl i (m.get ((a : Int) + 3)) full rp)) b E uy 1 i (m.get ((a : Int) + 3)) full rp := ⟨⟨sl, Rcd.set _ rc.lt, row.same s2 (fun y hy e => t.ub (by rw [hy, e]))⟩, t.ub, fun y hy => by have := t1.ul y hy; exact this, t.sc⟩
 obtain ⟨_, h4, F4, rfl, e4⟩ := Aig hT HT t3
 rw [e4] at F4
 have F4' : Aa0 P 20 [(pp b)] (h1.setR b (tyL 1 sl i (m.get ((a : Int) + 3)) full rp)) (.bool false) (h1.setR b (tyL 1 sl i (m.get ((a : Int) + 3)) full rp)) := F4
 have rq := rc0.rd
 have rw1 := rc.wr
 simp only [tyL] at rq rw1 F4' t3 m3 sF
 simp only [SV, SS, seval, af21, rq]
 refine ⟨_, _, F1, ?_⟩
 simp only [SV, SS, seval, w3]
 refine ⟨_, _, F2, ?_⟩
 simp only [SV, SS, seval, PM.add, rw1, Abm]
 refine ⟨_, _, F4', ?_⟩
 simp only [SV, SS, seval]
 rw [Aab h _ sF.marks]
 exact ⟨t3, m3, sF⟩
def A2n (full : Int) (i : Nat) (was lim : Int) : Int := if full < 0 /\ lim - 1 <= was then (i : Int) else full
include HR in
theorem A1o {h : Aac} {b bm : Nat} {E : List En} {uy um : Option Nat} {was full : Int} {rp : Value} {i : Nat} {m : PM} (t : TyF h b E uy 1 i was full rp) (mm : Aa9 h bm um m) (f : m.fine) (dis : ∀ j, cl b uy j -> ¬ cl bm um j) (hi : i < E.length) (hl : E.length < 10000) (hfu : full < 0 \/ ∃ k : Nat, full = k /\ k < E.length) {a : Nat} (a1 : 1 <= a) (a2 : a <= 65536) (ha : E[i].2.2 = (a : Int) * 8 + 3)
  (hz : 0 <= m.get ((a : Int) + 1) /\ m.get ((a : Int) + 1) <= 16384) :
  ∃ h' full', full' = A2n full i was (Aj2 (m.get ((a : Int) + 1))) /\ Aa0 P 21 [(pp b), (pp bm)] h (.bool (decide (E.length <= i + 1 /\ full' < 0))) h' /\ Azi h h' b E uy i was full' rp /\ Aa9 h' bm um (m.tick ((a : Int) + 1)) /\ Aad h h' (TyS b uy bm um) := by
 obtain ⟨full', hF⟩ : ∃ x, x = A2n full i was (Aj2 (m.get ((a : Int) + 1))) := ⟨_, rfl⟩
 suffices q : Aah P 21 [(pp b), (pp bm)] h (fun v h' => v = .bool (decide (E.length <= i + 1 /\ full' < 0)) /\ Azi h h' b E uy i was full' rp /\ Aa9 h' bm um (m.tick ((a : Int) + 1)) /\ Aad h h' (TyS b uy bm um)) by
  obtain ⟨v, h', F, rfl, x⟩ := q
  exact ⟨h', full', hF, F, x⟩
 refine Aaa hT HT.tstep rfl ?_
 have w1 : Aan .i64 ((a : Int) + 1) = (a : Int) + 1 := by rw [Aat] <;> omega
 obtain ⟨_, h0, F1, rfl, e01⟩ := As4 hT HT V H t hi a1 a2 ha
 rw [e01] at F1
 obtain ⟨_, h1, F2, rfl, m1, s1⟩ := Abn hT V9 HM mm f ((a : Int) + 1) (by omega)
 have F2' : Aa0 P 73 [(pp bm), I ((a : Int) + 1)] h (I (m.get ((a : Int) + 1))) h1 := F2
 have t1 := t.same s1 (fun j hj e => dis j hj (.inl e))
 obtain ⟨_, h2, F3, rfl, e2⟩ := Ajf hT V h1 (m.get ((a : Int) + 1)) (by omega) (by omega)
 rw [e2] at F3
 have lz : Aj2 (m.get ((a : Int) + 1)) = m.get ((a : Int) + 1) / 4 + 2 := if_pos hz
 have wl : Aan .i64 (Aj2 (m.get ((a : Int) + 1)) - 1) = Aj2 (m.get ((a : Int) + 1)) - 1 := by rw [lz, Aat] <;> omega
 obtain ⟨sl0, rc0, _⟩ := t.ex
 obtain ⟨sl, rc, row⟩ := t1.ex
 have rq := rc0.rd
 have rest : ∀ hc : Aac, Aad h1 hc (· = b) -> TyF hc b E uy 1 i was full' rp -> ∃ h4, ∃ v4, Aa0 P 74 [(pp b)] hc v4 h4 /\ Aa0 P 20 [(pp b)] h4 (.bool (decide (E.length <= i + 1 /\ full' < 0))) h4 /\ Azi h h4 b E uy i was full' rp /\ Aa9 h4 bm um (m.tick ((a : Int) + 1)) /\ Aad h h4 (TyS b uy bm um) := by
  intro hc sc tc
  have hfu' : full' < 0 \/ ∃ k : Nat, full' = k /\ k < E.length := by
   rw [hF]; unfold A2n
   split
   ·exact .inr ⟨i, rfl, hi⟩
   ·exact hfu
  obtain ⟨v4, h4, F4, n4, s4⟩ := A5v hT HT HR tc hi hl hfu'
  have x1 := s1.next
  have xc := sc.next
  have sF : Aad h h4 (TyS b uy bm um) := ((s1.mono (T := TyS b uy bm um) (fun j e => .inr (.inl e))).trans sc (fun j _ e => .inl (.inl e))).trans s4 (fun j _ e => .inl (.inl e))
  have m4 := Aa9.same (Aa9.same m1 sc (fun j hj e => dis j (.inl e) hj)) s4 (fun j hj e => dis j (.inl e) hj)
  refine ⟨h4, v4, F4, ?_, ?_, m4, sF⟩
  ·unfold Azi at n4
   by_cases hn : i + 1 < E.length
   ·rw [if_pos hn] at n4
    obtain ⟨_, _, F5, rfl, e5⟩ := Aig hT HT n4
    rw [e5] at F5
    have : decide (E.length <= i + 1 /\ full' < 0) = false := by simp; omega
    rw [this]; exact F5
   ·rw [if_neg hn] at n4
    by_cases hf : full' < 0
    ·rw [if_pos hf] at n4
     obtain ⟨_, _, F5, rfl, e5⟩ := Aig hT HT n4
     rw [e5] at F5
     have : decide (E.length <= i + 1 /\ full' < 0) = true := by simp; omega
     rw [this]; exact F5
    ·rw [if_neg hf] at n4
     obtain ⟨br, k, _, n5, _⟩ := n4
     obtain ⟨_, _, F5, rfl, e5⟩ := Aig hT HT n5
     rw [e5] at F5
     have : decide (E.length <= i + 1 /\ full' < 0) = false := by simp; omega
     rw [this]; exact F5
  ·unfold Azi at n4 ⊢
   split
   ·rename_i hn; rw [if_pos hn] at n4; exact n4
   ·rename_i hn; rw [if_neg hn] at n4
    split
    ·rename_i hf; rw [if_pos hf] at n4; exact n4
    ·rename_i hf; rw [if_neg hf] at n4
     obtain ⟨br, k, q1, q2, q3, q4⟩ := n4
     exact ⟨br, k, q1, q2, by omega, q4⟩
 by_cases hfn : full < 0
 ·have c1 : (full < 0) = True := by simp [hfn]
  by_cases hw : Aj2 (m.get ((a : Int) + 1)) - 1 <= was
  ·have c2 : (was >= Aj2 (m.get ((a : Int) + 1)) - 1) = True := by simp; omega
   have eF : full' = i := by rw [hF]; exact if_pos ⟨hfn, hw⟩
   have sc : Aad h1 (h1.setR b (tyL 1 sl i was i rp)) (· = b) := Aad.setR rfl
   have tc : TyF (h1.setR b (tyL 1 sl i was i rp)) b E uy 1 i was full' rp := by
    rw [eF]
    exact ⟨⟨sl, Rcd.set _ rc.lt, row.same sc (fun y hy e => t.ub (by rw [hy, e]))⟩, t.ub, fun y hy => by have := t1.ul y hy; exact this, t.sc⟩
   obtain ⟨h4, v4, F4, F5, n4, m4, sF⟩ := rest _ sc tc
   have rq1 := rc.rd
   have rw1 := rc.wr
   simp only [tyL] at rq rq1 rw1 F4
   simp only [SV, SS, seval, af21, rq]
   refine ⟨_, _, F1, ?_⟩
   simp only [SV, SS, seval, w1]
   refine ⟨_, _, F2', ?_⟩
   simp only [SV, SS, seval]
   refine ⟨_, _, F3, ?_⟩
   simp only [SV, SS, seval, rq1, c1, wl, c2, rw1]
   refine ⟨_, _, F4, ?_⟩
   simp only [SV, SS, seval]
   refine ⟨_, _, F5, ?_⟩
   simp only [SV, SS, seval]
   rw [Aab h h4 sF.marks]
   exact ⟨n4, m4, sF⟩
  ·have c2 : (was >= Aj2 (m.get ((a : Int) + 1)) - 1) = False := by simp; omega
   have eF : full' = full := by rw [hF]; exact if_neg (fun e => hw e.2)
   obtain ⟨h4, v4, F4, F5, n4, m4, sF⟩ := rest h1 (Aad.refl _ _) (by rw [eF]; exact t1)
   have rq1 := rc.rd
   simp only [tyL] at rq rq1
   simp only [SV, SS, seval, af21, rq]
   refine ⟨_, _, F1, ?_⟩
   simp only [SV, SS, seval, w1]
   refine ⟨_, _, F2', ?_⟩
   simp only [SV, SS, seval]
   refine ⟨_, _, F3, ?_⟩
   simp only [SV, SS, seval, rq1, c1, wl, c2]
   refine ⟨_, _, F4, ?_⟩
   simp only [SV, SS, seval]
   refine ⟨_, _, F5, ?_⟩
   simp only [SV, SS, seval]
   rw [Aab h h4 sF.marks]
   exact ⟨n4, m4, sF⟩
 ·have c1 : (full < 0) = False := by simp; omega
  have eF : full' = full := by rw [hF]; exact if_neg (fun e => hfn e.1)
  obtain ⟨h4, v4, F4, F5, n4, m4, sF⟩ := rest h1 (Aad.refl _ _) (by rw [eF]; exact t1)
  have rq1 := rc.rd
  simp only [tyL] at rq rq1
  simp only [SV, SS, seval, af21, rq]
  refine ⟨_, _, F1, ?_⟩
  simp only [SV, SS, seval, w1]
  refine ⟨_, _, F2', ?_⟩
  simp only [SV, SS, seval]
  refine ⟨_, _, F3, ?_⟩
  simp only [SV, SS, seval, rq1, c1]
  refine ⟨_, _, F4, ?_⟩
  simp only [SV, SS, seval]
  refine ⟨_, _, F5, ?_⟩
  simp only [SV, SS, seval]
  rw [Aab h h4 sF.marks]
  exact ⟨n4, m4, sF⟩
omit V H V9 HM in
theorem Auc {h h' : Aac} {b br bm : Nat} {E : List En} {uy : Option Nat} {was full : Int} {i : Nat} {S : Nat -> Prop} (t : TyF h b E uy 2 i was full (pp br)) (F : Aa0 P 75 [(pp br), (pp bm)] h (.bool false) h') (s : Aad h h' S) (hb : ∀ j, cl b uy j -> ¬ S j) :
  Aa0 P 21 [(pp b), (pp bm)] h (.bool false) h' := by
 suffices q : Aah P 21 [(pp b), (pp bm)] h (fun v k => v = .bool false /\ k = h') by
  obtain ⟨v, k, F', rfl, rfl⟩ := q
  exact F'
 refine Aaa hT HT.tstep rfl ?_
 have t1 := t.same s hb
 obtain ⟨_, _, F4, rfl, e4⟩ := Aig hT HT t1
 rw [e4] at F4
 have F4' : Aa0 P 20 [(pp b)] h' (.bool false) h' := F4
 obtain ⟨sl, rc, _⟩ := t.ex
 have rq := rc.rd
 simp only [tyL] at rq
 simp only [SV, SS, seval, af21, rq]
 refine ⟨_, _, F, ?_⟩
 simp only [SV, SS, seval]
 refine ⟨_, _, F4', ?_⟩
 simp only [SV, SS, seval]
 rw [Aab h h' s.marks]
omit V H V9 HM in
theorem Ap4 {h h' : Aac} {b br bm : Nat} {E : List En} {uy : Option Nat} {was full : Int} {i : Nat} {S : Nat -> Prop} (t : TyF h b E uy 2 i was full (pp br)) (F : Aa0 P 75 [(pp br), (pp bm)] h (.bool true) h') (s : Aad h h' S) (hb : ∀ j, cl b uy j -> ¬ S j) :
  ∃ h2, Aa0 P 21 [(pp b), (pp bm)] h (.bool true) h2 /\ TyF h2 b E uy 3 i was full (pp br) /\ Aad h' h2 (· = b) := by
 have t1 := t.same s hb
 obtain ⟨sl, rc, row⟩ := t1.ex
 have s2 : Aad h' (h'.setR b (tyL 3 sl i was full (pp br))) (· = b) := Aad.setR rfl
 have t2 : TyF (h'.setR b (tyL 3 sl i was full (pp br))) b E uy 3 i was full (pp br) := ⟨⟨sl, Rcd.set _ rc.lt, row.same s2 (fun y hy e => t.ub (by rw [hy, e]))⟩, t.ub, fun y hy => by have := t1.ul y hy; exact this, t.sc⟩
 refine ⟨_, ?_, t2, s2⟩
 suffices q : Aah P 21 [(pp b), (pp bm)] h (fun v k => v = .bool true /\ k = h'.setR b (tyL 3 sl i was full (pp br))) by
  obtain ⟨v, k, F', rfl, rfl⟩ := q
  exact F'
 refine Aaa hT HT.tstep rfl ?_
 obtain ⟨_, _, F4, rfl, e4⟩ := Aig hT HT t2
 rw [e4] at F4
 have F4' : Aa0 P 20 [(pp b)] (h'.setR b (tyL 3 sl i was full (pp br))) (.bool true) (h'.setR b (tyL 3 sl i was full (pp br))) := F4
 obtain ⟨sl0, rc0, _⟩ := t.ex
 have rq := rc0.rd
 have rw1 := rc.wr
 have sm := s.marks
 simp only [tyL] at rq rw1 F4'
 simp only [SV, SS, seval, af21, rq]
 refine ⟨_, _, F, ?_⟩
 simp only [SV, SS, seval, rw1]
 refine ⟨_, _, F4', ?_⟩
 simp only [SV, SS, seval]
 exact Aab h _ (s2.marks.trans sm)
end
theorem Avt : ∀ (t : Tr) (l : List Pr), t.fits l -> t.adrs.length = Abr l.length := by
 intro t
 induction t using Tr.ind with
 | e a => intro l h; cases h; rw [List.length_nil, Aot]; rfl
 | l a k v => intro l h; cases h; rw [List.length_singleton, Awl]; rfl
 | i a sz sh ch sm ks cs ih =>
  intro l h
  obtain ⟨⟨h2, h120⟩, _, _, hd, hf⟩ := h
  have pn := Acz h2 h120
  have d2 := pn.deg2
  have key : ∀ i, i <= cs.length -> (Aar (cs.take i)).length = A0u (fun i => Abr (Abu l.length i)) i := by
   intro i
   induction i with
   | zero => intro _; simp [Aar, A0u]
   | succ i ihi =>
    intro hi
    have e := ih cs[i] (List.getElem_mem _) _ (Adz hf i hi)
    rw [Nat.zero_add, Abv h2 h120 (by omega)] at e
    rw [Aea cs (by omega), Ab4, List.length_append, ihi (by omega)]
    simp only [Aar, List.append_nil, A0u, e]
  have e := key cs.length (Nat.le_refl _)
  rw [List.take_length, hd] at e
  show (List.range' a (2 * cs.length + 4) ++ Aar cs).length = _
  rw [List.length_append, List.length_range', e, pn.cells, hd]
  omega
theorem A1h {C C' : List Int} {a : Nat} {sz sh ch ch' sm : Int} {ks : List Int} {cs : List Tr} (hok : (Tr.inner a sz sh ch sm ks cs).ok C) (hnd : (Tr.inner a sz sh ch sm ks cs).adrs.Nodup) (hl : C.length <= C'.length) (hg : ∀ y, y ∈ (Tr.inner a sz sh ch sm ks cs).adrs -> y ≠ a + 3 -> at0 C' y = at0 C y) (hv : at0 C' (a + 3) = ch') : (Tr.inner a sz sh ch' sm ks cs).ok C' := by
 obtain ⟨⟨q1, q2, q3, q4⟩, ⟨p0, p1, p2, p3, p4⟩, hsh, hsz, hks, hcs, hoks⟩ := hok
 have hin : ∀ y, a <= y -> y < a + (2 * cs.length + 4) -> y ∈ (Tr.inner a sz sh ch sm ks cs).adrs := fun y h1 h2 => by
  simp only [Tr.adrs, List.mem_append, List.mem_range'_1]; exact .inl ⟨h1, h2⟩
 have hnd' := hnd
 simp only [Tr.adrs, List.nodup_append] at hnd'
 have g : ∀ k, k < 2 * cs.length + 4 -> k ≠ 3 -> at0 C' (a + k) = at0 C (a + k) := fun k h1 h2 => hg _ (hin _ (by omega) (by omega)) (by omega)
 refine ⟨⟨q1, by omega, q3, q4⟩, ⟨by rw [<- p0]; exact g 0 (by omega) (by omega), by rw [<- p1]; exact g 1 (by omega) (by omega), by rw [<- p2]; exact g 2 (by omega) (by omega), hv, by rw [<- p4]; exact g 4 (by omega) (by omega)⟩, hsh, hsz, fun i hi => by rw [<- hks i hi, show a + 5 + i = a + (5 + i) by omega]; exact g _ (by omega) (by omega), fun i hi => by rw [<- hcs i hi, show a + 4 + cs.length + i = a + (4 + cs.length + i) by omega]; exact g _ (by omega) (by omega), ?_⟩
 refine An6 (fun i hi => Adl hl _ (fun y hy => hg y ?_ (fun e => ?_)) (Ad9 hoks i hi))
 ·simp only [Tr.adrs, List.mem_append]; exact .inr (Aeo hi hy)
 ·exact hnd'.2.2 (a + 3) (List.mem_range'_1.2 ⟨by omega, by omega⟩) (a + 3) (by rw [<- e]; exact Aeo hi hy) rfl
theorem A1q {t : Tr} {l : List Pr} (h : t.fits l) (hl : l.length <= 120) : t.deep <= 100 := by
 rw [Ayp t l h]
 have := As1
 simp only [Bool.and_eq_true] at this
 exact Nat.le_of_ble_eq_true (List.all_eq_true.1 this.2 _ (List.mem_range.2 (by omega)))
structure TI (l : List Pr) (a : Nat) (ks : List Int) (cs : List Tr) (i : Nat) (m : PM) : Prop where
 f : m.fine
 z : m.z = 9000
 o : m.o = 0
 len : 7 <= m.C.length
 base : at0 m.C 1 = 1 /\ at0 m.C 3 = 0
 root : at0 m.C 6 = (a : Int) * 8 + 3
 fits : (Tr.inner a (l.length : Nat) 0 0 0 ks cs).fits l
 ok : (Tr.inner a (l.length : Nat) 0 i 0 ks cs).ok m.C
 adr : ∀ y ∈ (Tr.inner a (l.length : Nat) 0 0 0 ks cs).adrs, 8 <= y /\ y <= m.C.length
 nodup : (Tr.inner a (l.length : Nat) 0 0 0 ks cs).adrs.Nodup
section
variable (hT : Aa2 P tab) (HT : Azh tab) (HR : Afg tab) (HRw : tab 162 = some af162) (HP : Aji tab) (Nu : Num P) (HS : Af8 tab) (HKM : Aiw tab) (HMk : Ajl tab) (HK : Afp tab) (HG : Aff tab) (G : An4 tab) (V : Aek tab) (H : Has tab) (V9 : Acl tab) (HM : Agr tab)
include hT HT HR HRw HP Nu HS HKM HMk HK HG G V H V9 HM
theorem Ay3 {l : List Pr} (asc : Asc l) {a : Nat} {ks : List Int} {cs : List Tr} {i : Nat} {h : Aac} {b bm : Nat} {uy um : Option Nat} {m : PM} (T : TI l a ks cs i m) (hc : m.c < 300000000) (hroom : m.C.length + 1200 < 9000) (t : TyF h b [(1, 6, (a : Int) * 8 + 3)] uy 0 0 0 (-1) (.pointer none)) (mm : Aa9 h bm um m) (dis : ∀ j, cl b uy j -> ¬ cl bm um j) (hi : i < 10000) (hil : (i : Int) + 1 <= Aj2 (l.length : Nat)) :
  ∃ h' um' m', Adk P 21 [(pp b), (pp bm)] (fun j => cl b uy j \/ cl bm um j \/ h.next <= j) 70000 h h' true /\ (∃ E i' was full rp, TyF h' b E uy 3 i' was full rp) /\ Aa9 h' bm um' m' /\ (∀ y, um' = some y -> um = some y \/ h.next <= y) /\ (m.c <= m'.c /\ m'.c <= m.c + 70000) /\
  ((i : Int) + 1 < Aj2 (l.length : Nat) -> TI l a ks cs (i + 1) m' /\ m'.C.length = m.C.length) /\ ((i : Int) + 1 = Aj2 (l.length : Nat) -> ∃ a' ks' cs', TI l a' ks' cs' 0 m' /\ a' ≠ a /\ at0 m'.C (a + 2) = 1 /\ m'.C.length <= m.C.length + 1115) := by
 have f := T.f
 have fz := f.z1
 have fc := f.c
 have hlt := t.lt
 have hml := mm.lt
 obtain ⟨⟨h2, h120⟩, _, _, hd, hf⟩ := T.fits
 have pn := Acz h2 h120
 have hmost := pn.most
 have hcl := Avt _ _ T.fits
 have hadl : (Tr.inner a (l.length : Nat) 0 0 0 ks cs).adrs.length = 2 * cs.length + 4 + (Aar cs).length := by simp [Tr.adrs]
 have hok := T.ok
 obtain ⟨⟨q1, q2, q3, q4⟩, ⟨p0, p1, p2, p3, p4⟩, _⟩ := hok
 have hdp := A1q T.fits h120
 have hdp' : 1 + Aej cs <= 100 := hdp
 have hin : ∀ y, a <= y -> y < a + (2 * cs.length + 4) -> y ∈ (Tr.inner a (l.length : Nat) 0 0 0 ks cs).adrs := fun y h1 h2 => by
  simp only [Tr.adrs, List.mem_append, List.mem_range'_1]; exact .inl ⟨h1, h2⟩
 have ha8 := T.adr a (hin a (by omega) (by omega))
 obtain ⟨h1, F1, t1, m1, s1⟩ := A0n hT HT V H V9 HM t mm f dis (by simp) (a := a) q1 (by omega) rfl
 rw [show ((a : Int) + 3) = ((a + 3 : Nat) : Int) by omega, PM.get_at0, p3] at t1
 have em : (m.add ((a : Int) + 3) 1).2 = m.write ((a + 3 : Nat) : Int) ((i + 1 : Nat) : Int) := by
  unfold PM.add
  rw [show ((a : Int) + 3) = ((a + 3 : Nat) : Int) by omega, PM.get_at0, p3, show Aan .i64 ((i : Int) + 1) = ((i + 1 : Nat) : Int) by rw [Aat] <;> omega]
 rw [em] at m1
 obtain ⟨P1, v1⟩ := Ab5 (m := m) (y := a + 3) (x := ((i + 1 : Nat) : Int)) (· = a + 3) (by omega) (by omega) rfl
 have f1 := P1.fine f (by omega)
 generalize m.write ((a + 3 : Nat) : Int) ((i + 1 : Nat) : Int) = M1 at m1 P1 v1 f1
 have ok1 : (Tr.inner a (l.length : Nat) 0 ((i + 1 : Nat) : Int) 0 ks cs).ok M1.C := A1h T.ok T.nodup (by rw [P1.len]; exact Nat.le_refl _) (fun y _ hy => P1.get y hy) v1
 have hsz : M1.get ((a : Int) + 1) = (l.length : Nat) := by rw [show ((a : Int) + 1) = ((a + 1 : Nat) : Int) by omega, PM.get_at0, P1.get _ (by omega), p1]
 obtain ⟨h2', full', hfull, F2, n2, m2, s2⟩ := A1o hT HT HR V H V9 HM t1 m1 f1 dis (by simp) (by simp) (.inl (by omega)) (a := a) q1 (by omega) rfl (by rw [hsz]; omega)
 rw [hsz] at hfull
 have T2 := Adm (m := M1) (y := (a : Int) + 1) (by omega) (by rw [P1.len]; omega)
 have f2 := T2.fine f1 (by have := P1.c1; omega)
 generalize M1.tick ((a : Int) + 1) = M2 at m2 T2 f2
 have c1 := P1.c0; have c1' := P1.c1; have c2 := T2.c0; have c2' := T2.c1
 have hl2 : M2.C.length = m.C.length := by rw [T2.C, P1.len]
 have x1 := s1.next
 have x2 := s2.next
 have hS : ∀ j, TyS b uy bm um j -> (cl b uy j \/ cl bm um j \/ h.next <= j) := fun j e => e.elim .inl (fun e => .inr (.inl e))
 have g2 : ∀ y, y ≠ a + 3 -> at0 M2.C y = at0 m.C y := fun y hy => by rw [T2.C, P1.get y hy]
 unfold Azi at n2
 rw [if_neg (by simp)] at n2
 by_cases hlim : (i : Int) + 1 < Aj2 (l.length : Nat)
 ·have e : full' = -1 := by rw [hfull]; exact if_neg (fun e => by have := e.2; omega)
  subst e
  rw [if_pos (by omega)] at n2
  have F2' : Aa0 P 21 [(pp b), (pp bm)] h1 (.bool true) h2' := F2
  refine ⟨h2', um, M2, ⟨h1, 1, by omega, .one F1 (s1.mono hS), F2', s2.mono hS⟩, ⟨_, _, _, _, _, n2⟩, m2, fun y hy => .inl hy, ⟨by omega, by omega⟩, fun _ => ⟨⟨f2, by rw [T2.z, P1.z, T.z], by rw [T2.o, P1.o, T.o], by rw [hl2]; exact T.len, ⟨by rw [g2 1 (by omega)]; exact T.base.1, by rw [g2 3 (by omega)]; exact T.base.2⟩, by rw [g2 6 (by omega)]; exact T.root, T.fits, by rw [T2.C]; exact ok1, fun y hy => by rw [hl2]; exact T.adr y hy, T.nodup⟩, hl2⟩, fun e => by omega⟩
 ·have e : full' = (0 : Nat) := by rw [hfull]; exact if_pos ⟨by omega, by omega⟩
  subst e
  rw [if_neg (by omega)] at n2
  obtain ⟨br, k, hk, t2, hbr, hk1, rb⟩ := n2
  have hk0 : k = 0 := by simpa using hk1
  subst hk0
  have F2' : Aa0 P 21 [(pp b), (pp bm)] h1 (.bool false) h2' := F2
  have hbm : ¬ cl bm um br := fun e => by have := hml br e; omega
  have hold : (Tr.inner a (l.length : Nat) 0 ((i + 1 : Nat) : Int) 0 ks cs).old /\ (Tr.inner a (l.length : Nat) 0 ((i + 1 : Nat) : Int) 0 ks cs).content = l := ⟨(A1l _ _ T.fits : (Tr.inner a (l.length : Nat) 0 0 0 ks cs).old), (Aeh _ _ T.fits : (Tr.inner a (l.length : Nat) 0 0 0 ks cs).content = l)⟩
  have hn3 : (1 : Nat) + 2 ∉ (Tr.inner a (l.length : Nat) 0 0 0 ks cs).adrs := fun e => by have := T.adr _ e; omega
  have hn6 : (6 : Nat) ∉ (Tr.inner a (l.length : Nat) 0 0 0 ks cs).adrs := fun e => by have := T.adr _ e; omega
  obtain ⟨h3, um3, M3, TT, L, run3, r3, L3, m3, n3, ⟨z3, o3, r3', l3, c3, c3'⟩, a3, v3, t3, t4, t5, t6, t7⟩ := Axq (e0 := 1) (e1 := 6) hT HR HRw HP Nu HS HKM HMk HK HG G V H V9 HM hold h2 h120 (by omega) asc T.nodup rb m2 f2 hbm (by rw [T2.C]; exact ok1) rfl (by rw [show (Tr.inner a (l.length : Nat) 0 ((i + 1 : Nat) : Int) 0 ks cs).adrs.length = Abr l.length from hcl]; omega) (fun y hy => by have := T.adr y hy; rw [hl2]; omega) (by rw [hl2]; have := T.len; omega) (by omega) (by rw [hl2]; have := T.len; omega) (by omega) hn3 hn6 (by rw [g2 _ (by omega)]; exact T.base.2) (by rw [g2 6 (by omega)]; exact T.root) (by rw [hl2, T2.z, P1.z, T.z]; omega)
  rw [show (Tr.inner a (l.length : Nat) 0 ((i + 1 : Nat) : Int) 0 ks cs).adrs.length = Abr l.length from hcl] at c3' run3
  obtain ⟨hL, k3, hk3, ch3, F3, s3⟩ := run3
  have hb3 : ∀ j, cl b uy j -> ¬ (j = br \/ cl bm um j \/ h2'.next <= j) := fun j hj e => by
   have h1 := t2.lt j hj
   have h2 := hlt j hj
   rcases e with e | e | e
   ·omega
   ·exact dis j hj e
   ·omega
  obtain ⟨ch3', tL⟩ := Aca.lift (fun q => TyF q b [(1, 6, (a : Int) * 8 + 3)] uy 2 1 (i : Int) ((0 : Nat) : Int) (pp br)) ch3 t2 (fun q q' a s => a.same s hb3) (fun q q' a F s => Auc hT HT a F s hb3)
  obtain ⟨h4, F4, t4', s4⟩ := Ap4 hT HT tL F3 s3 hb3
  have x3 := (ch3.same.trans s3 (fun _ _ x => x)).next
  have m4 := m3.same s4 (fun j hj e => by
   subst e
   rcases hj with hj | hj
   ·exact dis _ (.inl rfl) (.inl hj)
   ·rcases n3 _ hj with e | e
    ·exact dis _ (.inl rfl) (.inr e)
    ·have := hlt _ (.inl rfl : cl j uy j); omega)
  have hS3 : ∀ j, (j = br \/ cl bm um j \/ h2'.next <= j) -> (cl b uy j \/ cl bm um j \/ h.next <= j) := fun j e => by
   rcases e with e | e | e
   ·exact .inr (.inr (by omega))
   ·exact .inr (.inl e)
   ·exact .inr (.inr (by omega))
  have hd2 := pn.deg2
  obtain ⟨a', ks', cs', hTT⟩ : ∃ a' ks' cs', TT = .inner a' (l.length : Nat) 0 0 0 ks' cs' := by
   cases TT with
   | empty x => exact absurd (show l = [] from t4) (by intro e; rw [e] at h2; simp at h2)
   | leaf x k v => exact absurd (show l = [(k, v)] from t4) (by intro e; rw [e] at h2; simp at h2)
   | inner x sz sh ch sm ks' cs' =>
    obtain ⟨_, ⟨e1, e2, e3, e4⟩, _⟩ := t4
    exact ⟨x, ks', cs', by rw [e1, e2, e3, e4]⟩
  subst hTT
  have hin' : a' ∈ (Tr.inner a' (l.length : Nat) 0 0 0 ks' cs').adrs := by
   simp only [Tr.adrs, List.mem_append, List.mem_range'_1]; exact .inl ⟨by omega, by omega⟩
  have ha' := t5 a' hin'
  have hsh : (Tr.inner a (l.length : Nat) 1 ((i + 1 : Nat) : Int) ((Aaf cs).length + 1 : Nat) ks (Ad6 cs)).ok M3.C := t7
  have f3 : M3.fine := ⟨by rw [z3]; exact f2.z0, by rw [z3]; exact f2.z1, by rw [z3, T2.z, P1.z, T.z]; omega, ⟨by omega, by omega⟩, by rw [o3]; exact f2.o, by rw [r3']; exact f2.r⟩
  refine ⟨h4, um3, M3, ((Aca.cons F1 (s1.mono hS) (.cons F2' (s2.mono hS) (.nil _))).app (ch3'.mono hS3)).to (Adk.one F4 ((s3.mono hS3).trans s4 (fun j _ e => .inl (.inl e)))) |>.le (by omega), ⟨_, _, _, _, _, t4'⟩, m4, fun y hy => ?_, ⟨by omega, by omega⟩, fun e => by omega, fun _ => ⟨a', ks', cs', ⟨f3, by rw [z3, T2.z, P1.z, T.z], by rw [o3, T2.o, P1.o, T.o], by omega, ⟨?_, ?_⟩, v3, t4, t3, fun y hy => ?_, t6⟩, by omega, hsh.2.1.2.2.1, by omega⟩⟩
  ·rcases n3 y hy with e | e
   ·exact .inl e
   ·exact .inr (by omega)
  ·rw [a3 1 (by omega) (fun e => by have := T.adr _ e; omega) (by omega), g2 1 (by omega)]; exact T.base.1
  ·rw [a3 3 (by omega) (fun e => by have := T.adr _ e; omega) (by omega), g2 3 (by omega)]; exact T.base.2
  ·have := t5 y hy; have := T.len; omega
end
structure A5n (tab : Nat -> Option Aae) : Prop where
 trenews : tab 4 = some af4
theorem A6z : A5n tabT.get := ⟨by kernel_rfl⟩
theorem Aqv {C : List Int} {l : List Pr} {t : Tr} (hC : 7 <= C.length /\ C.length <= 65536) (hb : at0 C 1 = 1 /\ at0 C 3 = 0) (hr : at0 C 6 = t.word) (ok : t.ok C) (hf : t.fits l) (hl : l.length <= 120) (ha : Asc l) (hk : ∀ p ∈ l, -1000 <= p.1 /\ p.1 <= 1000) (hadr : ∀ y ∈ t.adrs, 7 <= y /\ y <= C.length) (hnd : t.adrs.Nodup) : Amd C t :=
 ⟨hC, hb, hr, ok, Atn t l _ _ hf ha (fun p hp => by have := hk p hp; omega), Awe _ _ (fun i hi => by have := hadr i hi; exact Apu (by omega) (by omega)) hnd, Ar6 t l hf hl⟩
theorem TI.rooted {l : List Pr} {a : Nat} {ks : List Int} {cs : List Tr} {m : PM} (T : TI l a ks cs 0 m) (ha : Asc l) (hk : ∀ p ∈ l, -1000 <= p.1 /\ p.1 <= 1000) : Amd m.C (Tr.inner a (l.length : Nat) 0 0 0 ks cs) :=
 Aqv ⟨T.len, by have := T.f.len; have := T.f.z1; omega⟩ T.base T.root T.ok T.fits T.fits.1.2 ha hk (fun y hy => by have := T.adr y hy; omega) T.nodup
def trS : Ab2 := (.seq (.seq (.ops [⟨(some 52), .p (.mov (.t 12)), none⟩, ⟨(some 53), .p (.bin .lss false (.t 52) (.c (.int .i64 200000))), none⟩, ⟨(some 54), .p (.mov (.t 53)), none⟩, ⟨(some 55), .p (.mov (.t 11)), some (54, true)⟩, ⟨(some 56), .p (.mov (.t 5)), some (54, true)⟩, ⟨(some 57), .call 21 [(.t 55), (.t 56)], some (54, true)⟩, ⟨(some 58), .p (.not (.t 57)), some (54, true)⟩, ⟨(some 59), .p (.pick (.t 54) (.t 58) (.c (.bool false))), none⟩]) (.cond (.t 59) .skip (.exit 4))) (.seq (.block 5 .skip) (.ops [⟨(some 60), .p (.mov (.t 12)), none⟩, ⟨(some 61), .p (.bin .add false (.t 60) (.c (.int .i64 1))), none⟩, ⟨(some 12), .p (.mov (.t 61)), none⟩])))
def trU : Ab2 := (.ops [⟨(some 46), .p (.mov (.t 10)), none⟩, ⟨(some 47), .p (.bin .add false (.t 46) (.c (.int .i64 1))), none⟩, ⟨(some 10), .p (.mov (.t 47)), none⟩])
def trR : Ab2 := (.seq (.ops [⟨(some 62), .p (.mov (.t 11)), none⟩, ⟨(some 63), .call 20 [(.t 62)], none⟩, ⟨(some 64), .p (.not (.t 63)), none⟩, ⟨(some 65), .p (.mov (.t 64)), none⟩, ⟨(some 66), .p (.mov (.t 5)), some (65, false)⟩, ⟨(some 67), .call 14 [(.t 66), (.c (.int .i64 6))], some (65, false)⟩, ⟨(some 68), .p (.mov (.t 6)), some (65, false)⟩, ⟨(some 69), .p (.bin .neq false (.t 67) (.t 68)), some (65, false)⟩, ⟨(some 70), .p (.mov (.t 10)), some (65, false)⟩, ⟨(some 71), .p (.mov (.t 9)), some (65, false)⟩, ⟨(some 72), .p (.bin .eql false (.t 70) (.t 71)), some (65, false)⟩, ⟨(some 73), .p (.bin .neq true (.t 69) (.t 72)), some (65, false)⟩, ⟨(some 74), .p (.pick (.t 65) (.c (.bool true)) (.t 73)), none⟩, ⟨(some 75), .p (.mov (.t 74)), none⟩, ⟨(some 76), .p (.mov (.t 10)), some (75, false)⟩, ⟨(some 77), .p (.mov (.t 9)), some (75, false)⟩, ⟨(some 78), .p (.bin .lss false (.t 76) (.t 77)), some (75, false)⟩, ⟨(some 79), .p (.mov (.t 78)), some (75, false)⟩, ⟨(some 80), .p (.mov (.t 5)), some (79, true)⟩, ⟨(some 81), .p (.mov (.t 6)), some (79, true)⟩, ⟨(some 82), .call 15 [(.t 81)], some (79, true)⟩, ⟨(some 83), .p (.bin .add false (.t 82) (.c (.int .i64 3))), some (79, true)⟩, ⟨(some 84), .call 14 [(.t 80), (.t 83)], some (79, true)⟩, ⟨(some 85), .p (.mov (.t 10)), some (79, true)⟩, ⟨(some 86), .p (.bin .neq false (.t 84) (.t 85)), some (79, true)⟩, ⟨(some 87), .p (.pick (.t 79) (.t 86) (.c (.bool false))), some (75, false)⟩, ⟨(some 88), .p (.pick (.t 75) (.c (.bool true)) (.t 87)), none⟩]) (.cond (.t 88) (.seq (.ops [⟨(some 4), .p (.mov (.c (.bool false))), none⟩]) .ret) .skip))
def trI : Ab2 := (.seq (.seq (.ops [⟨(some 43), .p (.mov (.t 10)), none⟩, ⟨(some 44), .p (.mov (.t 9)), none⟩, ⟨(some 45), .p (.bin .leq false (.t 43) (.t 44)), none⟩]) (.cond (.t 45) .skip (.exit 2))) (.seq (.block 3 (.seq (.ops [⟨(some 48), .p (.mov (.t 6)), none⟩, ⟨(some 49), .p (.build [(.int .i64 0), (.int .i64 0), (.int .i64 0)] [(0, 1, (.c (.int .i64 1))), (1, 1, (.c (.int .i64 6))), (2, 1, (.t 48))]), none⟩, ⟨(some 50), .e (.buildS 3 1 [(.int .i64 0), (.int .i64 0), (.int .i64 0)] [(0, 3, (.t 49))]), none⟩, ⟨(some 51), .call 19 [(.t 50)], none⟩, ⟨(some 11), .p (.mov (.t 51)), none⟩]) (.seq (.seq (.ops [⟨(some 12), .p (.mov (.c (.int .i64 0))), none⟩]) (.block 4 (.loop trS))) trR))) trU))
def trN : Ab2 := (.ops [⟨(some 33), .p (.mov (.t 8)), none⟩, ⟨(some 34), .p (.bin .add false (.t 33) (.c (.int .i64 1))), none⟩, ⟨(some 8), .p (.mov (.t 34)), none⟩])
def trA : Ab2 := (.seq (.ops [⟨(some 89), .p (.mov (.t 5)), none⟩, ⟨(some 90), .p (.mov (.t 5)), none⟩, ⟨(some 91), .call 14 [(.t 90), (.c (.int .i64 6))], none⟩, ⟨(some 92), .call 26 [(.t 89), (.t 91)], none⟩, ⟨(some 93), .p (.not (.t 92)), none⟩, ⟨(some 94), .p (.mov (.t 93)), none⟩, ⟨(some 95), .p (.mov (.t 5)), some (94, false)⟩, ⟨(some 96), .p (.mov (.t 5)), some (94, false)⟩, ⟨(some 97), .call 14 [(.t 96), (.c (.int .i64 6))], some (94, false)⟩, ⟨(some 98), .call 24 [(.t 95), (.t 97)], some (94, false)⟩, ⟨(some 99), .p (.mov (.t 7)), some (94, false)⟩, ⟨(some 100), .call 27 [(.t 98), (.t 99)], some (94, false)⟩, ⟨(some 101), .p (.not (.t 100)), some (94, false)⟩, ⟨(some 102), .p (.pick (.t 94) (.c (.bool true)) (.t 101)), none⟩, ⟨(some 103), .p (.mov (.t 102)), none⟩, ⟨(some 104), .p (.mov (.t 5)), some (103, false)⟩, ⟨(some 105), .p (.mov (.t 6)), some (103, false)⟩, ⟨(some 106), .call 15 [(.t 105)], some (103, false)⟩, ⟨(some 107), .p (.bin .add false (.t 106) (.c (.int .i64 2))), some (103, false)⟩, ⟨(some 108), .call 14 [(.t 104), (.t 107)], some (103, false)⟩, ⟨(some 109), .p (.bin .neq false (.t 108) (.c (.int .i64 1))), some (103, false)⟩, ⟨(some 110), .p (.pick (.t 103) (.c (.bool true)) (.t 109)), none⟩]) (.cond (.t 110) (.seq (.ops [⟨(some 4), .p (.mov (.c (.bool false))), none⟩]) .ret) .skip))
def trO : Ab2 := (.seq (.seq (.ops [⟨(some 28), .p (.mov (.t 8)), none⟩, ⟨(some 29), .p (.mov (.t 1)), none⟩, ⟨(some 30), .call 17 [(.t 29), (.c (.int .i64 3))], none⟩, ⟨(some 31), .p (.bin .add false (.c (.int .i64 1)) (.t 30)), none⟩, ⟨(some 32), .p (.bin .lss false (.t 28) (.t 31)), none⟩]) (.cond (.t 32) .skip (.exit 0))) (.seq (.block 1 (.seq (.ops [⟨(some 35), .p (.mov (.t 5)), none⟩, ⟨(some 36), .call 14 [(.t 35), (.c (.int .i64 6))], none⟩, ⟨(some 6), .p (.mov (.t 36)), none⟩]) (.seq (.ops [⟨(some 37), .p (.mov (.t 5)), none⟩, ⟨(some 38), .p (.mov (.t 6)), none⟩, ⟨(some 39), .call 15 [(.t 38)], none⟩, ⟨(some 40), .p (.bin .add false (.t 39) (.c (.int .i64 1))), none⟩, ⟨(some 41), .call 14 [(.t 37), (.t 40)], none⟩, ⟨(some 42), .call 25 [(.t 41)], none⟩, ⟨(some 9), .p (.mov (.t 42)), none⟩]) (.seq (.seq (.ops [⟨(some 10), .p (.mov (.c (.int .i64 1))), none⟩]) (.block 2 (.loop trI))) trA)))) trN))
structure A23 (hB : Aac) (bm xm : Nat) (l : List Pr) (rounds : Int) (v7 : Value) (R r : Nat) (ts : T Value) (hh : Aac) : Prop where
 rle : r <= R
 l1 : look ts 1 = I rounds
 l5 : look ts 5 = (pp bm)
 l7 : look ts 7 = v7
 l8 : look ts 8 = I r
 ex : ∃ a ks cs m um, TI l a ks cs 0 m /\ Aa9 hh bm um m /\ (∀ y, um = some y -> y = xm \/ hB.next <= y) /\ m.c <= 2000 + ((r * 20) * 70000 : Nat) /\ m.C.length <= 1200 + r * 1115
 same : Aad hB hh (cl bm (some xm))
structure InI (hB : Aac) (bm xm : Nat) (l : List Pr) (rounds : Int) (v7 : Value) (r a : Nat) (ks : List Int) (cs : List Tr) (i : Nat) (ts : T Value) (hh : Aac) : Prop where
 ile : i <= l.length / 4 + 2
 l1 : look ts 1 = I rounds
 l5 : look ts 5 = (pp bm)
 l6 : look ts 6 = I ((a : Int) * 8 + 3)
 l7 : look ts 7 = v7
 l8 : look ts 8 = I r
 l9 : look ts 9 = I (l.length / 4 + 2 : Nat)
 l10 : look ts 10 = I (i + 1 : Nat)
 ex : ∃ m um, Aa9 hh bm um m /\ (∀ y, um = some y -> y = xm \/ hB.next <= y) /\ m.c <= 2000 + ((r * 20 + i) * 70000 : Nat) /\ (i < l.length / 4 + 2 -> TI l a ks cs i m /\ m.C.length <= 1200 + r * 1115) /\ (i = l.length / 4 + 2 -> ∃ a' ks' cs', TI l a' ks' cs' 0 m /\ at0 m.C (a + 2) = 1 /\ m.C.length <= 1200 + (r + 1) * 1115)
 same : Aad hB hh (cl bm (some xm))
structure StI (P : Program) (f : Nat) (args : List Value) (S : Nat -> Prop) (hE : Aac) (rounds : Int) (bm b : Nat) (w : Int) (v7 : Value) (r : Nat) (lim i : Int) (n : Nat) (ts : T Value) (hh : Aac) : Prop where
 l1 : look ts 1 = I rounds
 l5 : look ts 5 = (pp bm)
 l6 : look ts 6 = I w
 l7 : look ts 7 = v7
 l8 : look ts 8 = I r
 l9 : look ts 9 = I lim
 l10 : look ts 10 = I i
 l11 : look ts 11 = (pp b)
 ex : ∃ c : Nat, look ts 12 = I c /\ c + n < 100000 /\ Aca P f args S hh hE n
theorem A1b {P : Program} {f : Nat -> Prop} {hE hF : Aac} {rounds : Int} {bm b : Nat} {w : Int} {v7 : Value} {r : Nat} {lim i : Int} {n : Nat} {ts : Ai.T Value} {hh : Aac} {Z : Abz -> Ai.T Value -> Aac -> Prop} (st : StI P 21 [(pp b), (pp bm)] f hE rounds bm b w v7 r lim i n ts hh) (FE : Aa0 P 21 [(pp b), (pp bm)] hE (.bool true) hF)
  (post : ∀ ts', look ts' 1 = I rounds -> look ts' 5 = (pp bm) -> look ts' 6 = I w -> look ts' 7 = v7 -> look ts' 8 = I r -> look ts' 9 = I lim -> look ts' 10 = I i -> look ts' 11 = (pp b) -> Z (.exit 4) ts' hF) : CW P 117 none (.loop trS) ts hh Z := by
 refine Acw (fun n ts hh => StI P 21 [(pp b), (pp bm)] f hE rounds bm b w v7 r lim i n ts hh) ?_ st
 clear st
 rintro n ts hn ⟨l1, l5, l6, l7, l8, l9, l10, l11, ⟨cnt, l12, hcn, chn⟩⟩
 have cc : ((cnt : Int) < 200000) = True := by simp; omega
 cases chn with
 | nil =>
  refine Acg ?_
  simp only [SV, SS, seval, trS, l1, l5, l6, l7, l8, l9, l10, l11, l12, cc]
  refine ⟨_, _, FE, ?_⟩
  simp only [SV, SS, seval, l1, l5, l6, l7, l8, l9, l10, l11, l12]
  exact post _ (by simp only [SS, seval, l1]) (by simp only [SS, seval, l5]) (by simp only [SS, seval, l6]) (by simp only [SS, seval, l7]) (by simp only [SS, seval, l8]) (by simp only [SS, seval, l9]) (by simp only [SS, seval, l10]) (by simp only [SS, seval, l11])
 | cons Fc sc chn' =>
  rename_i hc n'
  have wc : Aan .i64 ((cnt : Int) + 1) = ((cnt + 1 : Nat) : Int) := by rw [Aat] <;> omega
  have gs : ∀ ts : Ai.T Value, look ts 1 = I rounds -> look ts 5 = (pp bm) -> look ts 6 = I w -> look ts 7 = v7 -> look ts 8 = I r -> look ts 9 = I lim -> look ts 10 = I i -> look ts 11 = (pp b) -> look ts 12 = I (cnt + 1 : Nat) -> StI P 21 [(pp b), (pp bm)] f hE rounds bm b w v7 r lim i n' ts hc := fun ts b1 b2 b3 b4 b5 b6 b7 b8 b9 =>
   ⟨b1, b2, b3, b4, b5, b6, b7, b8, ⟨cnt + 1, b9, by omega, chn'⟩⟩
  refine Acg ?_
  simp only [SV, SS, seval, trS, l1, l5, l6, l7, l8, l9, l10, l11, l12, cc]
  refine ⟨_, _, Fc, ?_⟩
  simp only [SV, SS, seval, l1, l5, l6, l7, l8, l9, l10, l11, l12, wc]
  exact ⟨n', by omega, gs _ (by simp only [SS, seval, l1]) (by simp only [SS, seval, l5]) (by simp only [SS, seval, l6]) (by simp only [SS, seval, l7]) (by simp only [SS, seval, l8]) (by simp only [SS, seval, l9]) (by simp only [SS, seval, l10]) (by simp only [SS, seval, l11]) (by simp only [SS, seval])⟩
section
variable (hT : Aa2 P tab) (HT : Azh tab) (HR : Afg tab) (HRw : tab 162 = some af162) (HP : Aji tab) (Nu : Num P) (HS : Af8 tab) (HKM : Aiw tab) (HMk : Ajl tab) (HK : Afp tab) (HG : Aff tab) (G : An4 tab) (V : Aek tab) (H : Has tab) (V9 : Acl tab) (HM : Agr tab) (V2 : Anx tab) (V3 : Alx tab) (V4 : At4 tab) (V5 : Alp tab) (V6 : Anp tab) (V8 : Avc tab) (HRl : A1w tab)
include hT HT HR HRw HP Nu HS HKM HMk HK HG G V H V9 HM V2 V3 V4 V5 V6 V8 HRl
set_option maxHeartbeats 1000000 in
theorem A27 {l : List Pr} (asc : Asc l) (hl2 : 2 <= l.length) (hl : l.length <= 60) (hlimN : Aj2 (l.length : Nat) = ((l.length / 4 + 2 : Nat) : Int)) {hB : Aac} {bm xm : Nat} (hbl : bm < hB.next) {rounds : Int} {v4 : Value} {r a' : Nat} (hr3 : r < 3) {ks' : List Int} {cs' : List Tr} {i : Nat} (hi : i < l.length / 4 + 2) {ts : Ai.T Value} {hh : Aac} (g : InI hB bm xm l rounds v4 r a' ks' cs' i ts hh) :
  CW P 117 none trI ts hh fun e ts' h' => e = .normal /\ InI hB bm xm l rounds v4 r a' ks' cs' (i + 1) ts' h' := by
 obtain ⟨ile, l1, l5, l6, l7, l8, l9, l10, ⟨m, um, mm', un, cc, gT, gE⟩, same⟩ := g
 have xh := same.next
 obtain ⟨T, ll⟩ := gT hi
 obtain ⟨⟨p1, p2, p3, p4⟩, _⟩ := T.ok
 have fl := T.f.len
 have fz := T.f.z1
 have hml := mm'.lt
 have ci : (((i + 1 : Nat) : Int) <= ((l.length / 4 + 2 : Nat) : Int)) = True := by simp only [eq_iff_iff, iff_true]; omega
 have ro := Abs.fresh hh [I 1, I 6, I ((a' : Int) * 8 + 3)] 1 3 true false rfl
 have sN : Aad hh (hh.new ⟨[I 1, I 6, I ((a' : Int) * 8 + 3)], 1 * 3, 3, true, false⟩) (fun _ => False) := Aad.new
 have xN : (hh.new ⟨[I 1, I 6, I ((a' : Int) * 8 + 3)], 1 * 3, 3, true, false⟩).next = hh.next + 1 := rfl
 have rw0 : Ac6 (hh.new ⟨[I 1, I 6, I ((a' : Int) * 8 + 3)], 1 * 3, 3, true, false⟩) (.slice (some ⟨hh.next, 0, none⟩) 1 1) 3 [(((1 : Int), (6 : Int), (a' : Int) * 8 + 3) : En)].length (Aht [((1 : Int), (6 : Int), (a' : Int) * 8 + 3)]) (some hh.next) := .inr ⟨hh.next, 0, 1, rfl, rfl, ro⟩
 obtain ⟨vN, h3, FN, b, uy, rfl, ty, hby, s3⟩ := Avl hT HT rw0 (by simp)
 have FN' : Aa0 P 19 [.slice (some ⟨hh.next, 0, none⟩) 1 1] (hh.new ⟨[I 1, I 6, I ((a' : Int) * 8 + 3)], 3, 3, true, false⟩) (pp b) h3 := FN
 rw [if_neg (by simp)] at ty
 have x3 := s3.next
 have m3 := (mm'.same sN (fun _ _ x => x)).same s3 (fun _ _ x => x)
 have dis : ∀ j, cl b uy j -> ¬ cl bm um j := fun j hj e => by have := hby j hj; have := hml j e; omega
 obtain ⟨h4, um4, m4, ⟨hE, k, hk, ch, FE, sE⟩, ⟨E4, i4, was4, full4, rp4, t4⟩, mm4, n4', ⟨c4, c4'⟩, few, full⟩ := Ay3 hT HT HR HRw HP Nu HS HKM HMk HK HG G V H V9 HM asc T (by omega) (by omega) ty.toF m3 dis (by omega) (by rw [hlimN]; omega)
 rw [hlimN] at few full
 have sC := ch.same
 have sNh : Aad hh h4 (fun j => cl b uy j \/ cl bm um j \/ h3.next <= j) := (((sN.trans s3 (fun _ _ x => x)).mono (fun _ x => x.elim)).trans sC (fun _ _ x => x)).trans sE (fun _ _ x => x)
 have same4 : Aad hB h4 (cl bm (some xm)) := same.trans sNh (fun j hj e => by
  rcases e with e | e | e
  ·have := hby j e; omega
  ·rcases e with e | e
   ·exact .inl e
   ·rcases un j e with e | e
    ·exact .inr (by rw [e])
    ·omega
  ·omega)
 have un4 : ∀ y, um4 = some y -> y = xm \/ hB.next <= y := fun y hy => by
  rcases n4' y hy with e | e
  ·exact un y e
  ·exact .inr (by omega)
 obtain ⟨_, _, FD, rfl, eD⟩ := Aig hT HT t4
 rw [eD] at FD
 have FD' : Aa0 P 20 [(pp b)] h4 (.bool true) h4 := FD
 have mmA : Aa3 h4 bm um4 m4.C m4.z m4.c m4.o m4.r := mm4
 have RA : Aa0 P 15 [I ((a' : Int) * 8 + 3)] h4 (I a') h4 := by
  obtain ⟨_, _, F, rfl, e⟩ := Abo hT V H h4 a' 3 p1 (by omega) (by omega) (by omega)
  rw [e] at F
  exact F
 have wi : Aan .i64 (((i + 1 : Nat) : Int) + 1) = ((i + 1 + 1 : Nat) : Int) := by rw [Aat] <;> omega
 have w3 : Aan .i64 ((a' : Int) + 3) = ((a' + 3 : Nat) : Int) := by rw [Aat] <;> omega
 obtain ⟨x6, hx6, nx6, ex6⟩ : ∃ x6 : Int, at0 m4.C 6 = x6 /\ (x6 != (a' : Int) * 8 + 3) = decide (i + 1 = l.length / 4 + 2) /\ True := by
  by_cases e : i + 1 = l.length / 4 + 2
  ·obtain ⟨a2, ks2, cs2, T2, ne, _⟩ := full (by omega)
   exact ⟨_, T2.root, by simp only [e, decide_true, bne_iff_ne, ne_eq]; omega, trivial⟩
  ·obtain ⟨T2, _⟩ := few (by omega)
   exact ⟨_, T2.root, by rw [decide_eq_false e]; simp, trivial⟩
 have A6 : Aa0 P 14 [(pp bm), .int .i64 6] h4 (I x6) h4 := by
  obtain ⟨_, _, F, e, e2⟩ := Ab8 hT V mmA 6 (by omega)
  have e : _ = I (at0 m4.C 6) := e
  rw [hx6] at e
  rw [e, e2] at F
  exact F
 have A3 : Aa0 P 14 [(pp bm), I (a' + 3 : Nat)] h4 (I (at0 m4.C (a' + 3))) h4 := by
  obtain ⟨_, _, F, e, e2⟩ := Ab8 hT V mmA (a' + 3) (by omega)
  have e : _ = I (at0 m4.C (a' + 3)) := e
  rw [e, e2] at F
  exact F
 have b3 : i + 1 < l.length / 4 + 2 -> (at0 m4.C (a' + 3) != ((i + 1 : Nat) : Int)) = false := fun e => by
  obtain ⟨T2, _⟩ := few (by omega)
  have := T2.ok.2.1.2.2.2.1
  rw [this]; simp
 have ceq : (((i + 1 : Nat) : Int) == ((l.length / 4 + 2 : Nat) : Int)) = decide (i + 1 = l.length / 4 + 2) := by
  by_cases e : i + 1 = l.length / 4 + 2
  ·rw [e]; simp
  ·simp only [e, decide_false, beq_eq_false_iff_ne, ne_eq]; omega
 have gi : ∀ ts : Ai.T Value, look ts 1 = I rounds -> look ts 5 = (pp bm) -> look ts 6 = I ((a' : Int) * 8 + 3) -> look ts 7 = v4 -> look ts 8 = I r -> look ts 9 = I (l.length / 4 + 2 : Nat) -> look ts 10 = I (i + 1 + 1 : Nat) -> InI hB bm xm l rounds v4 r a' ks' cs' (i + 1) ts h4 := fun ts b1 b2 b3 b4 b5 b6 b7 =>
  ⟨by omega, b1, b2, b3, b4, b5, b6, b7, ⟨m4, um4, mm4, un4, by omega, fun e => ⟨(few (by omega)).1, by have := (few (by omega)).2; omega⟩, fun e => by
   obtain ⟨a2, ks2, cs2, T2, _, sh2, l2⟩ := full (by omega)
   exact ⟨a2, ks2, cs2, T2, sh2, by have := Nat.add_mul r 1 1115; omega⟩⟩, same4⟩
 have gs : ∀ ts : Ai.T Value, look ts 1 = I rounds -> look ts 5 = (pp bm) -> look ts 6 = I ((a' : Int) * 8 + 3) -> look ts 7 = v4 -> look ts 8 = I r -> look ts 9 = I (l.length / 4 + 2 : Nat) -> look ts 10 = I (i + 1 : Nat) -> look ts 11 = (pp b) -> look ts 12 = I (0 : Nat) -> StI P 21 [(pp b), (pp bm)] (fun j => cl b uy j \/ cl bm um j \/ h3.next <= j) hE rounds bm b ((a' : Int) * 8 + 3) v4 r (l.length / 4 + 2 : Nat) (i + 1 : Nat) k ts h3 := fun ts b1 b2 b3 b4 b5 b6 b7 b8 b9 =>
  ⟨b1, b2, b3, b4, b5, b6, b7, b8, ⟨0, b9, by omega, ch⟩⟩
 have post : ∀ ts : Ai.T Value, look ts 1 = I rounds -> look ts 5 = (pp bm) -> look ts 6 = I ((a' : Int) * 8 + 3) -> look ts 7 = v4 -> look ts 8 = I r -> look ts 9 = I (l.length / 4 + 2 : Nat) -> look ts 10 = I (i + 1 : Nat) -> look ts 11 = (pp b) -> cwf P 117 none trR ts h4 (Agn 3 (andThen P 117 none trU fun e ts' h' => e = .normal /\ InI hB bm xm l rounds v4 r a' ks' cs' (i + 1) ts' h')) := by
  intro ts l1 l5 l6 l7 l8 l9 l10 l11
  have kb1 : (!(false == false)) = false := rfl
  have kb2 : (!(true == true)) = false := rfl
  by_cases e : i + 1 = l.length / 4 + 2
  ·have d1 : decide (i + 1 = l.length / 4 + 2) = true := decide_eq_true e
   rw [d1] at nx6 ceq
   have cl1 : (((i + 1 : Nat) : Int) < ((l.length / 4 + 2 : Nat) : Int)) = False := by simp only [eq_iff_iff, iff_false]; omega
   simp only [SV, SS, seval, trR, trU, l1, l5, l6, l7, l8, l9, l10, l11]
   refine ⟨_, _, FD', ?_⟩
   simp only [SV, SS, seval, l1, l5, l6, l7, l8, l9, l10, l11]
   refine ⟨_, _, A6, ?_⟩
   simp only [SV, SS, seval, l1, l5, l6, l7, l8, l9, l10, l11, nx6, ceq, kb2, cl1, wi]
   exact gi _ (by simp only [SS, seval, l1]) (by simp only [SS, seval, l5]) (by simp only [SS, seval, l6]) (by simp only [SS, seval, l7]) (by simp only [SS, seval, l8]) (by simp only [SS, seval, l9]) (by simp only [SS, seval])
  ·have d1 : decide (i + 1 = l.length / 4 + 2) = false := decide_eq_false e
   rw [d1] at nx6 ceq
   have cl1 : (((i + 1 : Nat) : Int) < ((l.length / 4 + 2 : Nat) : Int)) = True := by simp only [eq_iff_iff, iff_true]; omega
   have b3' := b3 (by omega)
   simp only [SV, SS, seval, trR, trU, l1, l5, l6, l7, l8, l9, l10, l11]
   refine ⟨_, _, FD', ?_⟩
   simp only [SV, SS, seval, l1, l5, l6, l7, l8, l9, l10, l11]
   refine ⟨_, _, A6, ?_⟩
   simp only [SV, SS, seval, l1, l5, l6, l7, l8, l9, l10, l11, nx6, ceq, kb1, cl1]
   refine ⟨_, _, RA, ?_⟩
   simp only [SV, SS, seval, l1, l5, l6, l7, l8, l9, l10, l11, w3]
   refine ⟨_, _, A3, ?_⟩
   simp only [SV, SS, seval, l1, l5, l6, l7, l8, l9, l10, l11, b3', wi]
   exact gi _ (by simp only [SS, seval, l1]) (by simp only [SS, seval, l5]) (by simp only [SS, seval, l6]) (by simp only [SS, seval, l7]) (by simp only [SS, seval, l8]) (by simp only [SS, seval, l9]) (by simp only [SS, seval])
 refine Acg ?_
 simp only [SV, SS, seval, trI, l1, l5, l6, l7, l8, l9, l10, ci, Aui, Aql]
 refine ⟨_, _, FN', ?_⟩
 simp only [SV, SS, seval, l1, l5, l6, l7, l8, l9, l10]
 refine A1b (gs _ (by simp only [SS, seval, l1]) (by simp only [SS, seval, l5]) (by simp only [SS, seval, l6]) (by simp only [SS, seval, l7]) (by simp only [SS, seval, l8]) (by simp only [SS, seval, l9]) (by simp only [SS, seval, l10]) (by simp only [SS, seval]) (by simp only [SS, seval] <;> rfl)) FE (fun ts' c1 c5 c6 c7 c8 c9 c10 c11 => ?_)
 simp only [Ah4, if_true, Ab3, Ar9]
 exact post ts' c1 c5 c6 c7 c8 c9 c10 c11
end
section
variable (hT : Aa2 P tab) (HT : Azh tab) (HR : Afg tab) (HRw : tab 162 = some af162) (HP : Aji tab) (Nu : Num P) (HS : Af8 tab) (HKM : Aiw tab) (HMk : Ajl tab) (HK : Afp tab) (HG : Aff tab) (G : An4 tab) (V : Aek tab) (H : Has tab) (V9 : Acl tab) (HM : Agr tab) (V2 : Anx tab) (V3 : Alx tab) (V4 : At4 tab) (V5 : Alp tab) (V6 : Anp tab) (V8 : Avc tab) (HRl : A1w tab)
include hT HT HR HRw HP Nu HS HKM HMk HK HG G V H V9 HM V2 V3 V4 V5 V6 V8 HRl
theorem A2i {l : List Pr} (asc : Asc l) (hl2 : 2 <= l.length) (hl : l.length <= 60) (hlimN : Aj2 (l.length : Nat) = ((l.length / 4 + 2 : Nat) : Int)) {hB : Aac} {bm xm : Nat} (hbl : bm < hB.next) {rounds : Int} {v4 : Value} {r a' : Nat} (hr3 : r < 3) {ks' : List Int} {cs' : List Tr} {ts : Ai.T Value} {hh : Aac} (g : InI hB bm xm l rounds v4 r a' ks' cs' 0 ts hh) {Z : Abz -> Ai.T Value -> Aac -> Prop} (post : ∀ ts' h', InI hB bm xm l rounds v4 r a' ks' cs' (l.length / 4 + 2) ts' h' -> Z (.exit 2) ts' h') :
  CW P 117 none (.loop trI) ts hh Z := by
 refine Acw (fun n ts hh => ∃ i, n = l.length / 4 + 2 - i /\ InI hB bm xm l rounds v4 r a' ks' cs' i ts hh) ?_ (n := l.length / 4 + 2) ⟨0, by omega, g⟩
 clear g
 rintro n ts hh ⟨i, rfl, g⟩
 have hile := g.ile
 by_cases hi : i < l.length / 4 + 2
 ·exact (A27 hT HT HR HRw HP Nu HS HKM HMk HK HG G V H V9 HM V2 V3 V4 V5 V6 V8 HRl asc hl2 hl hlimN hbl hr3 hi g).mono (fun e ts' h' ⟨e1, g'⟩ => by subst e1; exact ⟨l.length / 4 + 2 - (i + 1), by omega, i + 1, rfl, g'⟩)
 ·obtain rfl : i = l.length / 4 + 2 := by omega
  obtain ⟨ile, l1, l5, l6, l7, l8, l9, l10, ex, same⟩ := g
  have ci : (((l.length / 4 + 2 + 1 : Nat) : Int) <= ((l.length / 4 + 2 : Nat) : Int)) = False := by simp only [eq_iff_iff, iff_false]; omega
  have gi : ∀ ts : Ai.T Value, look ts 1 = I rounds -> look ts 5 = (pp bm) -> look ts 6 = I ((a' : Int) * 8 + 3) -> look ts 7 = v4 -> look ts 8 = I r -> look ts 9 = I (l.length / 4 + 2 : Nat) -> look ts 10 = I (l.length / 4 + 2 + 1 : Nat) -> Z (.exit 2) ts hh := fun ts b1 b2 b3 b4 b5 b6 b7 => post ts hh ⟨ile, b1, b2, b3, b4, b5, b6, b7, ex, same⟩
  refine Acg ?_
  simp only [SV, SS, seval, trI, l1, l5, l6, l7, l8, l9, l10, ci]
  exact gi _ (by simp only [SS, seval, l1]) (by simp only [SS, seval, l5]) (by simp only [SS, seval, l6]) (by simp only [SS, seval, l7]) (by simp only [SS, seval, l8]) (by simp only [SS, seval, l9]) (by simp only [SS, seval, l10])
set_option maxHeartbeats 1000000 in
theorem A3k {l : List Pr} (asc : Asc l) (hkeys : ∀ p ∈ l, -1000 <= p.1 /\ p.1 <= 1000) (hl2 : 2 <= l.length) (hl : l.length <= 60) {hB : Aac} {bm xm : Nat} (hxl : ∀ j, cl bm (some xm) j -> j < hB.next) {rounds : Int} {u4 : Option Nat} (o4 : Abh hB u4 2 l.length (Ad1 l)) (n4 : ∀ y, u4 = some y -> ¬ cl bm (some xm) y) {R r a' : Nat} (hr : r < R) (hr3 : r < 3) {ks' : List Int} {cs' : List Tr} {ts : Ai.T Value} {hh : Aac} (g : InI hB bm xm l rounds (Aak u4 l.length) r a' ks' cs' (l.length / 4 + 2) ts hh) (ha1 : 1 <= a') (ha2 : a' <= 60000) :
  cwf P 117 none trA ts hh (Agn 1 (andThen P 117 none trN fun e ts' h' => e = .normal /\ A23 hB bm xm l rounds (Aak u4 l.length) R (r + 1) ts' h')) := by
 obtain ⟨ile, l1, l5, l6, l7, l8, l9, l10, ⟨m, um, mm', un, cc, gT, gE⟩, same⟩ := g
 obtain ⟨a2, ks2, cs2, T, sh2, ll⟩ := gE rfl
 have xh := same.next
 have hml := mm'.lt
 have fl := T.f.len
 have fz := T.f.z1
 have Tz := T.z
 have RO := T.rooted asc hkeys
 have econ : (Tr.inner a2 (l.length : Nat) 0 0 0 ks2 cs2).content = l := Aeh _ _ T.fits
 have mmA : Aa3 hh bm um m.C m.z m.c m.o m.r := mm'
 have at6 : ∀ k : Aac, Aa3 k bm um m.C m.z m.c m.o m.r -> Aa0 P 14 [(pp bm), .int .i64 6] k (I ((Tr.inner a2 (l.length : Nat) 0 0 0 ks2 cs2).word)) k := fun k mk => by
  obtain ⟨_, _, F, e, e2⟩ := Ab8 hT V mk 6 (by omega)
  have e : _ = I (at0 m.C 6) := e
  rw [T.root] at e
  rw [e, e2] at F
  exact F
 obtain ⟨_, hi, FI, rfl, si⟩ := Aq8 hT V H V2 V3 V4 V5 V6 V8 Nu mmA RO (A0w _ _ T.fits)
 have mmI := mmA.same si (fun x => x) (fun _ _ x => x)
 obtain ⟨v5, hc, FC, ⟨u5, e5, o5, n5⟩, sc⟩ := Ajv hT V H V2 V3 V4 V5 V6 mmI RO (by rw [econ]; omega)
 rw [econ] at e5 o5
 subst e5
 have mmC := mmI.same sc (fun x => x) (fun _ _ x => x)
 have sBc : Aad hB hc (cl bm (some xm)) := (same.trans si (fun _ _ x => x.elim)).trans sc (fun _ _ x => x.elim)
 have o4' := o4.same sBc n4
 obtain ⟨_, _, FP, rfl, eP⟩ := Avo hT HRl (Awi o5) (Awi o4') (by omega)
 rw [eP] at FP
 have RA : Aa0 P 15 [I ((a' : Int) * 8 + 3)] hc (I a') hc := by
  obtain ⟨_, _, F, rfl, e⟩ := Abo hT V H hc a' 3 ha1 (by omega) (by omega) (by omega)
  rw [e] at F
  exact F
 have w2 : Aan .i64 ((a' : Int) + 2) = ((a' + 2 : Nat) : Int) := by rw [Aat] <;> omega
 have A2 : Aa0 P 14 [(pp bm), I (a' + 2 : Nat)] hc (I 1) hc := by
  obtain ⟨_, _, F, e, e2⟩ := Ab8 hT V mmC (a' + 2) (by omega)
  have e : _ = I (at0 m.C (a' + 2)) := e
  rw [sh2] at e
  rw [e, e2] at F
  exact F
 have wr : Aan .i64 ((r : Int) + 1) = ((r + 1 : Nat) : Int) := by
  have hlen := T.f.len
  rw [Aat]
  ·omega
  ·omega
  ·omega
 have go : ∀ ts : Ai.T Value, look ts 1 = I rounds -> look ts 5 = (pp bm) -> look ts 7 = Aak u4 l.length -> look ts 8 = I (r + 1 : Nat) -> A23 hB bm xm l rounds (Aak u4 l.length) R (r + 1) ts hc := fun ts b1 b2 b3 b4 =>
  ⟨by omega, b1, b2, b3, b4, ⟨a2, ks2, cs2, m, um, T, mmC, un, by
   have h1 : ((r * 20 + (l.length / 4 + 2)) * 70000 : Nat) <= (r + 1) * 20 * 70000 := Nat.mul_le_mul_right _ (by omega)
   exact Int.le_trans cc (Int.add_le_add_left (Int.ofNat_le.2 h1) 2000), ll⟩, sBc⟩
 simp only [SV, SS, seval, trA, trN, l1, l5, l6, l7, l8, l9, l10]
 refine ⟨_, _, at6 hh mmA, ?_⟩
 simp only [SV, SS, seval, l1, l5, l6, l7, l8, l9, l10]
 refine ⟨_, _, FI, ?_⟩
 simp only [SV, SS, seval, l1, l5, l6, l7, l8, l9, l10]
 refine ⟨_, _, at6 hi mmI, ?_⟩
 simp only [SV, SS, seval, l1, l5, l6, l7, l8, l9, l10]
 refine ⟨_, _, FC, ?_⟩
 simp only [SV, SS, seval, l1, l5, l6, l7, l8, l9, l10]
 refine ⟨_, _, FP, ?_⟩
 simp only [SV, SS, seval, l1, l5, l6, l7, l8, l9, l10]
 refine ⟨_, _, RA, ?_⟩
 simp only [SV, SS, seval, l1, l5, l6, l7, l8, l9, l10, w2]
 refine ⟨_, _, A2, ?_⟩
 simp only [SV, SS, seval, l1, l5, l6, l7, l8, l9, l10, wr]
 exact go _ (by simp only [SS, seval, l1]) (by simp only [SS, seval, l5]) (by simp only [SS, seval, l7]) (by simp only [SS, seval])
set_option maxHeartbeats 1000000 in
theorem A09 {l : List Pr} (asc : Asc l) (hkeys : ∀ p ∈ l, -1000 <= p.1 /\ p.1 <= 1000) (hl2 : 2 <= l.length) (hl : l.length <= 60) (hlimN : Aj2 (l.length : Nat) = ((l.length / 4 + 2 : Nat) : Int)) {hB : Aac} {bm xm : Nat} (hxl : ∀ j, cl bm (some xm) j -> j < hB.next) {rounds : Int} {u4 : Option Nat} (o4 : Abh hB u4 2 l.length (Ad1 l)) (n4 : ∀ y, u4 = some y -> ¬ cl bm (some xm) y) {R r : Nat} (hr : r < R) (hr3 : r < 3) (hR : (R : Int) = 1 + rounds % 3) {ts : Ai.T Value} {hh : Aac} (g : A23 hB bm xm l rounds (Aak u4 l.length) R r ts hh) :
  CW P 117 none trO ts hh fun e ts' h' => e = .normal /\ A23 hB bm xm l rounds (Aak u4 l.length) R (r + 1) ts' h' := by
 obtain ⟨rle, l1, l5, l7, l8, ⟨a', ks', cs', m, um, T, mm', un, cc, ll⟩, same⟩ := g
 have em := Int.emod_nonneg rounds (show (3 : Int) ≠ 0 by omega)
 have el := Int.emod_lt_of_pos rounds (show (0 : Int) < 3 by omega)
 have wR : Aan .i64 (1 + rounds % 3) = (R : Int) := by rw [Aat] <;> omega
 have xh := same.next
 obtain ⟨_, _, FC, rfl, eC⟩ := Anr hT H hh rounds 3 (by omega) (by omega)
 rw [eC] at FC
 have mmA : Aa3 hh bm um m.C m.z m.c m.o m.r := mm'
 have cr : ((r : Int) < (R : Int)) = True := by simp; omega
 obtain ⟨⟨p1, p2, p3, p4⟩, ⟨z0, z1, z2, z3, z4⟩, _⟩ := T.ok
 have fl := T.f.len
 have fz := T.f.z1
 have Tz := T.z
 have A6 : Aa0 P 14 [(pp bm), .int .i64 6] hh (I ((a' : Int) * 8 + 3)) hh := by
  obtain ⟨_, _, F, e, e2⟩ := Ab8 hT V mmA 6 (by omega)
  have e : _ = I (at0 m.C 6) := e
  rw [T.root] at e
  rw [e, e2] at F
  exact F
 have RA : ∀ k : Aac, Aa0 P 15 [I ((a' : Int) * 8 + 3)] k (I a') k := fun k => by
  obtain ⟨_, _, F, rfl, e⟩ := Abo hT V H k a' 3 p1 (by omega) (by omega) (by omega)
  rw [e] at F
  exact F
 have w1 : Aan .i64 ((a' : Int) + 1) = ((a' + 1 : Nat) : Int) := by rw [Aat] <;> omega
 have A1 : Aa0 P 14 [(pp bm), I (a' + 1 : Nat)] hh (I (l.length : Nat)) hh := by
  obtain ⟨_, _, F, e, e2⟩ := Ab8 hT V mmA (a' + 1) (by omega)
  have e : _ = I (at0 m.C (a' + 1)) := e
  rw [z1] at e
  rw [e, e2] at F
  exact F
 obtain ⟨_, _, FL, rfl, eL⟩ := Ajf hT V hh (l.length : Nat) (by omega) (by omega)
 rw [eL, hlimN] at FL
 have gi : ∀ ts : Ai.T Value, look ts 1 = I rounds -> look ts 5 = (pp bm) -> look ts 6 = I ((a' : Int) * 8 + 3) -> look ts 7 = Aak u4 l.length -> look ts 8 = I r -> look ts 9 = I (l.length / 4 + 2 : Nat) -> look ts 10 = I (0 + 1 : Nat) -> InI hB bm xm l rounds (Aak u4 l.length) r a' ks' cs' 0 ts hh := fun ts b1 b2 b3 b4 b5 b6 b7 =>
  ⟨Nat.zero_le _, b1, b2, b3, b4, b5, b6, b7, ⟨m, um, mm', un, cc, fun _ => ⟨T, ll⟩, fun e => by omega⟩, same⟩
 have post : ∀ ts' h', InI hB bm xm l rounds (Aak u4 l.length) r a' ks' cs' (l.length / 4 + 2) ts' h' -> Agn 2 (andThen P 117 none trA (Agn 1 (andThen P 117 none trN fun e ts' h' => e = .normal /\ A23 hB bm xm l rounds (Aak u4 l.length) R (r + 1) ts' h'))) (.exit 2) ts' h' := fun ts' h' g' => by
  simp only [Ah4, if_true, Ab3]
  exact A3k hT HT HR HRw HP Nu HS HKM HMk HK HG G V H V9 HM V2 V3 V4 V5 V6 V8 HRl asc hkeys hl2 hl hxl o4 n4 hr hr3 g' p1 (by omega)
 refine Acg ?_
 simp only [SV, SS, seval, trO, l1, l8]
 refine ⟨_, _, FC, ?_⟩
 simp only [SV, SS, seval, l1, l5, l7, l8, wR, cr]
 refine ⟨_, _, A6, ?_⟩
 simp only [SV, SS, seval, l1, l5, l7, l8]
 refine ⟨_, _, RA hh, ?_⟩
 simp only [SV, SS, seval, l1, l5, l7, l8, w1]
 refine ⟨_, _, A1, ?_⟩
 simp only [SV, SS, seval, l1, l5, l7, l8]
 refine ⟨_, _, FL, ?_⟩
 simp only [SV, SS, seval, l1, l5, l7, l8]
 exact A2i hT HT HR HRw HP Nu HS HKM HMk HK HG G V H V9 HM V2 V3 V4 V5 V6 V8 HRl asc hl2 hl hlimN (hxl bm (.inl rfl)) hr3 (gi _ (by simp only [SS, seval, l1]) (by simp only [SS, seval, l5]) (by simp only [SS, seval]) (by simp only [SS, seval, l7]) (by simp only [SS, seval, l8]) (by simp only [SS, seval]) (by simp only [SS, seval] <;> rfl)) post
set_option maxHeartbeats 1000000 in
theorem Ajy (HTR : A5n tab) (Kn : ∀ h, Aa0 P 22 [] h (.bool true) h) {h : Aac} {v : Value} {LI : List Int} (a : Ajr h v LI) (rounds : Int) :
  Aah P 4 [v, I rounds] h fun v h' => v = .bool true /\ Aad h h' (fun _ => False) := by
 refine Aaa hT HTR.trenews rfl ?_
 obtain ⟨v1, h1, F1, ⟨l, u, rfl, o, asc, hl, hu, hkeys⟩, s1⟩ := Aqy hT H a
 have hou : ∀ y, u = some y -> y < h1.next := fun y hy => (o.use y hy).2.1
 obtain ⟨v2, h2, F2, t, LL, bm, xm, c, rfl, S, hLL, mm, hc, mlo, s2⟩ := Aun hT HT H V9 Nu (z := 9000) (by omega) (by omega) (Awi o) asc hl hou
 have F2' : Aa0 P 11 [.int .i64 9000, Aak u l.length] h1 (.tuple #[(pp bm), I t.word]) h2 := F2
 have s12 : Aad h h2 (fun _ => False) := s1.trans s2 (fun _ _ x => x)
 have hlo : ∀ j, cl bm (some xm) j -> h.next <= j := fun j hj => by have := mlo j hj; have := s1.next; omega
 obtain ⟨C, hC⟩ : ∃ C, C = [1, 0, 0, 0, 0, t.word, 0] ++ LL := ⟨_, rfl⟩
 have hCl : C.length = 7 + LL.length := by rw [hC]; simp; omega
 have RO := Ayx S (by omega) asc hkeys (by omega)
 rw [<- hC] at mm RO
 match t, S, F2', mm, hC, RO with
 | .empty aa, S, F2', mm, hC, RO =>
  obtain ⟨q1, q2⟩ := RO.ok
  obtain ⟨_, _, F3, rfl, e3⟩ := Abq hT V H h2 aa 1 q1 (by omega) (by omega) (by omega)
  rw [e3] at F3
  have F3' : Aa0 P 13 [I ((Tr.empty aa).word)] h2 (I 1) h2 := F3
  simp only [SV, SS, seval, af4]
  refine ⟨_, _, F1, ?_⟩
  simp only [SV, SS, seval]
  refine ⟨_, _, F2', ?_⟩
  simp only [SV, SS, seval]
  refine ⟨_, _, F3', ?_⟩
  simp only [SV, SS, seval]
  refine ⟨_, _, Kn _, ?_⟩
  simp only [SV, SS, seval]
  rw [Aab h _ s12.marks]
  exact s12
 | .leaf aa kk vv, S, F2', mm, hC, RO =>
  obtain ⟨q1, q2, _⟩ := RO.ok
  obtain ⟨_, _, F3, rfl, e3⟩ := Abq hT V H h2 aa 2 q1 (by omega) (by omega) (by omega)
  rw [e3] at F3
  have F3' : Aa0 P 13 [I ((Tr.leaf aa kk vv).word)] h2 (I 2) h2 := F3
  simp only [SV, SS, seval, af4]
  refine ⟨_, _, F1, ?_⟩
  simp only [SV, SS, seval]
  refine ⟨_, _, F2', ?_⟩
  simp only [SV, SS, seval]
  refine ⟨_, _, F3', ?_⟩
  simp only [SV, SS, seval]
  refine ⟨_, _, Kn _, ?_⟩
  simp only [SV, SS, seval]
  rw [Aab h _ s12.marks]
  exact s12
 | .inner aa sz sh ch sm ks cs, S, F2', mm, hC, RO =>
  have hfit := S.fits
  obtain ⟨⟨hl2, hl120⟩, ⟨rfl, rfl, rfl, rfl⟩, _, hd, hf⟩ := S.fits
  have hok := RO.ok
  obtain ⟨⟨q1, q2, q3, q4⟩, _⟩ := hok
  obtain ⟨_, _, F3, rfl, e3⟩ := Abq hT V H h2 aa 3 q1 (by omega) (by omega) (by omega)
  rw [e3] at F3
  have F3' : Aa0 P 13 [I ((Tr.inner aa (l.length : Nat) 0 0 0 ks cs).word)] h2 (I 3) h2 := F3
  have econ : (Tr.inner aa (l.length : Nat) 0 0 0 ks cs).content = l := Aeh _ _ hfit
  have mm0 : Aa3 h2 bm (some xm) C 9000 c 0 0 := mm
  obtain ⟨v4, hB, F4, ⟨u4, e4, o4, n4⟩, s4⟩ := Ajv hT V H V2 V3 V4 V5 V6 mm0 RO (by rw [econ]; omega)
  rw [econ] at e4 o4
  subst e4
  have mB := Aa9.same (m := ⟨C, 9000, c, 0, 0⟩) mm0 s4 (fun _ _ x => x)
  have hmB := Aa9.lt (m := ⟨C, 9000, c, 0, 0⟩) mm0
  have xB := s4.next
  have hxl : ∀ j, cl bm (some xm) j -> j < hB.next := fun j hj => by have := hmB j hj; omega
  have hn4 : ∀ y, u4 = some y -> ¬ cl bm (some xm) y := fun y hy e => by have := n4 y hy; have := hmB y e; omega
  have T0 : TI l aa ks cs 0 ⟨C, 9000, c, 0, 0⟩ := ⟨⟨by show (0 : Int) <= 9000; omega, by show (9000 : Int) <= 65536; omega, by show (C.length : Int) <= 9000; omega, by show 0 <= c /\ c < _; omega, by show (0 : Int) <= 0 /\ (0 : Int) < _; omega, by show (0 : Int) <= 0 /\ (0 : Int) < _; omega⟩, rfl, rfl, RO.len.1, RO.base, RO.root, hfit, RO.ok, fun y hy => by have := S.adr y hy; show 8 <= y /\ y <= C.length; omega, S.nodup⟩
  have em := Int.emod_nonneg rounds (show (3 : Int) ≠ 0 by omega)
  have el := Int.emod_lt_of_pos rounds (show (0 : Int) < 3 by omega)
  obtain ⟨R, hR⟩ : ∃ R : Nat, (R : Int) = 1 + rounds % 3 := ⟨(1 + rounds % 3).toNat, by omega⟩
  have wR : Aan .i64 (1 + rounds % 3) = (R : Int) := by rw [Aat] <;> omega
  have hlimN : Aj2 (l.length : Nat) = ((l.length / 4 + 2 : Nat) : Int) := by unfold Aj2; rw [if_pos (by omega)]; omega
  have g0 : ∀ ts : Ai.T Value, look ts 1 = I rounds -> look ts 5 = (pp bm) -> look ts 7 = Aak u4 l.length -> look ts 8 = I (0 : Nat) -> A23 hB bm xm l rounds (Aak u4 l.length) R 0 ts hB := fun ts a1 a2 a3 a4 =>
   ⟨Nat.zero_le _, a1, a2, a3, a4, ⟨aa, ks, cs, _, some xm, T0, mB, fun y hy => .inl (by cases hy; rfl), by show c <= _; omega, by show C.length <= _; omega⟩, Aad.refl _ _⟩
  simp only [SV, SS, seval, af4]
  refine ⟨_, _, F1, ?_⟩
  simp only [SV, SS, seval]
  refine ⟨_, _, F2', ?_⟩
  simp only [SV, SS, seval]
  refine ⟨_, _, F3', ?_⟩
  simp only [SV, SS, seval]
  refine ⟨_, _, F4, ?_⟩
  simp only [SV, SS, seval]
  refine Acw (fun n ts hh => ∃ r, n = R - r /\ A23 hB bm xm l rounds (Aak u4 l.length) R r ts hh) ?_ (n := R) ⟨0, by omega, g0 _ (by simp only [SS, seval]) (by simp only [SS, seval]) (by simp only [SS, seval]) (by simp only [SS, seval] <;> rfl)⟩
  rintro n ts hh ⟨r, rfl, g⟩
  by_cases hr : r < R
  ·refine (A09 hT HT HR HRw HP Nu HS HKM HMk HK HG G V H V9 HM V2 V3 V4 V5 V6 V8 HRl asc hkeys hl2 hl hlimN hxl o4 hn4 hr (by omega) hR g).mono (fun e ts' h' ⟨e1, g'⟩ => ?_)
   subst e1
   exact ⟨R - (r + 1), by omega, r + 1, rfl, g'⟩
  ·obtain ⟨rle, l1, l5, l7, l8, ⟨a', ks', cs', m, um, T, mm', un, cc, ll⟩, same⟩ := g
   have xh := same.next
   obtain ⟨_, _, FC, rfl, eC⟩ := Anr hT H hh rounds 3 (by omega) (by omega)
   rw [eC] at FC
   have mmA : Aa3 hh bm um m.C m.z m.c m.o m.r := mm'
   have er : r = R := by omega
   subst er
   have cr : ((r : Int) < (r : Int)) = False := by simp
   obtain ⟨_, _, FO, rfl, eO⟩ := A02 hT H mmA
   rw [eO, T.o] at FO
   have sF : Aad h hh (fun _ => False) := ((s12.trans s4 (fun _ _ x => x)).trans same (fun j hj e => by have := hlo j e; omega))
   refine Acg ?_
   simp only [SV, SS, seval, l1, l8]
   refine ⟨_, _, FC, ?_⟩
   simp only [SV, SS, seval, l1, l5, l7, l8, wR, cr]
   refine ⟨_, _, Kn _, ?_⟩
   simp only [SV, SS, seval, l5]
   refine ⟨_, _, FO, ?_⟩
   simp only [SV, SS, seval]
   rw [Aab h _ sF.marks]
   exact sF
end
end
end Go.Proofs.YtpeihcpclcibgaaGreat.Ai
