/- Texts put together: XA, XB, XC, X0, TC0, T3, T4, T5, X1, XD, XE, XF, XG, XH. -/
import Derived.Test.YtnonihjoimobmaaGreatTh2
import Derived.Test.YtnonihjoimobmaaGreatG3
import Derived.Test.YtnonihjoimobmaaGreatG2
import Derived.Test.YtnonihjoimobmaaGreatTabOk
import Derived.Test.YtnonihjoimobmaaGreatG0
import Derived.Test.YtnonihjoimobmaaGreatG1
namespace Go.Proofs.YtnonihjoimobmaaGreat.Ai
open Go.Proofs.YtnonihjoimobmaaGreat
noncomputable section
set_option linter.all false
variable {P : Program} {tab : Nat -> Option Aae}
open Go.RowKit
section
variable (hT : Aa0 P tab) (HR : Aem tab) (HG : Aep tab) (G : Amh tab) (H : Has tab) (V9 : Acg tab) (HM : Agf tab)
include hT HR
variable {e0 e1 e2 at' tg n rt i gt : Int} {mk gk pc dc : Value} {cm ok : Bool}
include HG V9 HM in
theorem Aqo {h : Aac} {b bm A a : Nat} {um : Option Nat} {m : PM} (r : Rcd h b (rnL 4 e0 e1 e2 A a 1 mk gk rt i cm pc gt dc ok)) (mm : Aa8 h bm um m) (f : m.fine) (hb : ¬ cl bm um b) (hA : A <= 65536) (hw : m.get ((A : Int) + 3) = 0) :
  ∃ h' g, Aa3 P 17 [(pp b), (pp bm)] h (.bool false) h' /\ h.nq <= g /\ Rcd h' b (rnL 5 e0 e1 e2 A a 1 mk (pp g) rt i cm pc gt dc ok) /\ Adp h' g 0 ⟨a, 0, 0, 0, 0, 1⟩ (.pointer none) 0 0 (.slice none 0 0) [] none [] none /\ Aa8 h' bm um (m.tick ((A : Int) + 3)) /\ Aad h h' (fun j => j = b \/ cl bm um j) := by
 have hml := mm.lt
 have hbl := r.lt
 have w0 : Aan .i64 ((A : Int) + 3) = (A : Int) + 3 := by rw [Aav] <;> omega
 obtain ⟨_, h1, F1, rfl, m1, s1⟩ := Abm hT V9 HM mm f ((A : Int) + 3) (by omega)
 have F1' : Aa3 P 64 [(pp bm), I ((A : Int) + 3)] h (I 0) h1 := by rw [<- hw]; exact F1
 have m1 : Aa8 h1 bm um (m.tick ((A : Int) + 3)) := m1
 have r1 := r.same s1 (fun e => hb (.inl e))
 have x1 := s1.nq
 obtain ⟨_, h3, F3, rfl, g3, s3, x3⟩ := Ank hT HG h1 a 1 0
 have F3' : Aa3 P 69 [I a, .int .i64 0, .int .i64 1] h1 (pp h1.nq) h3 := F3
 have r3 := r1.same s3 (fun x => x)
 have m3 := m1.same s3 (fun _ _ x => x)
 have s4 : Aad h3 (h3.setR b (rnL 5 e0 e1 e2 A a 1 mk (pp h1.nq) rt i cm pc gt dc ok)) (· = b) := Aad.setR rfl
 have r4 : Rcd (h3.setR b (rnL 5 e0 e1 e2 A a 1 mk (pp h1.nq) rt i cm pc gt dc ok)) b (rnL 5 e0 e1 e2 A a 1 mk (pp h1.nq) rt i cm pc gt dc ok) := Rcd.set _ r3.lt
 have m4 := m3.same s4 (fun j hj e => hb (e ▸ hj))
 have g4 := g3.same s4 (fun j hj e => by
  rcases hj with e2 | e2 | e2
  ·omega
  ·cases e2
  ·cases e2)
 have w3 := r3.wr 0 (I 5) (by simp [rnL]) (Aat _ _)
 have w4 : (h3.setR b ((rnL 4 e0 e1 e2 A a 1 mk gk rt i cm pc gt dc ok).set 0 (I 5))).wrs b 8 [(pp h1.nq)] = some (h3.setR b (rnL 5 e0 e1 e2 A a 1 mk (pp h1.nq) rt i cm pc gt dc ok)) := Abp h3 b _ 8 _ (by simp [rnL]) (Acs _)
 generalize h3.setR b (rnL 5 e0 e1 e2 A a 1 mk (pp h1.nq) rt i cm pc gt dc ok) = h4 at s4 r4 m4 g4 w4
 have sF : Aad h h4 (fun j => j = b \/ cl bm um j) := ((s1.mono (T := fun j => j = b \/ cl bm um j) (fun j e => .inr (.inl e))).trans s3 (fun _ _ e => e.elim)).trans s4 (fun j _ e => .inl e)
 have key : Aah P 42 [(pp b), (pp bm)] h fun v k => k = h4 := by
  refine Aaa hT HR.rncrown rfl ?_
  have qa : h.rd b 0 = some (I 4) := by rw [r.rd]; rfl
  have qb : h.rd b 4 = some (I A) := by rw [r.rd]; rfl
  have qc : h1.rd b 6 = some (I 1) := by rw [r1.rd]; rfl
  have qd : h1.rd b 5 = some (I a) := by rw [r1.rd]; rfl
  simp only [SV, SS, seval, af42, qa, qb, w0]
  refine ⟨_, _, F1', ?_⟩
  simp only [SV, SS, seval, qc, qd]
  refine ⟨_, _, F3', ?_⟩
  simp only [SV, SS, seval, w3, w4]
  rw [Aab h _ sF.mq]
 obtain ⟨_, _, F', e⟩ := key
 rw [e] at F'
 exact ⟨h4, h1.nq, Abw hT HR r (.inr (.inr (.inl rfl))) F' sF.mq r4, by omega, r4, g4, m4, sF⟩
theorem Asb {h h' : Aac} {b g bm : Nat} {A : Int} {S : Nat -> Prop} (r : Rcd h b (rnL 5 e0 e1 e2 A tg n mk (pp g) rt i cm pc gt dc ok)) (F : Aa3 P 70 [(pp g), (pp bm)] h (.bool false) h') (s : Aad h h' S) (hb : ¬ S b) :
  Aa3 P 17 [(pp b), (pp bm)] h (.bool false) h' := by
 have key : Aah P 42 [(pp b), (pp bm)] h fun v k => k = h' := by
  refine Aaa hT HR.rncrown rfl ?_
  have r := r
  simp only [rnL] at r
  have q0 := r.rd
  simp only [SV, SS, seval, af42, q0]
  refine ⟨_, _, F, ?_⟩
  simp only [SV, SS, seval]
  rw [Aab h _ s.mq]
 obtain ⟨_, _, F', e⟩ := key
 rw [e] at F'
 exact Abw hT HR r (.inr (.inr (.inr (.inl rfl)))) F' s.mq (r.same s hb)
theorem An0 {h h' : Aac} {b g bm : Nat} {A : Int} {S : Nat -> Prop} (r : Rcd h b (rnL 5 e0 e1 e2 A tg n mk (pp g) rt i cm pc gt dc ok)) (F : Aa3 P 70 [(pp g), (pp bm)] h (.bool true) h') (s : Aad h h' S) (hb : ¬ S b) :
  Aa3 P 17 [(pp b), (pp bm)] h (.bool false) (h'.setR b (rnL 6 e0 e1 e2 A tg n mk (pp g) rt i cm pc gt dc ok)) := by
 have r1 := r.same s hb
 have sm' : (h'.setR b (rnL 6 e0 e1 e2 A tg n mk (pp g) rt i cm pc gt dc ok)).mq = h.mq := s.mq
 have key : Aah P 42 [(pp b), (pp bm)] h fun v k => k = h'.setR b (rnL 6 e0 e1 e2 A tg n mk (pp g) rt i cm pc gt dc ok) := by
  refine Aaa hT HR.rncrown rfl ?_
  have r := r
  have r1 := r1
  have sm' := sm'
  simp only [rnL] at r r1 sm'
  have q0 := r.rd
  have w1 := r1.wr
  simp only [SV, SS, seval, af42, q0]
  refine ⟨_, _, F, ?_⟩
  simp only [SV, SS, seval, w1]
  exact Aab h _ sm'
 obtain ⟨_, _, F', e⟩ := key
 rw [e] at F'
 exact Abw hT HR r (.inr (.inr (.inr (.inl rfl)))) F' sm' (Rcd.set _ r1.lt)
include H in
theorem A1k {h : Aac} {b : Nat} {nx : Int} (r : Rcd h b (rnL nx e0 e1 e2 at' tg 0 mk gk rt i cm pc gt dc ok)) :
  Aah P 71 [(pp b)] h fun v h' => ∃ x, h.nq <= x /\ v = .tuple #[I ((1 : Nat) : Int), .slice (some ⟨x, 0, none⟩) [(0 : Int)].length [(0 : Int)].length] /\ Abq h' x 0 1 [(0 : Int)].length [(0 : Int)].length ([(0 : Int)].map I) /\ Aad h h' (fun _ => False) := by
 refine Aaa hT HR.rnfirst rfl ?_
 simp only [rnL] at r
 obtain ⟨_, h1, F1, rfl, q1, s1⟩ := Afz hT H h
 simp only [SS, seval, af71, r.rd]
 refine ⟨_, _, F1, ?_⟩
 simp only [SS, seval]
 rw [Aab h _ s1.mq]
 exact ⟨h.nq, Nat.le_refl _, rfl, q1, s1⟩
omit hT HR in
theorem Agp {ts : T Value} {h : Aac} {a x : Opd} : eop ts h (.store 2 a x) = Aop h 2 (ev ts a) (ev ts x) := (rfl)
include HG G H in
theorem A0r {h : Aac} {b g : Nat} {nx at2 key : Int} {B : Abr} {pk lv : Value} {Ls : List Abr} {u up : Option Nat} {p : Pr} (r : Rcd h b (rnL nx e0 e1 e2 at' tg 1 mk (pp g) rt i cm pc gt dc ok)) (ga : Adp h g 6 B pk at2 key lv Ls u [p] up) :
  Aah P 71 [(pp b)] h fun v h' => ∃ x, h.nq <= x /\ v = .tuple #[I ((2 : Nat) : Int), .slice (some ⟨x, 0, none⟩) [p.1, p.2].length [p.1, p.2].length] /\ Abq h' x 0 1 [p.1, p.2].length [p.1, p.2].length ([p.1, p.2].map I) /\ Aad h h' (fun _ => False) := by
 refine Aaa hT HR.rnfirst rfl ?_
 simp only [rnL] at r
 have s0 : Aad h (h.newR [.int .i64 0, .int .i64 0]) (fun _ => False) := Aad.newR
 have ra := Rcd.new h [.int .i64 0, .int .i64 0]
 have x0 : (h.newR [.int .i64 0, .int .i64 0]).nq = h.nq + 1 := rfl
 have r1 := r.same s0 (fun x => x)
 have g1 := ga.same s0 (fun _ _ x => x)
 obtain ⟨h1, e1⟩ : ∃ h1, h.newR [.int .i64 0, .int .i64 0] = h1 := ⟨_, rfl⟩
 rw [e1] at s0 ra x0 r1 g1
 obtain ⟨v2, h2, F2, ⟨u2, row, hu2⟩, s2⟩ := Aj7 hT HG G g1 (by simp)
 have x2 := s2.nq
 rcases row with ⟨e, _⟩ | ⟨x, o, cap, _, rfl, rr⟩
 ·simp at e
 have ra2 := ra.same s2 (fun x => x)
 have pr := Ajh rr (i := 0) (by simp)
 have pr : h2.rds x o 2 = some [I p.1, I p.2] := by simpa using pr
 have ld1 := Af7 pr
 have st3 := Acw h2 [.int .i64 0, .int .i64 0] [I p.1, I p.2] 2 rfl rfl (by omega) rfl
 have ld3 := Afu h2 [I p.1, I p.2] 2 rfl
 have s3 : Aad h2 (h2.newR [I p.1, I p.2]) (fun _ => False) := Aad.newR
 have x3 : (h2.newR [I p.1, I p.2]).nq = h2.nq + 1 := rfl
 have ra3 := ra2.same s3 (fun x => x)
 generalize h2.newR [I p.1, I p.2] = h3 at st3 ld3 s3 x3 ra3
 have st4 := ra3.st [I p.1, I p.2] 2 rfl rfl (by omega) rfl
 have s4 : Aad h3 (h3.setR h.nq [I p.1, I p.2]) (· = h.nq) := Aad.setR rfl
 have ra4 := Rcd.set (h := h3) [I p.1, I p.2] ra3.lt
 generalize h3.setR h.nq [I p.1, I p.2] = h4 at st4 s4 ra4
 have x4 := s4.nq
 obtain ⟨_, h5, F5, rfl, q5, s5⟩ := Ako hT H h4 p.1 p.2
 have sF : Aad h h5 (fun _ => False) := ((((s0.trans s2 (fun _ _ x => x)).trans s3 (fun _ _ x => x)).trans s4 (fun j hj e => by omega)).trans s5 (fun _ _ x => x))
 have c1 : ((0 : Int) < ([p].length : Nat)) = True := by simp
 have c2 : ((1 : Int) < ([p].length : Nat)) = False := by simp
 have w1 : Aan .i64 (0 + 1) = 1 := by decide
 have w1' : Aan .i64 1 = 1 := by decide
 simp only [SS, seval, af71, r.rd, e1, r1.rd, Aaw]
 refine ⟨_, _, F2, ?_⟩
 simp only [SS, seval]
 refine Apt (Acm ?_)
 simp only [SS, seval, c1, Abi, ld1, Aaw, Agp, st3, ld3, st4, w1, w1']
 refine Acm ?_
 simp only [SS, seval, c2, ra4.rd]
 refine ⟨_, _, F5, ?_⟩
 simp only [SS, seval]
 rw [Aab h _ sF.mq]
 exact ⟨h4.nq, by omega, rfl, q5, sF⟩
include H in
theorem Axc {h : Aac} {b bm kk : Nat} {um : Option Nat} {m : PM} {ws : List Int} (r : Rcd h b (rnL 6 e0 e1 e2 at' tg n mk gk rt i cm pc gt dc ok)) (mm : Aa8 h bm um m) (f : m.fine) (hb : ¬ cl bm um b) (k1 : 1 <= kk) (k5 : kk <= 5) (hws : ws ≠ []) (hF : Aah P 71 [(pp b)] h fun v h' => ∃ x, h.nq <= x /\ v = .tuple #[I kk, .slice (some ⟨x, 0, none⟩) ws.length ws.length] /\ Abq h' x 0 1 ws.length ws.length (ws.map I) /\ Aad h h' (fun _ => False)) (room : (m.C.length : Int) + ws.length <= m.z) :
  ∃ h' um', Aa3 P 17 [(pp b), (pp bm)] h (.bool false) h' /\ Rcd h' b (rnL 7 e0 e1 e2 at' tg n mk gk (((m.C.length : Int) + 1) * 8 + kk) i cm pc gt dc ok) /\ Aa8 h' bm um' (m.more ws) /\ (∀ y, um' = some y -> um = some y \/ h.nq <= y) /\ Aad h h' (fun j => j = b \/ cl bm um j) := by
 have hml := mm.lt
 have hbl := r.lt
 have fz := f.z1
 obtain ⟨_, h1, F1, x, hx, rfl, rx, s1⟩ := hF
 have x1 := s1.nq
 have m1 := mm.same s1 (fun _ _ x => x)
 have r1 := r.same s1 (fun x => x)
 have rl : 1 <= ws.length := by cases ws with | nil => exact (hws rfl).elim | cons a l => simp
 obtain ⟨_, h2, F2, rfl, ⟨u2, m2, n2'⟩, s2⟩ := Aga hT H (ws := ws) m1 f rx (by have := hml bm (.inl rfl); omega) hws room
 have r2 := r1.same s2 hb
 have hb2 : ¬ cl bm u2 b := fun e => by
  rcases e with e | e
  ·exact hb (.inl e)
  ·rcases n2' b e with e2 | e2
   ·exact hb (.inr e2)
   ·omega
 obtain ⟨_, _, F3, rfl, eb⟩ := Aed hT H kk ((m.C.length : Int) + 1) h2 (by omega) (by omega) (by omega) (by omega)
 rw [eb] at F3
 have w3 := r2.wr 9 (I (((m.C.length : Int) + 1) * 8 + kk)) (by simp [rnL]) (Aat _ _)
 have w4 : (h2.setR b ((rnL 6 e0 e1 e2 at' tg n mk gk rt i cm pc gt dc ok).set 9 (I (((m.C.length : Int) + 1) * 8 + kk)))).wrs b 0 [I 7] = some (h2.setR b (rnL 7 e0 e1 e2 at' tg n mk gk (((m.C.length : Int) + 1) * 8 + kk) i cm pc gt dc ok)) := Abp h2 b _ 0 (I 7) (by simp [rnL]) (Aat _ _)
 have s4 : Aad h2 (h2.setR b (rnL 7 e0 e1 e2 at' tg n mk gk (((m.C.length : Int) + 1) * 8 + kk) i cm pc gt dc ok)) (· = b) := Aad.setR rfl
 have r4 : Rcd (h2.setR b (rnL 7 e0 e1 e2 at' tg n mk gk (((m.C.length : Int) + 1) * 8 + kk) i cm pc gt dc ok)) b (rnL 7 e0 e1 e2 at' tg n mk gk (((m.C.length : Int) + 1) * 8 + kk) i cm pc gt dc ok) := Rcd.set _ r2.lt
 have m4 := m2.same s4 (fun j hj e => hb2 (e ▸ hj))
 generalize h2.setR b (rnL 7 e0 e1 e2 at' tg n mk gk (((m.C.length : Int) + 1) * 8 + kk) i cm pc gt dc ok) = h4 at w4 s4 r4 m4
 have sF : Aad h h4 (fun j => j = b \/ cl bm um j) := ((s1.mono (T := fun j => j = b \/ cl bm um j) (fun _ e => e.elim)).trans s2 (fun j _ e => .inr e)).trans s4 (fun j _ e => .inl e)
 have key : Aah P 42 [(pp b), (pp bm)] h fun v k => k = h4 := by
  refine Aaa hT HR.rncrown rfl ?_
  have qa : h.rd b 0 = some (I 6) := by rw [r.rd]; rfl
  simp only [SV, SS, seval, af42, qa]
  refine ⟨_, _, F1, ?_⟩
  simp only [SV, SS, seval]
  refine ⟨_, _, F2, ?_⟩
  simp only [SV, SS, seval]
  refine ⟨_, _, F3, ?_⟩
  simp only [SV, SS, seval, w3, w4]
  rw [Aab h _ sF.mq]
 obtain ⟨_, _, F', e⟩ := key
 rw [e] at F'
 exact ⟨h4, u2, Abw hT HR r (.inr (.inr (.inr (.inr (.inl rfl))))) F' sF.mq r4, r4, m4, fun y hy => (n2' y hy).imp_right (fun e => by omega), sF⟩
include V9 HM in
theorem Awp {h : Aac} {b bm A : Nat} {um : Option Nat} {m : PM} {x nn : Int} (r : Rcd h b (rnL 8 e0 e1 e2 A tg nn mk gk rt i cm pc gt dc ok)) (mm : Aa8 h bm um m) (f : m.fine) (hb : ¬ cl bm um b) (hA : A <= 65536) (hw : m.get ((A : Int) + 3) = x) (hn : nn < 2) :
  ∃ h', Aa3 P 17 [(pp b), (pp bm)] h (.bool false) h' /\ Rcd h' b (rnL 12 e0 e1 e2 A tg nn mk gk x i cm pc gt dc ok) /\ Aa8 h' bm um (m.tick ((A : Int) + 3)) /\ Aad h h' (fun j => j = b \/ cl bm um j) := by
 have w0 : Aan .i64 ((A : Int) + 3) = (A : Int) + 3 := by rw [Aav] <;> omega
 obtain ⟨_, h1, F1, rfl, m1, s1⟩ := Abm hT V9 HM mm f ((A : Int) + 3) (by omega)
 have F1' : Aa3 P 64 [(pp bm), I ((A : Int) + 3)] h (I x) h1 := by rw [<- hw]; exact F1
 have m1 : Aa8 h1 bm um (m.tick ((A : Int) + 3)) := m1
 have r1 := r.same s1 (fun e => hb (.inl e))
 obtain ⟨v2, h2, F2, ee⟩ := Ah8 hT HR r1 x
 rw [if_neg (by omega)] at ee
 have s2 : Aad h1 h2 (· = b) := by rw [ee]; exact Aad.setR rfl
 have r2 : Rcd h2 b (rnL 12 e0 e1 e2 A tg nn mk gk x i cm pc gt dc ok) := by rw [ee]; exact Rcd.set _ r1.lt
 clear ee
 have m2 := m1.same s2 (fun j hj e => hb (e ▸ hj))
 have sF : Aad h h2 (fun j => j = b \/ cl bm um j) := (s1.mono (T := fun j => j = b \/ cl bm um j) (fun j e => .inr (.inl e))).trans s2 (fun j _ e => .inl e)
 have key : Aah P 42 [(pp b), (pp bm)] h fun v k => k = h2 := by
  refine Aaa hT HR.rncrown rfl ?_
  have qa : h.rd b 0 = some (I 8) := by rw [r.rd]; rfl
  have qb : h.rd b 4 = some (I A) := by rw [r.rd]; rfl
  simp only [SV, SS, seval, af42, qa, qb, w0]
  refine ⟨_, _, F1', ?_⟩
  simp only [SV, SS, seval]
  refine ⟨_, _, F2, ?_⟩
  simp only [SV, SS, seval]
  rw [Aab h _ sF.mq]
 obtain ⟨_, _, F', e⟩ := key
 rw [e] at F'
 exact ⟨h2, Abw hT HR r (.inr (.inr (.inr (.inr (.inr (.inr rfl)))))) F' sF.mq r2, r2, m2, sF⟩
end
section
variable (hT : Aa0 P tab) (HR : Aem tab) (HRw : tab 28 = some af28) (HP : Aid tab) (Nu : Num P) (HS : Afx tab) (HKM : Ah3 tab) (HMk : Air tab) (HK : Ae4 tab) (HG : Aep tab) (G : Amh tab) (V : Aea tab) (H : Has tab) (V9 : Acg tab) (HM : Agf tab)
variable {x0 x1 x2 tg n rt i gt : Int} {mk gk pc dc : Value} {cm ok : Bool}
include hT HR HS HKM HMk V H V9 HM in
theorem Awi {a : Nat} {sz sh ch0 sm0 : Int} {ks : List Int} {cs : List Tr} {l : List Pr} (hf : (Tr.inner a sz sh ch0 sm0 ks cs).old /\ (Tr.inner a sz sh ch0 sm0 ks cs).content = l) (h120 : l.length <= 120) (hdp : Adg cs <= 280) (hnd : (Tr.inner a sz sh ch0 sm0 ks cs).adrs.Nodup) {h : Aac} {b bm A : Nat} {um : Option Nat} {m : PM} (r : Rcd h b (rnL 2 x0 x1 x2 A tg n mk gk rt i cm pc gt dc ok)) (mm : Aa8 h bm um m) (f : m.fine) (hb : ¬ cl bm um b) (hok : (Tr.inner a sz sh ch0 sm0 ks cs).ok m.C) (hc : m.c + (10 * (Tr.inner a sz sh ch0 sm0 ks cs).adrs.length : Nat) < 800000000) (A1 : 1 <= A) (A2 : A + 4 <= m.C.length) (hA : at0 m.C A = (a : Int) * 8 + 3) :
  ∃ h' m' mk' k, k <= 10 * (Tr.inner a sz sh ch0 sm0 ks cs).adrs.length + 1 /\ Ab3 P 17 [(pp b), (pp bm)] (fun j => j = b \/ cl bm um j \/ h.nq <= j) h h' k /\ Rcd h' b (rnL 4 x0 x1 x2 A a l.length mk' gk rt i cm pc gt dc ok) /\ Aa8 h' bm um m' /\ Pas m m' (· ∈ (Tr.inner a sz sh ch0 sm0 ks cs).adrs) (10 * (Tr.inner a sz sh ch0 sm0 ks cs).adrs.length + 1) /\ m'.fine /\ (Tr.inner a sz sh ch0 sm0 ks cs).shut.ok m'.C := by
 have fz := f.z1
 have fc := f.c
 have hbl := r.lt
 have hml := mm.lt
 have hok0 := hok
 obtain ⟨⟨q1, q2, _, _⟩, _⟩ := hok0
 have fl := f.len
 obtain ⟨h1, km, F1, hkm, r1, ma1, m1, s1⟩ := Ath hT HR HS V H V9 HM r mm f hb (by omega) (a := a) q1 (by omega) (by rw [PM.get_at0, hA])
 have y1 := s1.nq
 have t1 := Ago (m := m) (y := A) (· ∈ (Tr.inner a sz sh ch0 sm0 ks cs).adrs) (by omega) (by omega)
 have f1 := t1.fine f (by omega)
 have tk := Add (m := m) (y := (A : Int)) (by omega) (by omega)
 have eC := tk.C
 have tc1 := t1.c1
 generalize m.tick (A : Int) = M1 at m1 t1 f1 eC tc1 tk
 have c1 : MkC h1.nq (fun j => j = km \/ cl bm um j \/ h1.nq <= j) h1 km bm none um M1 := ⟨m1, f1, fun j hj => hj.elim .inl (fun e => by cases e), fun j hj => .inr (.inl hj), fun j hj => .inr (.inr hj), fun j hj => by have := hml j hj; omega, fun j hj e => hj.elim (fun e2 => by have := hml j e; omega) (fun e2 => by cases e2), Nat.le_refl _⟩
 obtain ⟨hL, k, h3, u3, n3, M3, rdv3, lv3, hk, ch, FL, sL, c3, ma3, P3, ok3⟩ := Ax2 hT HS HKM HMk V H V9 HM hf (by omega) (by omega) hnd c1 ma1 (by rw [eC]; exact hok) (by omega)
 have hS2 : ¬ (b = km \/ cl bm um b \/ h1.nq <= b) := fun e => by
  rcases e with e | e | e
  ·omega
  ·exact hb e
  ·omega
 obtain ⟨ch', rL⟩ := Ab3.lift (fun q => Rcd q b (rnL 3 x0 x1 x2 A a n (pp km) gk rt i cm pc gt dc ok)) ch r1 (fun q q' a s => a.same s hS2) (fun q q' a F s => Ale hT HR a F s hS2)
 have F3 := Ai0 hT HR HS rL FL sL hS2 ma3
 have r3 := rL.same sL hS2
 have s4 : Aad h3 (h3.setR b (rnL 4 x0 x1 x2 A a l.length (pp km) gk rt i cm pc gt dc ok)) (· = b) := Aad.setR rfl
 have r4 : Rcd (h3.setR b (rnL 4 x0 x1 x2 A a l.length (pp km) gk rt i cm pc gt dc ok)) b (rnL 4 x0 x1 x2 A a l.length (pp km) gk rt i cm pc gt dc ok) := Rcd.set _ r3.lt
 have m4 := c3.mm.same s4 (fun j hj e => hb (e ▸ hj))
 have hS0 : ∀ j, (j = b \/ cl bm um j) -> (j = b \/ cl bm um j \/ h.nq <= j) := fun j e => e.elim .inl (fun e => .inr (.inl e))
 have hS : ∀ j, (j = km \/ cl bm um j \/ h1.nq <= j) -> (j = b \/ cl bm um j \/ h.nq <= j) := fun j e => by
  rcases e with e | e | e
  ·exact .inr (.inr (by omega))
  ·exact .inr (.inl e)
  ·exact .inr (.inr (by omega))
 exact ⟨_, M3, _, 1 + k + 1, by omega, ((Ab3.one F1 (s1.mono hS0)).app (ch'.mono hS)).app (.one F3 ((sL.mono hS).trans s4 (fun j _ e => .inl e))), r4, m4, (t1.trans P3).mono (fun _ x => x) (by omega), c3.f, ok3⟩
include hT HR HS HKM HMk HK HG G V H V9 HM in
theorem A0v {a : Nat} {sz sh ch0 sm0 : Int} {ks : List Int} {cs : List Tr} {l : List Pr} (hf : (Tr.inner a sz sh ch0 sm0 ks cs).old /\ (Tr.inner a sz sh ch0 sm0 ks cs).content = l) (h2 : l.length < 2) (hdp : Adg cs <= 280) (hnd : (Tr.inner a sz sh ch0 sm0 ks cs).adrs.Nodup) {h : Aac} {b bm A g p : Nat} {um : Option Nat} {m : PM} (r : Rcd h b (rnL 2 x0 x1 x2 A tg n mk gk rt i cm pc gt dc ok)) (mm : Aa8 h bm um m) (f : m.fine) (hb : ¬ cl bm um b) (hok : (Tr.inner a sz sh ch0 sm0 ks cs).ok m.C) (hc : m.c + (12 * (4 * (Aak cs).length + 310) + 10 * (Tr.inner a sz sh ch0 sm0 ks cs).adrs.length : Nat) < 500000000) (A1 : 1 <= A) (A2 : A + 4 <= m.C.length) (hin : ∀ y ∈ (Tr.inner a sz sh ch0 sm0 ks cs).adrs, 1 <= y /\ y < A)
  (hA : ∀ k (hk : k < 5), at0 m.C (A + k) = [(a : Int) * 8 + 3, (g : Int), (p : Int), 0, 0][k]) (g1 : 1 <= g) (g2 : g < A) (p1 : 1 <= p) (p2 : p < A) (hgp : g ≠ p) (hgn : g ∉ (Tr.inner a sz sh ch0 sm0 ks cs).adrs) (hpn : p ∉ (Tr.inner a sz sh ch0 sm0 ks cs).adrs) (hg : at0 m.C g = 0) (hp : at0 m.C p = (A : Int) * 8 + 4) (room : (m.C.length : Int) + (Abf l.length + 5 : Nat) <= m.z) :
  ∃ h' um' m', ∃ T : Tr, ∃ L : List Value, Adm P 17 [(pp b), (pp bm)] (fun j => j = b \/ cl bm um j \/ h.nq <= j) (12 * (4 * (Aak cs).length + 320) + 10 * (Tr.inner a sz sh ch0 sm0 ks cs).adrs.length) h h' true /\ Rcd h' b L /\ (∃ x0 x1 x2 A' tg n mk gk rt i cm pc gt dc, L = rnL 15 x0 x1 x2 A' tg n mk gk rt i cm pc gt dc true) /\ Aa8 h' bm um' m' /\ (∀ y, um' = some y -> um = some y \/ h.nq <= y) /\ (m'.z = m.z /\ m'.o = m.o /\ m'.r = m.r /\ m'.C.length = m.C.length + (Abf l.length + 5) /\ m.c <= m'.c /\ m'.c <= m.c + (12 * (4 * (Aak cs).length + 310) + 10 * (Tr.inner a sz sh ch0 sm0 ks cs).adrs.length : Nat)) /\ (∀ y, y < A -> y ∉ (Tr.inner a sz sh ch0 sm0 ks cs).adrs -> y ≠ p -> at0 m'.C y = at0 m.C y) /\ at0 m'.C p = T.word /\ T.ok m'.C /\ T.fits l /\ (∀ y ∈ T.adrs, m.C.length < y /\ y <= m'.C.length) /\ T.adrs.Nodup /\ (Tr.inner a sz sh ch0 sm0 ks cs).shut.ok m'.C := by
 have fz := f.z1
 have fc := f.c
 have hbl := r.lt
 have hml := mm.lt
 obtain ⟨h1, M1, mk1, k1, hk1, ch1, r1, m1, P1, f1, ok1⟩ := Awi hT HR HS HKM HMk V H V9 HM hf (by omega) hdp hnd r mm f hb hok (by omega) A1 A2 (hA 0 (by omega))
 have s1 := ch1.same.nq
 have nin : ∀ y, A <= y -> y ∉ (Tr.inner a sz sh ch0 sm0 ks cs).adrs := fun y hy e => by have := (hin y e).2; omega
 have c1 := P1.c0
 have c1' := P1.c1
 have l1 := P1.len
 have v1 : M1.get ((A : Int) + 3) = 0 := by rw [show ((A : Int) + 3) = ((A + 3 : Nat) : Int) by omega, PM.get_at0, P1.get _ (nin _ (by omega))]; exact hA 3 (by omega)
 have fl1 := f1.len
 have t1 := Add (m := M1) (y := (A : Int) + 3) (by omega) (by omega)
 have hS0 : ∀ j, (j = b \/ cl bm um j) -> (j = b \/ cl bm um j \/ h.nq <= j) := fun j e => e.elim .inl (fun e => .inr (.inl e))
 obtain ⟨h6, ws, kk, T, gk6, k6, M6, hk6, ch6, r6, m6, tk6, kk1, kk5, hws, hlen, hfirst, hT1, hT2, hT3, hT4⟩ : ∃ (h6 : Aac) (ws : List Int) (kk : Nat) (T : Tr) (gk6 : Value) (k6 : Nat) (M6 : PM), k6 <= 4 * (Aak cs).length + 4 /\ Ab3 P 17 [(pp b), (pp bm)] (fun j => j = b \/ cl bm um j \/ h.nq <= j) h1 h6 k6 /\ Rcd h6 b (rnL 6 x0 x1 x2 A a l.length mk1 gk6 rt i cm pc gt dc ok) /\ Aa8 h6 bm um M6 /\ Tk M1 M6 (4 * (Aak cs).length + 4) /\ 1 <= kk /\ kk <= 5 /\ ws ≠ [] /\ ws.length = Abf l.length /\
   Aah P 71 [(pp b)] h6 (fun v h' => ∃ x, h6.nq <= x /\ v = .tuple #[I kk, .slice (some ⟨x, 0, none⟩) ws.length ws.length] /\ Abq h' x 0 1 ws.length ws.length (ws.map I) /\ Aad h6 h' (fun _ => False)) /\ T.word = ((m.C.length : Int) + 1) * 8 + kk /\ T.fits l /\ T.adrs = List.range' (m.C.length + 1) ws.length /\ (∀ C, Aes C m.C.length ws -> T.ok C) := by
  match l, h2, hf with
  | [], _, hf =>
   obtain ⟨h2', F2, r2, m2, s2⟩ := Ast hT HR V9 HM r1 m1 f1 hb (by omega) v1 (by simp)
   refine ⟨h2', [0], 1, .empty (m.C.length + 1), _, 1, _, by omega, .one F2 (s2.mono hS0), r2, m2, t1.mono (by omega), by omega, by omega, by simp, by rw [List.length_nil, Am1]; rfl, A1k hT HR H r2, ?_, rfl, rfl, fun C hC => ⟨by omega, by have := hC.1; simp at this; omega⟩⟩
   show (((m.C.length + 1 : Nat) : Int)) * 8 + 1 = _
   simp
  | [q], _, hf =>
   obtain ⟨h2', gg, F2, hgg, r2, g2', m2, s2⟩ := Aqo hT HR HG V9 HM r1 m1 f1 hb (by omega) v1
   have y2 := s2.nq
   have f2 := t1.fine f1 (by omega)
   have tc := t1.c1
   have cgg : ∀ j, cg gg none none j -> j = gg := fun j hj => by
    rcases hj with e | e | e
    ·exact e
    ·cases e
    ·cases e
   have c0 : GkC h2'.nq (fun j => j = gg \/ cl bm um j \/ h2'.nq <= j) h2' gg bm none none um (M1.tick ((A : Int) + 3)) := ⟨m2, f2, fun j hj => .inl (cgg j hj), fun j hj => .inr (.inl hj), fun j hj => .inr (.inr hj), fun j hj => by have := hml j hj; omega, fun j hj e => by have := cgg j hj; have := hml j e; omega, Nat.le_refl _⟩
   obtain ⟨h3, u3, up3, M3, B3, at3, key3, pk3, lv3, ⟨hL, k3, hk3, ch3, F3, s3⟩, c3, g3, tk3⟩ := Aw5 hT HS HK HG V H V9 HM hf (by simp) hdp c0 (t := 1) (f := 0) g2' (by omega) (by omega) (by rw [t1.C]; exact ok1) (by omega)
   have hS3 : ¬ (b = gg \/ cl bm um b \/ h2'.nq <= b) := fun e => by
    have := r2.lt
    rcases e with e | e | e
    ·omega
    ·exact hb e
    ·omega
   obtain ⟨ch3', rL⟩ := Ab3.lift (fun k => Rcd k b (rnL 5 x0 x1 x2 A a 1 mk1 (pp gg) rt i cm pc gt dc ok)) ch3 r2 (fun k k' q s => q.same s hS3) (fun k k' q F s => Asb hT HR q F s hS3)
   have F4 := An0 hT HR rL F3 s3 hS3
   have r3 := rL.same s3 hS3
   have s4 : Aad h3 (h3.setR b (rnL 6 x0 x1 x2 A a 1 mk1 (pp gg) rt i cm pc gt dc ok)) (· = b) := Aad.setR rfl
   have hgb : ∀ j, cg gg u3 up3 j -> ¬ j = b := fun j hj e => hS3 (by subst e; exact c3.su j hj)
   have g4 := g3.same s4 hgb
   have m4 := c3.mm.same s4 (fun j hj e => hb (e ▸ hj))
   have r4 : Rcd (h3.setR b (rnL 6 x0 x1 x2 A a 1 mk1 (pp gg) rt i cm pc gt dc ok)) b (rnL 6 x0 x1 x2 A a 1 mk1 (pp gg) rt i cm pc gt dc ok) := Rcd.set _ r3.lt
   have hS4 : ∀ j, (j = gg \/ cl bm um j \/ h2'.nq <= j) -> (j = b \/ cl bm um j \/ h.nq <= j) := fun j e => by
    rcases e with e | e | e
    ·exact .inr (.inr (by omega))
    ·exact .inr (.inl e)
    ·exact .inr (.inr (by omega))
   have ep : pick [q] 0 ((1 : Nat) : Int) = [q] := As9 (by omega) (by simp)
   rw [ep] at g4
   refine ⟨_, [q.1, q.2], 2, .leaf (m.C.length + 1) q.1 q.2, _, 1 + k3 + 1, M3, by omega, ((Ab3.one F2 (s2.mono hS0)).app (ch3'.mono hS4)).app (.one F4 ((s3.mono hS4).trans s4 (fun j _ e => .inl e))), r4, m4, (t1.trans tk3).mono (by omega), by omega, by omega, by simp, by rw [List.length_singleton, Ate]; rfl, A0r hT HR HG G H r4 g4, ?_, rfl, rfl, fun C hC => ⟨by omega, by have := hC.1; simp at this; omega, hC.2 0 _ rfl, hC.2 1 _ rfl⟩⟩
   show (((m.C.length + 1 : Nat) : Int)) * 8 + 2 = _
   simp
  | _ :: _ :: l, h2, _ => exact absurd h2 (by rw [List.length_cons, List.length_cons]; omega)
 have f6 := tk6.fine f1 (by omega)
 have c6 := tk6.c0
 have c6' := tk6.c1
 have e6 := tk6.C
 have z6 : M6.z = m.z := by rw [tk6.z, P1.z]
 have x6 := ch6.same.nq
 have lC : M6.C.length = m.C.length := by rw [e6, l1]
 obtain ⟨h7, u7, F7, r7, m7, n7, s7⟩ := Axc hT HR H r6 m6 f6 hb kk1 kk5 hws hfirst (by rw [lC, hlen, z6]; omega)
 have hb7 : ¬ cl bm u7 b := Aof hb (by omega : b < h6.nq) n7
 have l7 : (M6.more ws).C.length = m.C.length + Abf l.length := by simp [PM.more, lC, hlen]
 have f7 : (M6.more ws).fine := ⟨f6.z0, f6.z1, by rw [l7]; show _ <= M6.z; rw [z6]; omega, ⟨by have := f6.c; show 0 <= M6.c + 1; omega, by show M6.c + 1 < _; omega⟩, f6.o, f6.r⟩
 have hold7 : Aes (M6.more ws).C m.C.length ws := by rw [<- lC]; exact Aka M6.C ws
 have g7 : ∀ y, y <= m.C.length -> at0 (M6.more ws).C y = at0 M1.C y := fun y yb => by
  by_cases h0 : y = 0
  ·subst h0; rfl
  ·show at0 (M6.C ++ _) y = _
   rw [Agn (by omega) (by omega), e6]
 have q7 : (M6.more ws).z = m.z /\ (M6.more ws).o = m.o /\ (M6.more ws).r = m.r /\ (M6.more ws).c = M6.c + 1 := ⟨z6, by show M6.o = _; rw [tk6.o, P1.o], by show M6.r = _; rw [tk6.r, P1.r], rfl⟩
 rw [lC, <- hT1] at r7
 generalize M6.more ws = M7 at m7 l7 f7 hold7 g7 q7
 have v7 : at0 M7.C (A + 3) = 0 := by rw [g7 _ (by omega), P1.get _ (nin _ (by omega))]; exact hA 3 (by omega)
 obtain ⟨h8, F8, r8, m8, s8⟩ := At3 hT HR V9 HM r7 m7 f7 hb7 (by omega)
 rw [show ((A : Int) + 3) = ((A + 3 : Nat) : Int) by omega, PM.cas_yes (by omega) (by omega) v7] at m8
 have m8 : Aa8 h8 bm u7 (M7.write ((A + 3 : Nat) : Int) T.word) := m8
 obtain ⟨P8, v8⟩ := Ab5 (m := M7) (y := A + 3) (x := T.word) (· = A + 3) (by omega) (by omega) rfl
 have f8 := P8.fine f7 (by omega)
 have c8 := P8.c0
 have c8' := P8.c1
 obtain ⟨h9, F9, r9, m9, s9⟩ := Awp hT HR V9 HM r8 m8 f8 hb7 (by omega) (x := T.word) (by rw [show ((A : Int) + 3) = ((A + 3 : Nat) : Int) by omega, PM.get_at0, v8]) (by omega)
 have t9 := Add (m := M7.write ((A + 3 : Nat) : Int) T.word) (y := (A : Int) + 3) (by omega) (by rw [P8.len]; omega)
 have f9 := t9.fine f8 (by omega)
 have c9 := t9.c0
 have c9' := t9.c1
 have e9 := t9.C
 generalize (M7.write ((A + 3 : Nat) : Int) T.word).tick ((A : Int) + 3) = M9 at m9 t9 f9 c9 c9' e9
 have l9 : M9.C.length = m.C.length + Abf l.length := by rw [e9, P8.len, l7]
 have old9 : ∀ y, y <= m.C.length -> y ≠ A + 3 -> at0 M9.C y = at0 M1.C y := fun y h1 h2 => by rw [e9, P8.get y h2, g7 y h1]
 obtain ⟨h5, u5, M5, bd5, run5, r5, m5, n5, ⟨z5, o5, q5, l5, c5, c5'⟩, a5, v5⟩ := Apd hT HR HS V H V9 HM r9 m9 f9 hb7 (by rw [l9, t9.z, P8.z, q7.1]; omega) (by omega) A1 (by omega) g1 (by omega) p1 (by omega) hgp
  (by rw [old9 _ (by omega) (by omega), P1.get _ (nin _ (by omega))]; exact hA 1 (by omega)) (by rw [old9 _ (by omega) (by omega), P1.get _ (nin _ (by omega))]; exact hA 2 (by omega)) (by rw [old9 g (by omega) (by omega), P1.get g hgn]; exact hg) (by rw [old9 p (by omega) (by omega), P1.get p hpn]; exact hp)
 have n7' : ∀ y, u7 = some y -> um = some y \/ h.nq <= y := fun y hy => (n7 y hy).imp_right (fun e => by omega)
 have y7 := s7.nq
 have y8 := s8.nq
 have y9 := s9.nq
 have hS7 := Ayb (b := b) (bm := bm) n7'
 have hlen5 : M5.C.length = m.C.length + (Abf l.length + 5) := by rw [l5, l9]; omega
 have hTn : T.adrs.Nodup := by rw [hT3]; exact List.nodup_range'
 have hTr : ∀ y ∈ T.adrs, m.C.length < y /\ y <= m.C.length + Abf l.length := fun y hy => by rw [hT3, List.mem_range'_1, hlen] at hy; omega
 refine ⟨h5, u5, M5, T, _, ((((ch1.app ch6).app (.cons F7 (s7.mono hS0) (.cons F8 (s8.mono hS7) (.cons F9 (s9.mono hS7) (.nil _))))).to (run5.mono (A1x n7' (by omega)))).le (by omega)), r5, ⟨_, _, _, _, _, _, _, _, _, _, _, _, _, _, rfl⟩, m5, Aiy n7' n5 (by omega), ⟨by rw [z5, t9.z, P8.z, q7.1], by rw [o5, t9.o, P8.o, q7.2.1], by rw [q5, t9.r, P8.r, q7.2.2.1], hlen5, by omega, by omega⟩, fun y hy hyn hyp => ?_, v5, ?_, hT2, fun y hy => ?_, hTn, ?_⟩
 ·rw [a5 y (by omega) hyp, old9 y (by omega) (by omega), P1.get y hyn]
 ·refine hT4 _ (hold7.congr (by omega) (fun y y1 y2 => ?_))
  rw [a5 y (by omega) (by omega), e9, P8.get y (by omega)]
 ·have := hTr y hy
  rw [hlen5]; omega
 ·refine Ado (by omega) _ (fun y hy => ?_) ok1
  rw [Ael] at hy
  have := (hin y hy).2
  rw [a5 y (by omega) (fun e => hpn (e ▸ hy)), old9 y (by omega) (by omega)]
end
section
variable (hT : Aa0 P tab) (HR : Aem tab) (HRw : tab 28 = some af28) (HP : Aid tab) (Nu : Num P) (HS : Afx tab) (HKM : Ah3 tab) (HMk : Air tab) (HK : Ae4 tab) (HG : Aep tab) (G : Amh tab) (V : Aea tab) (H : Has tab) (V9 : Acg tab) (HM : Agf tab)
include hT HR HP Nu HS HKM HMk HK HG G V H V9 HM
variable {x0 x1 x2 tg n rt i gt : Int} {mk gk pc dc : Value} {cm ok : Bool}
theorem A1f {a : Nat} {sz sh ch0 sm0 : Int} {ks : List Int} {cs : List Tr} {l : List Pr} (hf : (Tr.inner a sz sh ch0 sm0 ks cs).old /\ (Tr.inner a sz sh ch0 sm0 ks cs).content = l) (h120 : l.length <= 120) (hdp : Adg cs <= 280) (asc : Asc l) (hnd : (Tr.inner a sz sh ch0 sm0 ks cs).adrs.Nodup) {h : Aac} {b bm A g p : Nat} {um : Option Nat} {m : PM} (r : Rcd h b (rnL 2 x0 x1 x2 A tg n mk gk rt i cm pc gt dc ok)) (mm : Aa8 h bm um m) (f : m.fine) (hb : ¬ cl bm um b) (hok : (Tr.inner a sz sh ch0 sm0 ks cs).ok m.C) (hc : m.c + (12 * (4 * (Aak cs).length + 310) + 10 * (Tr.inner a sz sh ch0 sm0 ks cs).adrs.length : Nat) < 500000000) (A1 : 1 <= A) (A2 : A + 4 <= m.C.length) (hin : ∀ y ∈ (Tr.inner a sz sh ch0 sm0 ks cs).adrs, 1 <= y /\ y < A)
  (hA : ∀ k (hk : k < 5), at0 m.C (A + k) = [(a : Int) * 8 + 3, (g : Int), (p : Int), 0, 0][k]) (g1 : 1 <= g) (g2 : g < A) (p1 : 1 <= p) (p2 : p < A) (hgp : g ≠ p) (hgn : g ∉ (Tr.inner a sz sh ch0 sm0 ks cs).adrs) (hpn : p ∉ (Tr.inner a sz sh ch0 sm0 ks cs).adrs) (hg : at0 m.C g = 0) (hp : at0 m.C p = (A : Int) * 8 + 4) (room : (m.C.length : Int) + (Abf l.length + 5 : Nat) <= m.z) :
  ∃ h' um' m', ∃ T : Tr, ∃ L : List Value, Adm P 17 [(pp b), (pp bm)] (fun j => j = b \/ cl bm um j \/ h.nq <= j) (12 * (4 * (Aak cs).length + 320) + 10 * (Tr.inner a sz sh ch0 sm0 ks cs).adrs.length) h h' true /\ Rcd h' b L /\ (∃ x0 x1 x2 A' tg n mk gk rt i cm pc gt dc, L = rnL 15 x0 x1 x2 A' tg n mk gk rt i cm pc gt dc true) /\ Aa8 h' bm um' m' /\ (∀ y, um' = some y -> um = some y \/ h.nq <= y) /\ (m'.z = m.z /\ m'.o = m.o /\ m'.r = m.r /\ m'.C.length = m.C.length + (Abf l.length + 5) /\ m.c <= m'.c /\ m'.c <= m.c + (12 * (4 * (Aak cs).length + 310) + 10 * (Tr.inner a sz sh ch0 sm0 ks cs).adrs.length : Nat)) /\ (∀ y, y < A -> y ∉ (Tr.inner a sz sh ch0 sm0 ks cs).adrs -> y ≠ p -> at0 m'.C y = at0 m.C y) /\ at0 m'.C p = T.word /\ T.ok m'.C /\ T.fits l /\ (∀ y ∈ T.adrs, m.C.length < y /\ y <= m'.C.length) /\ T.adrs.Nodup /\ (Tr.inner a sz sh ch0 sm0 ks cs).shut.ok m'.C := by
 by_cases h2 : 2 <= l.length
 ·exact A0n hT HR HP Nu HS HKM HMk HK HG G V H V9 HM hf h2 h120 hdp asc hnd r mm f hb hok hc A1 A2 hin hA g1 g2 p1 p2 hgp hgn hpn hg hp room
 ·exact A0v hT HR HS HKM HMk HK HG G V H V9 HM hf (by omega) hdp hnd r mm f hb hok hc A1 A2 hin hA g1 g2 p1 p2 hgp hgn hpn hg hp room
include HRw in
theorem Az3 {a : Nat} {sz sh ch0 sm0 : Int} {ks : List Int} {cs : List Tr} {l : List Pr} (hf : (Tr.inner a sz sh ch0 sm0 ks cs).old /\ (Tr.inner a sz sh ch0 sm0 ks cs).content = l) (h120 : l.length <= 120) (hdp : Adg cs <= 280) (asc : Asc l) (hnd : (Tr.inner a sz sh ch0 sm0 ks cs).adrs.Nodup) {h : Aac} {b bm e0 e1 : Nat} {w at1 : Int} {um : Option Nat} {m : PM} (r : Rcd h b (rnL 0 e0 e1 w at1 tg n mk gk rt i cm pc gt dc ok)) (mm : Aa8 h bm um m) (f : m.fine) (hb : ¬ cl bm um b) (hok : (Tr.inner a sz sh ch0 sm0 ks cs).ok m.C) (hw : w = (Tr.inner a sz sh ch0 sm0 ks cs).word) (hc : m.c + (12 * (4 * (Aak cs).length + 310) + 10 * (Tr.inner a sz sh ch0 sm0 ks cs).adrs.length : Nat) < 400000000) (hin : ∀ y ∈ (Tr.inner a sz sh ch0 sm0 ks cs).adrs, 1 <= y /\ y <= m.C.length)
  (g2 : e0 + 2 <= m.C.length) (p1 : 1 <= e1) (p2 : e1 <= m.C.length) (hgp : e0 + 2 ≠ e1) (hgn : e0 + 2 ∉ (Tr.inner a sz sh ch0 sm0 ks cs).adrs) (hpn : e1 ∉ (Tr.inner a sz sh ch0 sm0 ks cs).adrs) (hg : at0 m.C (e0 + 2) = 0) (hp : at0 m.C e1 = w) (room : (m.C.length : Int) + (Abf l.length + 15 : Nat) <= m.z) :
  ∃ h' um' m', ∃ T : Tr, ∃ L : List Value, Adm P 17 [(pp b), (pp bm)] (fun j => j = b \/ cl bm um j \/ h.nq <= j) (12 * (4 * (Aak cs).length + 320) + 10 * (Tr.inner a sz sh ch0 sm0 ks cs).adrs.length + 7) h h' true /\ Rcd h' b L /\ (∃ x0 x1 x2 A' tg n mk gk rt i cm pc gt dc, L = rnL 15 x0 x1 x2 A' tg n mk gk rt i cm pc gt dc true) /\ Aa8 h' bm um' m' /\ (∀ y, um' = some y -> um = some y \/ h.nq <= y) /\ (m'.z = m.z /\ m'.o = m.o /\ m'.r = m.r /\ m'.C.length = m.C.length + (Abf l.length + 15) /\ m.c <= m'.c /\ m'.c <= m.c + (12 * (4 * (Aak cs).length + 310) + 10 * (Tr.inner a sz sh ch0 sm0 ks cs).adrs.length + 7 : Nat)) /\ (∀ y, y <= m.C.length -> y ∉ (Tr.inner a sz sh ch0 sm0 ks cs).adrs -> y ≠ e1 -> at0 m'.C y = at0 m.C y) /\ at0 m'.C e1 = T.word /\ T.ok m'.C /\ T.fits l /\ (∀ y ∈ T.adrs, m.C.length < y /\ y <= m'.C.length) /\ T.adrs.Nodup /\ (Tr.inner a sz sh ch0 sm0 ks cs).shut.ok m'.C := by
 have hbl := r.lt
 have fc := f.c
 have fz := f.z1
 obtain ⟨h1, u1, M1, bd, k1, hk1, ch1, r1, m1, n1, ⟨z1, o1, q1, l1, c1, c1'⟩, a1, v1, w1⟩ := Aq7 hT HR HRw HS V H V9 HM r mm f hb (by omega) (by omega) g2 p1 p2 hgp hg hp
 have s1 := ch1.same.nq
 have hb1 := Aof hb hbl n1
 have f1 : M1.fine := ⟨by rw [z1]; exact f.z0, by rw [z1]; exact f.z1, by rw [z1]; omega, ⟨by omega, by omega⟩, by rw [o1]; exact f.o, by rw [q1]; exact f.r⟩
 have ok1 : (Tr.inner a sz sh ch0 sm0 ks cs).ok M1.C := Ado (by omega) _ (fun y hy => a1 y (hin y hy).2 (fun e => hpn (e ▸ hy))) hok
 obtain ⟨h2', u2, M2, T, L, run2, r2, L2, m2, n2, ⟨z2, o2, q2, l2, c2, c2'⟩, a2, v2, t2, t3, t4, t5, t6⟩ := A1f hT HR HP Nu HS HKM HMk HK HG G V H V9 HM hf h120 hdp asc hnd r1 m1 f1 hb1 ok1 (by omega) (by omega) (by omega) (fun y hy => ⟨(hin y hy).1, by have := (hin y hy).2; omega⟩) (g := e0 + 2) (p := e1) (fun k hk => by rw [w1 k hk, hw]; rfl) (by omega) (by omega) p1 (by omega) hgp hgn hpn (by rw [a1 _ g2 hgp]; exact hg) v1 (by rw [z1]; omega)
 refine ⟨h2', u2, M2, T, L, (ch1.to (run2.mono (A1x n1 s1))).le (by omega), r2, L2, m2, Aiy n1 n2 s1, ⟨by rw [z2, z1], by rw [o2, o1], by rw [q2, q1], by omega, by omega, by omega⟩, fun y hy hyn hyp => by rw [a2 y (by omega) hyn hyp, a1 y hy hyp], v2, t2, t3, fun y hy => by have := t4 y hy; omega, t5, t6⟩
end
mutual
def Tr.cut (s e : Nat) : Tr -> Tr
 | .empty a => .empty a
 | .leaf a k v => .leaf a k v
 | .inner a sz sh ch sm ks cs => .inner a sz sh ch sm ks (Ag8 s e (a + 4 + cs.length) cs)
def Ag8 (s e p : Nat) : List Tr -> List Tr
 | [] => []
 | t :: cs => (if p = s then Tr.empty e else t.cut s e) :: Ag8 s e (p + 1) cs
end
mutual
def Tr.lslot (s : Nat) : Tr -> Prop
 | .empty _ => False
 | .leaf _ _ _ => False
 | .inner a _ _ _ _ _ cs => Am5 s (a + 4 + cs.length) cs
def Am5 (s p : Nat) : List Tr -> Prop
 | [] => False
 | t :: cs => (p = s /\ ∃ a k v, t = .leaf a k v) \/ t.lslot s \/ Am5 s (p + 1) cs
end
theorem Afn (s e : Nat) : ∀ (cs : List Tr) (p : Nat), (Ag8 s e p cs).length = cs.length
 | [], p => rfl
 | t :: cs, p => by simp [Ag8, Afn s e cs]
theorem Ags (s e : Nat) : ∀ (cs : List Tr) (p i : Nat) (h : i < (Ag8 s e p cs).length) (h' : i < cs.length), (Ag8 s e p cs)[i] = if p + i = s then Tr.empty e else cs[i].cut s e
 | t :: cs, p, 0, _, _ => by simp [Ag8]
 | t :: cs, p, i + 1, h, h' => by
  have := Ags s e cs (p + 1) i (by simpa [Ag8] using h) (by simpa using h')
  simp only [Ag8, List.getElem_cons_succ]
  rw [this, show p + 1 + i = p + (i + 1) by omega]
theorem Ah0 (s : Nat) : ∀ (cs : List Tr) (p : Nat), Am5 s p cs ↔ ∃ i, ∃ h : i < cs.length, (p + i = s /\ ∃ a k v, cs[i] = .leaf a k v) \/ cs[i].lslot s
 | [], p => by simp [Am5]
 | t :: cs, p => by
  simp only [Am5, Ah0 s cs (p + 1)]
  constructor
  ·rintro (h | h | ⟨i, hi, h⟩)
   ·exact ⟨0, by simp, .inl ⟨h.1, h.2⟩⟩
   ·exact ⟨0, by simp, .inr h⟩
   ·refine ⟨i + 1, by simp; omega, ?_⟩
    rw [show p + 1 + i = p + (i + 1) by omega] at h
    simpa using h
  ·rintro ⟨i, hi, h⟩
   cases i with
   | zero =>
    rcases h with h | h
    ·exact .inl ⟨h.1, h.2⟩
    ·exact .inr (.inl h)
   | succ i =>
    refine .inr (.inr ⟨i, by simpa using hi, ?_⟩)
    rw [show p + 1 + i = p + (i + 1) by omega]
    simpa using h
theorem Aol (s e : Nat) (t : Tr) : (t.cut s e).word = t.word := by cases t <;> rfl
theorem Ak5 {cs : List Tr} {y : Nat} (h : y ∈ Aak cs) : ∃ i, ∃ hi : i < cs.length, y ∈ cs[i].adrs := by
 obtain ⟨c, hc, hy⟩ := Aqh h
 obtain ⟨i, hi, rfl⟩ := List.getElem_of_mem hc
 exact ⟨i, hi, hy⟩
theorem Ak1 {cs : List Tr} (hn : (Aak cs).Nodup) {i j : Nat} (hi : i < cs.length) (hj : j < cs.length) {y : Nat} (h1 : y ∈ cs[i].adrs) (h2 : y ∈ cs[j].adrs) : i = j := by
 have key : ∀ {cs : List Tr}, (Aak cs).Nodup -> ∀ i j (hi : i < cs.length) (hj : j < cs.length), i < j -> y ∈ cs[i].adrs -> y ∈ cs[j].adrs -> False := by
  intro cs
  induction cs with
  | nil => intro _ i j hi; simp at hi
  | cons t cs ih =>
   intro hn i j hi hj hij h1 h2
   have hn' : (t.adrs ++ Aak cs).Nodup := hn
   rw [List.nodup_append] at hn'
   cases j with
   | zero => omega
   | succ j =>
    cases i with
    | zero => exact hn'.2.2 y h1 y (Acj (by simpa using hj) (by simpa using h2)) rfl
    | succ i => exact ih hn'.2.1 i j (by simpa using hi) (by simpa using hj) (by omega) (by simpa using h1) (by simpa using h2)
 rcases Nat.lt_trichotomy i j with h | h | h
 ·exact (key hn i j hi hj h h1 h2).elim
 ·exact h
 ·exact (key hn j i hj hi h h2 h1).elim
theorem Ajc {s : Nat} : ∀ t : Tr, t.lslot s -> s ∈ t.adrs := by
 intro t
 induction t using Tr.ind with
 | e a => exact fun h => h.elim
 | l a k v => exact fun h => h.elim
 | i a sz sh ch sm ks cs ih =>
  intro h
  obtain ⟨i, hi, h | h⟩ := (Ah0 s cs _).1 h
  ·simp only [Tr.adrs, List.mem_append, List.mem_range'_1]; exact .inl (by omega)
  ·simp only [Tr.adrs, List.mem_append]; exact .inr (Acj hi (ih _ (List.getElem_mem _) h))
theorem A5j {s e : Nat} : ∀ t : Tr, s ∉ t.adrs -> t.cut s e = t := by
 intro t
 induction t using Tr.ind with
 | e a => exact fun _ => rfl
 | l a k v => exact fun _ => rfl
 | i a sz sh ch sm ks cs ih =>
  intro h
  have h' : s ∉ List.range' a (2 * cs.length + 4) ++ Aak cs := h
  rw [List.mem_append, List.mem_range'_1] at h'
  show Tr.inner a sz sh ch sm ks (Ag8 s e (a + 4 + cs.length) cs) = _
  congr 1
  refine List.ext_getElem (Afn _ _ _ _) (fun i h1 h2 => ?_)
  rw [Ags s e cs _ i h1 h2, if_neg (fun e => h' (.inl (by omega))), ih _ (List.getElem_mem _) (fun e => h' (.inr (Acj h2 e)))]
structure A8s (C C' : List Int) (s e : Nat) : Prop where
 len : C'.length = C.length + 1
 e1 : e = C.length + 1
 s1 : 1 <= s /\ s <= C.length
 at' : at0 C' s = (e : Int) * 8 + 1
 old : ∀ y, y ≠ s -> y <= C.length -> at0 C' y = at0 C y
theorem A6j {C C' : List Int} {s e : Nat} (c : A8s C C' s e) : ∀ t : Tr, t.ok C -> t.adrs.Nodup -> (s ∈ t.adrs -> t.lslot s) -> (t.cut s e).ok C' := by
 have cl := c.len
 have ce := c.e1
 intro t
 induction t using Tr.ind with
 | e a =>
  intro h hn hs
  obtain ⟨h1, h2⟩ := h
  exact ⟨h1, by omega⟩
 | l a k v =>
  intro h hn hs
  have hs' : s ∉ (Tr.leaf a k v).adrs := fun e => (hs e).elim
  obtain ⟨h1, h2, h3, h4⟩ := h
  refine ⟨h1, by omega, ?_, ?_⟩
  ·rw [c.old a (fun e => hs' (by simp [Tr.adrs, e])) (by omega), h3]
  ·rw [c.old (a + 1) (fun e => hs' (by simp [Tr.adrs, e])) (by omega), h4]
 | i a sz sh ch sm ks cs ih =>
  intro h hn hs
  obtain ⟨⟨q1, q2, q3, q4⟩, ⟨p0, p1, p2, p3, p4⟩, hsh, hsz, hks, hcs, hoks⟩ := h
  have hn' := hn
  simp only [Tr.adrs, List.nodup_append] at hn'
  obtain ⟨_, hn2, hn3⟩ := hn'
  have hlen := Afn s e cs (a + 4 + cs.length)
  have hhead : ∀ y, a <= y -> y < a + 4 + cs.length -> y ≠ s := fun y y1 y2 e => by
   subst e
   have := hs (by simp only [Tr.adrs, List.mem_append, List.mem_range'_1]; exact .inl (by omega))
   obtain ⟨i, hi, h | h⟩ := (Ah0 y cs _).1 this
   ·omega
   ·exact hn3 y (List.mem_range'_1.2 (by omega)) y (Acj hi (Ajc _ h)) rfl
  have g : ∀ k, k < 4 + cs.length -> at0 C' (a + k) = at0 C (a + k) := fun k hk => c.old _ (hhead _ (by omega) (by omega)) (by omega)
  show (Tr.inner a sz sh ch sm ks (Ag8 s e (a + 4 + cs.length) cs)).ok C'
  refine ⟨⟨q1, by rw [hlen]; omega, by rw [hlen]; exact q3, q4⟩, ⟨by rw [hlen, <- p0]; exact g 0 (by omega), by rw [<- p1]; exact g 1 (by omega), by rw [<- p2]; exact g 2 (by omega), by rw [<- p3]; exact g 3 (by omega), by rw [<- p4]; exact g 4 (by omega)⟩, hsh, hsz, fun i hi => by rw [<- hks i hi, show a + 5 + i = a + (5 + i) by omega]; exact g _ (by omega), fun i hi => ?_, Ap2 (fun i hi => ?_)⟩
  ·have hi' : i < cs.length := by rw [<- hlen]; exact hi
   rw [hlen, Ags s e cs _ i hi hi']
   by_cases es : a + 4 + cs.length + i = s
   ·rw [if_pos es, es, c.at']; rfl
   ·rw [if_neg es, Aol, c.old _ es (by omega)]; exact hcs i hi'
  ·have hi' : i < cs.length := by rw [<- hlen]; exact hi
   rw [Ags s e cs _ i hi hi']
   by_cases es : a + 4 + cs.length + i = s
   ·rw [if_pos es]; exact ⟨by omega, by omega⟩
   ·rw [if_neg es]
    refine ih _ (List.getElem_mem _) (Ad4 hoks i hi') (Adl hi' hn2) (fun hsi => ?_)
    have := hs (by simp only [Tr.adrs, List.mem_append]; exact .inr (Acj hi' hsi))
    obtain ⟨j, hj, h | h⟩ := (Ah0 s cs _).1 this
    ·exact (hn3 s (List.mem_range'_1.2 (by omega)) s (Acj hi' hsi) rfl).elim
    ·have := Ak1 hn2 hi' hj hsi (Ajc _ h)
     subst this; exact h
theorem Ayt {s e : Nat} : ∀ t : Tr, ∀ y ∈ (t.cut s e).adrs, y ∈ t.adrs \/ y = e := by
 intro t
 induction t using Tr.ind with
 | e a => exact fun y h => .inl h
 | l a k v => exact fun y h => .inl h
 | i a sz sh ch sm ks cs ih =>
  intro y h
  have h : y ∈ List.range' a (2 * (Ag8 s e (a + 4 + cs.length) cs).length + 4) ++ Aak (Ag8 s e (a + 4 + cs.length) cs) := h
  have hlen := Afn s e cs (a + 4 + cs.length)
  rw [hlen, List.mem_append] at h
  rcases h with h | h
  ·exact .inl (by simp only [Tr.adrs, List.mem_append]; exact .inl h)
  ·obtain ⟨i, hi, hy⟩ := Ak5 h
   have hi' : i < cs.length := by rw [<- hlen]; exact hi
   rw [Ags s e cs _ i hi hi'] at hy
   split at hy
   ·exact .inr (by simpa [Tr.adrs] using hy)
   ·rcases ih _ (List.getElem_mem _) y hy with q | q
    ·exact .inl (by simp only [Tr.adrs, List.mem_append]; exact .inr (Acj hi' q))
    ·exact .inr q
theorem Als : ∀ {cs : List Tr}, (∀ i (h : i < cs.length), cs[i].adrs.Nodup) -> (∀ i j (hi : i < cs.length) (hj : j < cs.length) y, y ∈ cs[i].adrs -> y ∈ cs[j].adrs -> i = j) -> (Aak cs).Nodup
 | [], _, _ => List.nodup_nil
 | t :: cs, h1, h2 => by
  show (t.adrs ++ Aak cs).Nodup
  rw [List.nodup_append]
  refine ⟨h1 0 (by simp), Als (fun i hi => h1 (i + 1) (by simpa using hi)) (fun i j hi hj y a b => by
   have := h2 (i + 1) (j + 1) (by simpa using hi) (by simpa using hj) y (by simpa using a) (by simpa using b); omega), fun x hx y hy exy => ?_⟩
  subst exy
  obtain ⟨i, hi, hy⟩ := Ak5 hy
  have := h2 0 (i + 1) (by simp) (by simpa using hi) x (by simpa using hx) (by simpa using hy)
  omega
theorem A3j {s e : Nat} : ∀ t : Tr, e ∉ t.adrs -> e ∈ (t.cut s e).adrs -> s ∈ t.adrs := by
 intro t he h
 by_cases hs : s ∈ t.adrs
 ·exact hs
 ·rw [A5j t hs] at h; exact (he h).elim
theorem Az4 {s e : Nat} : ∀ t : Tr, t.adrs.Nodup -> e ∉ t.adrs -> (t.cut s e).adrs.Nodup := by
 intro t
 induction t using Tr.ind with
 | e a => exact fun h _ => h
 | l a k v => exact fun h _ => h
 | i a sz sh ch sm ks cs ih =>
  intro hn he
  have hlen := Afn s e cs (a + 4 + cs.length)
  have hn' := hn
  simp only [Tr.adrs, List.nodup_append] at hn'
  obtain ⟨_, hn2, hn3⟩ := hn'
  have he' : e ∉ List.range' a (2 * cs.length + 4) ++ Aak cs := he
  rw [List.mem_append] at he'
  have hec : ∀ i (h : i < cs.length), e ∉ cs[i].adrs := fun i h q => he' (.inr (Acj h q))
  show (List.range' a (2 * (Ag8 s e (a + 4 + cs.length) cs).length + 4) ++ Aak (Ag8 s e (a + 4 + cs.length) cs)).Nodup
  have sub : ∀ i (hi : i < (Ag8 s e (a + 4 + cs.length) cs).length) y, y ∈ (Ag8 s e (a + 4 + cs.length) cs)[i].adrs -> ∃ h' : i < cs.length, y ∈ cs[i].adrs \/ (y = e /\ (a + 4 + cs.length + i = s \/ s ∈ cs[i].adrs)) := fun i hi y hy => by
   have hi' : i < cs.length := by rw [<- hlen]; exact hi
   refine ⟨hi', ?_⟩
   rw [Ags s e cs _ i hi hi'] at hy
   split at hy
   ·rename_i es
    exact .inr ⟨by simpa [Tr.adrs] using hy, .inl es⟩
   ·rcases Ayt _ y hy with q | q
    ·exact .inl q
    ·subst q; exact .inr ⟨rfl, .inr (A3j _ (hec i hi') hy)⟩
  rw [List.nodup_append]
  refine ⟨List.nodup_range', Als (fun i hi => ?_) (fun i j hi hj y h1 h2 => ?_), fun x hx y hy exy => ?_⟩
  ·have hi' : i < cs.length := by rw [<- hlen]; exact hi
   rw [Ags s e cs _ i hi hi']
   split
   ·simp [Tr.adrs]
   ·exact ih _ (List.getElem_mem _) (Adl hi' hn2) (hec i hi')
  ·obtain ⟨hi', k1⟩ := sub i hi y h1
   obtain ⟨hj', k2⟩ := sub j hj y h2
   rcases k1 with k1 | ⟨ey, k1⟩
   ·rcases k2 with k2 | ⟨ey, k2⟩
    ·exact Ak1 hn2 hi' hj' k1 k2
    ·exact (hec i hi' (ey ▸ k1)).elim
   ·rcases k2 with k2 | ⟨_, k2⟩
    ·exact (hec j hj' (ey ▸ k2)).elim
    ·rcases k1 with k1 | k1 <;> rcases k2 with k2 | k2
     ·omega
     ·exact (hn3 s (List.mem_range'_1.2 (by omega)) s (Acj hj' k2) rfl).elim
     ·exact (hn3 s (List.mem_range'_1.2 (by omega)) s (Acj hi' k1) rfl).elim
     ·exact Ak1 hn2 hi' hj' k1 k2
  ·subst exy
   rw [hlen] at hx
   obtain ⟨i, hi, hy⟩ := Ak5 hy
   obtain ⟨hi', k1⟩ := sub i hi x hy
   rcases k1 with k1 | ⟨ey, _⟩
   ·exact hn3 x hx x (Acj hi' k1) rfl
   ·exact he' (.inl (ey ▸ hx))
theorem As0 {s e p : Nat} : ∀ {cs : List Tr} {c : Tr}, c ∈ Ag8 s e p cs -> c = .empty e \/ ∃ c0 ∈ cs, c = c0.cut s e
 | t :: cs, c, h => by
  simp only [Ag8, List.mem_cons] at h
  rcases h with h | h
  ·split at h
   ·exact .inl h
   ·exact .inr ⟨t, by simp, h⟩
  ·rcases As0 h with q | ⟨c0, q1, q2⟩
   ·exact .inl q
   ·exact .inr ⟨c0, List.mem_cons_of_mem _ q1, q2⟩
theorem A4g {s e : Nat} : ∀ t : Tr, t.old -> (t.cut s e).old := by
 intro t
 induction t using Tr.ind with
 | e a => exact fun h => h
 | l a k v => exact fun h => h
 | i a sz sh ch sm ks cs ih =>
  intro h
  obtain ⟨h1, h2, h3⟩ := h
  refine ⟨by rw [Afn]; exact h1, h2, Aq1 (fun c hc => ?_)⟩
  rcases As0 hc with rfl | ⟨c0, q, rfl⟩
  ·exact trivial
  ·obtain ⟨i, hi, rfl⟩ := List.getElem_of_mem q
   exact ih _ (List.getElem_mem _) (Anw h3 i hi)
theorem Aq2 {s e : Nat} : ∀ t : Tr, (t.cut s e).content.Sublist t.content := by
 intro t
 induction t using Tr.ind with
 | e a => exact List.Sublist.refl _
 | l a k v => exact List.Sublist.refl _
 | i a sz sh ch sm ks cs ih =>
  show (Aaf (Ag8 s e (a + 4 + cs.length) cs)).Sublist (Aaf cs)
  have key : ∀ (cs' : List Tr) (p : Nat), (∀ c ∈ cs', (c.cut s e).content.Sublist c.content) -> (Aaf (Ag8 s e p cs')).Sublist (Aaf cs') := by
   intro cs'
   induction cs' with
   | nil => intro p _; exact List.Sublist.refl _
   | cons t cs' ihc =>
    intro p h
    simp only [Ag8, Aaf]
    refine List.Sublist.append ?_ (ihc _ (fun c hc => h c (List.mem_cons_of_mem _ hc)))
    split
    ·exact List.nil_sublist _
    ·exact h t (by simp)
  exact key cs _ ih
theorem A0o {s e : Nat} : ∀ t : Tr, (t.cut s e).deep <= t.deep := by
 intro t
 induction t using Tr.ind with
 | e a => exact Nat.le_refl _
 | l a k v => exact Nat.le_refl _
 | i a sz sh ch sm ks cs ih =>
  show 1 + Adg (Ag8 s e (a + 4 + cs.length) cs) <= 1 + Adg cs
  have key : ∀ (cs' : List Tr) (p : Nat), (∀ c ∈ cs', (c.cut s e).deep <= c.deep) -> Adg (Ag8 s e p cs') <= Adg cs' := by
   intro cs'
   induction cs' with
   | nil => intro p _; exact Nat.le_refl _
   | cons t cs' ihc =>
    intro p h
    have h1 := ihc (p + 1) (fun c hc => h c (List.mem_cons_of_mem _ hc))
    have h2 := h t (by simp)
    simp only [Ag8, Adg]
    split
    ·simp only [Tr.deep]; omega
    ·omega
  have := key cs (a + 4 + cs.length) ih
  omega
theorem A4o {s e : Nat} : ∀ (t : Tr) (lo hi : Int), t.ord lo hi -> (t.cut s e).ord lo hi := by
 intro t
 induction t using Tr.ind with
 | e a => exact fun _ _ h => h
 | l a k v => exact fun _ _ h => h
 | i a sz sh ch sm ks cs ih =>
  intro lo hi h
  have key : ∀ (cs' : List Tr) (ks : List Int) (p : Nat) (lo : Int), (∀ c ∈ cs', ∀ lo hi, c.ord lo hi -> (c.cut s e).ord lo hi) -> A0b lo hi ks cs' -> A0b lo hi ks (Ag8 s e p cs') := by
   intro cs'
   induction cs' with
   | nil => intro ks p lo _ h; exact h
   | cons t cs' ihc =>
    intro ks p lo h ho
    cases ks with
    | nil =>
     cases cs' with
     | nil =>
      simp only [Ag8]
      show Tr.ord lo hi (if p = s then Tr.empty e else t.cut s e)
      split
      ·exact trivial
      ·exact h t (by simp) _ _ ho
     | cons _ _ => exact ho.elim
    | cons k ks =>
     obtain ⟨h1, h2, h3, h4⟩ := ho
     refine ⟨h1, h2, ?_, ihc ks (p + 1) k (fun c hc => h c (List.mem_cons_of_mem _ hc)) h4⟩
     split
     ·exact trivial
     ·exact h t (by simp) _ _ h3
  exact key cs ks _ lo ih h
theorem Ald : ∀ (t : Tr) (s : Nat) (w : Int), ((s : Int), w) ∈ t.spots -> w % 8 = 2 -> t.lslot s := by
 intro t
 induction t using Tr.ind with
 | e a => intro s w h; simp [Tr.spots] at h
 | l a k v => intro s w h; simp [Tr.spots] at h
 | i a sz sh ch sm ks cs ih =>
  intro s w h hw
  have key : ∀ (cs' : List Tr) (p : Nat), (∀ c ∈ cs', ∀ (s : Nat) (w : Int), ((s : Int), w) ∈ c.spots -> w % 8 = 2 -> c.lslot s) -> ((s : Int), w) ∈ Abx p cs' -> Am5 s p cs' := by
   intro cs'
   induction cs' with
   | nil => intro p _ h; simp [Abx] at h
   | cons t cs' ihc =>
    intro p hh h
    simp only [Abx, List.mem_cons, List.mem_append] at h
    rcases h with h | h | h
    ·simp only [Prod.mk.injEq] at h
     refine .inl ⟨by omega, ?_⟩
     cases t with
     | empty x => simp only [Tr.word, Tr.adr, Tr.kind] at h; omega
     | leaf x k v => exact ⟨x, k, v, rfl⟩
     | inner x _ _ _ _ _ _ => simp only [Tr.word, Tr.adr, Tr.kind] at h; omega
    ·exact .inr (.inl (hh t (by simp) s w h hw))
    ·exact .inr (.inr (ihc (p + 1) (fun c hc => hh c (List.mem_cons_of_mem _ hc)) h))
  exact key cs _ ih h
theorem Azt {s e : Nat} : ∀ t : Tr, (t.cut s e).spots.length <= t.spots.length := by
 intro t
 induction t using Tr.ind with
 | e a => exact Nat.le_refl _
 | l a k v => exact Nat.le_refl _
 | i a sz sh ch sm ks cs ih =>
  show (Abx (a + 4 + (Ag8 s e (a + 4 + cs.length) cs).length) (Ag8 s e (a + 4 + cs.length) cs)).length <= (Abx (a + 4 + cs.length) cs).length
  have key : ∀ (cs' : List Tr) (p q : Nat), (∀ c ∈ cs', (c.cut s e).spots.length <= c.spots.length) -> (Abx q (Ag8 s e p cs')).length <= (Abx q cs').length := by
   intro cs'
   induction cs' with
   | nil => intro p q _; exact Nat.le_refl _
   | cons t cs' ihc =>
    intro p q h
    have h1 := ihc (p + 1) (q + 1) (fun c hc => h c (List.mem_cons_of_mem _ hc))
    have h2 := h t (by simp)
    simp only [Ag8, Abx, List.length_cons, List.length_append]
    split
    ·simp only [Tr.spots, List.length_nil]; omega
    ·omega
  rw [Afn]
  exact key cs _ _ ih
open Go.RowKit
def tyL (nx : Int) (sl : Value) (i was full : Int) (rp : Value) : List Value := [I nx, sl, I i, I was, I full, rp]
structure TyF (h : Aac) (b : Nat) (E : List En) (uy : Option Nat) (nx : Int) (i : Nat) (was full : Int) (rp : Value) : Prop where
 ex : ∃ sl, Rcd h b (tyL nx sl i was full rp) /\ Adx h sl 3 E.length (A3i E) uy
 ub : uy ≠ some b
 ul : ∀ y, uy = some y -> y < h.nq
 sc : Aas rp = true
theorem TyF.lt {h : Aac} {b : Nat} {E : List En} {uy : Option Nat} {nx was full : Int} {i : Nat} {rp : Value} (t : TyF h b E uy nx i was full rp) : ∀ j, cl b uy j -> j < h.nq := fun j hj => hj.elim (fun e => by obtain ⟨_, rc, _⟩ := t.ex; rw [e]; exact rc.lt) (fun e => t.ul j e)
theorem TyF.same {h h' : Aac} {b : Nat} {E : List En} {uy : Option Nat} {nx was full : Int} {i : Nat} {rp : Value} {S : Nat -> Prop} (t : TyF h b E uy nx i was full rp) (s : Aad h h' S) (hS : ∀ j, cl b uy j -> ¬ S j) : TyF h' b E uy nx i was full rp := by
 obtain ⟨sl, e1, e2⟩ := t.ex
 exact ⟨⟨sl, e1.same s (hS b (.inl rfl)), e2.same s (fun y hy => hS y (.inr hy))⟩, t.ub, fun y hy => Nat.lt_of_lt_of_le (t.ul y hy) s.nq, t.sc⟩
section
variable (hT : Aa0 P tab) (HT : A2i tab) (HR : Aem tab)
include hT HT
include HR in
end
section
variable (hT : Aa0 P tab) (HT : A2i tab) (HR : Aem tab) (V : Aea tab) (H : Has tab) (V9 : Acg tab) (HM : Agf tab)
include hT HT V H V9 HM
include HR in
end
theorem Av0 : ∀ (t : Tr) (l : List Pr), t.fits l -> t.adrs.length = Abf l.length := by
 intro t
 induction t using Tr.ind with
 | e a => intro l h; cases h; rw [List.length_nil, Am1]; rfl
 | l a k v => intro l h; cases h; rw [List.length_singleton, Ate]; rfl
 | i a sz sh ch sm ks cs ih =>
  intro l h
  obtain ⟨⟨h2, h120⟩, _, _, hd, hf⟩ := h
  have pn := Ac7 h2 h120
  have d2 := pn.deg2
  have key : ∀ i, i <= cs.length -> (Aak (cs.take i)).length = A0q (fun i => Abf (Abs l.length i)) i := by
   intro i
   induction i with
   | zero => intro _; simp [Aak, A0q]
   | succ i ihi =>
    intro hi
    have e := ih cs[i] (List.getElem_mem _) _ (Ad0 hf i hi)
    rw [Nat.zero_add, Abu h2 h120 (by omega)] at e
    rw [Aef cs (by omega), Ab8, List.length_append, ihi (by omega)]
    simp only [Aak, List.append_nil, A0q, e]
  have e := key cs.length (Nat.le_refl _)
  rw [List.take_length, hd] at e
  show (List.range' a (2 * cs.length + 4) ++ Aak cs).length = _
  rw [List.length_append, List.length_range', e, pn.cells, hd]
  omega
theorem A2c {t : Tr} {l : List Pr} (h : t.fits l) (hl : l.length <= 120) : t.deep <= 100 := by
 rw [Axz t l h]
 have := At2
 simp only [Bool.and_eq_true] at this
 exact Nat.le_of_ble_eq_true (List.all_eq_true.1 this.2 _ (List.mem_range.2 (by omega)))
structure TI (l : List Pr) (a : Nat) (ks : List Int) (cs : List Tr) (i : Nat) (m : PM) : Prop where
 f : m.fine
 z : m.z = 9000
 o : m.o = 0
 len : 7 <= m.C.length
 base : at0 m.C 1 = 1 /\ at0 m.C 3 = 0
 root : at0 m.C 6 = (a : Int) * 8 + 3
 fits : (Tr.inner a (l.length : Nat) 0 0 0 ks cs).fits l
 ok : (Tr.inner a (l.length : Nat) 0 i 0 ks cs).ok m.C
 adr : ∀ y ∈ (Tr.inner a (l.length : Nat) 0 0 0 ks cs).adrs, 8 <= y /\ y <= m.C.length
 nodup : (Tr.inner a (l.length : Nat) 0 0 0 ks cs).adrs.Nodup
section
variable (hT : Aa0 P tab) (HT : A2i tab) (HR : Aem tab) (HRw : tab 28 = some af28) (HP : Aid tab) (Nu : Num P) (HS : Afx tab) (HKM : Ah3 tab) (HMk : Air tab) (HK : Ae4 tab) (HG : Aep tab) (G : Amh tab) (V : Aea tab) (H : Has tab) (V9 : Acg tab) (HM : Agf tab)
include hT HT HR HRw HP Nu HS HKM HMk HK HG G V H V9 HM
end
theorem Auq {C : List Int} : ∀ t : Tr, t.ok C -> ∀ p ∈ t.spots, ∃ (s : Nat) (c : Tr), p = ((s : Int), c.word) /\ s ∈ t.adrs /\ c.ok C := by
 intro t
 induction t using Tr.ind with
 | e a => intro _ p h; simp [Tr.spots] at h
 | l a k v => intro _ p h; simp [Tr.spots] at h
 | i a sz sh ch sm ks cs ih =>
  intro hok p h
  obtain ⟨_, _, _, _, _, _, hoks⟩ := hok
  have key : ∀ (cs' : List Tr) (q : Nat), (∀ c ∈ cs', c ∈ cs) -> p ∈ Abx q cs' -> ∃ (s : Nat) (c : Tr), p = ((s : Int), c.word) /\ ((q <= s /\ s < q + cs'.length) \/ s ∈ Aak cs') /\ c.ok C := by
   intro cs'
   induction cs' with
   | nil => intro q _ h; simp [Abx] at h
   | cons t cs' ihc =>
    intro q hm h
    obtain ⟨i, hi, et⟩ := List.getElem_of_mem (hm t (by simp))
    have tok : t.ok C := et ▸ Ad4 hoks i hi
    simp only [Abx, List.mem_cons, List.mem_append] at h
    rcases h with h | h | h
    ·exact ⟨q, t, h, .inl (by simp), tok⟩
    ·obtain ⟨s, c, e1, e2, e3⟩ := ih t (hm t (by simp)) tok p h
     exact ⟨s, c, e1, .inr (by simp only [Aak, List.mem_append]; exact .inl e2), e3⟩
    ·obtain ⟨s, c, e1, e2, e3⟩ := ihc (q + 1) (fun c hc => hm c (List.mem_cons_of_mem _ hc)) h
     refine ⟨s, c, e1, ?_, e3⟩
     rcases e2 with e2 | e2
     ·exact .inl (by simp only [List.length_cons]; omega)
     ·exact .inr (by simp only [Aak, List.mem_append]; exact .inr e2)
  obtain ⟨s, c, e1, e2, e3⟩ := key cs _ (fun c hc => hc) h
  refine ⟨s, c, e1, ?_, e3⟩
  simp only [Tr.adrs, List.mem_append, List.mem_range'_1]
  rcases e2 with e2 | e2
  ·exact .inl (by omega)
  ·exact .inr e2
theorem A1i : ∀ t : Tr, 1 <= t.adrs.length
 | .empty a => by simp [Tr.adrs]
 | .leaf a k v => by simp [Tr.adrs]
 | .inner a sz sh ch sm ks cs => by simp [Tr.adrs]; omega
theorem Apm {s e : Nat} : ∀ t : Tr, (t.cut s e).adrs.length <= t.adrs.length := by
 intro t
 induction t using Tr.ind with
 | e a => exact Nat.le_refl _
 | l a k v => exact Nat.le_refl _
 | i a sz sh ch sm ks cs ih =>
  show (List.range' a (2 * (Ag8 s e (a + 4 + cs.length) cs).length + 4) ++ Aak (Ag8 s e (a + 4 + cs.length) cs)).length <= (List.range' a (2 * cs.length + 4) ++ Aak cs).length
  have key : ∀ (cs' : List Tr) (p : Nat), (∀ c ∈ cs', (c.cut s e).adrs.length <= c.adrs.length) -> (Aak (Ag8 s e p cs')).length <= (Aak cs').length := by
   intro cs'
   induction cs' with
   | nil => intro p _; exact Nat.le_refl _
   | cons t cs' ihc =>
    intro p h
    have h1 := ihc (p + 1) (fun c hc => h c (List.mem_cons_of_mem _ hc))
    have h2 := h t (by simp)
    have h3 := A1i t
    simp only [Ag8, Aak, List.length_append]
    split
    ·simp only [Tr.adrs, List.length_cons, List.length_nil]; omega
    ·omega
  have := key cs (a + 4 + cs.length) ih
  simp only [List.length_append, List.length_range', Afn]
  omega
structure CT (l : List Pr) (w : Int) (i : Nat) (t : Tr) (m : PM) : Prop where
 R : Ah6 m.C t
 word : t.word = w
 low : ∀ y ∈ t.adrs, 8 <= y /\ y <= m.C.length
 nd : t.adrs.Nodup
 old : t.old
 sub : t.content.Sublist l
 deep : t.deep <= 100
 cells : t.adrs.length <= 1200
 spots : t.spots.length < 90000
 len : m.C.length <= 1200 + i
 z : m.z = 4000
 o : m.o = 0
 r : m.r = 0
 c : 0 <= m.c /\ m.c <= 1300 + 2 * i
theorem CT.cut {l : List Pr} {w : Int} {i : Nat} {t : Tr} {m : PM} (T : CT l w i t m) (hi : i < 100) {s : Nat} {wd : Int} (hs : ((s : Int), wd) ∈ t.spots) (hw : wd % 8 = 2) : CT l w (i + 1) (t.cut s (m.C.length + 1)) ⟨(m.C ++ [0]).set (s - 1) (((m.C.length + 1 : Nat) : Int) * 8 + 1), m.z, m.c + 2, m.o, m.r⟩ := by
 have hl := Ald t s wd hs hw
 have hsa := Ajc t hl
 have hsl := T.low s hsa
 have hlen := T.len
 have hlen0 := T.R.len
 have g : ∀ y, y ≠ s -> y <= m.C.length -> at0 ((m.C ++ [0]).set (s - 1) (((m.C.length + 1 : Nat) : Int) * 8 + 1)) y = at0 m.C y := fun y h1 h2 => by
  by_cases h0 : y = 0
  ·subst h0; rfl
  ·rw [Aj0 (by omega) (by omega) (by simp; omega), if_neg h1, Agn (by omega) h2]
 have c : A8s m.C ((m.C ++ [0]).set (s - 1) (((m.C.length + 1 : Nat) : Int) * 8 + 1)) s (m.C.length + 1) :=
  ⟨by simp, rfl, by omega, by rw [Aj0 (by omega) (by omega) (by simp; omega), if_pos rfl], g⟩
 have he : m.C.length + 1 ∉ t.adrs := fun h => by have := T.low _ h; omega
 have low : ∀ y ∈ (t.cut s (m.C.length + 1)).adrs, 8 <= y /\ y <= m.C.length + 1 := fun y hy => by
  rcases Ayt t y hy with q | q
  ·have := T.low y q; omega
  ·omega
 have nd := Az4 (s := s) t T.nd he
 have hcl : ((m.C ++ [0]).set (s - 1) (((m.C.length + 1 : Nat) : Int) * 8 + 1)).length = m.C.length + 1 := c.len
 have hsp := Azt (s := s) (e := m.C.length + 1) t
 have hdp := A0o (s := s) (e := m.C.length + 1) t
 have had := Apm (s := s) (e := m.C.length + 1) t
 have := T.spots
 have := T.deep
 have := T.cells
 have := T.c
 refine ⟨⟨by show 7 <= _ /\ _ <= _; rw [hcl]; omega, ⟨by rw [g 1 (by omega) (by omega)]; exact T.R.base.1, by rw [g 3 (by omega) (by omega)]; exact T.R.base.2⟩, by rw [g 6 (by omega) (by omega), Aol]; exact T.R.root, A6j c t T.R.ok T.nd (fun _ => hl), A4o t _ _ T.R.ord, ?_, by omega⟩, by rw [Aol]; exact T.word, fun y hy => by show 8 <= y /\ y <= _; rw [hcl]; exact low y hy, nd, A4g t T.old, (Aq2 t).trans T.sub, by omega, by omega, by omega, by show _ <= _; rw [hcl]; omega, T.z, T.o, T.r, by show 0 <= m.c + 2 /\ m.c + 2 <= _; omega⟩
 refine Ar7 _ _ (fun y hy => ?_) nd
 have := low y hy
 exact Alg (by omega) (by show y <= _; rw [hcl]; omega)
theorem CT.more {l : List Pr} {w : Int} {i : Nat} {t : Tr} {m : PM} (T : CT l w i t m) : CT l w (i + 1) t m :=
 ⟨T.R, T.word, T.low, T.nd, T.old, T.sub, T.deep, T.cells, T.spots, by have := T.len; omega, T.z, T.o, T.r, by have := T.c; omega⟩
structure Aum (tab : Nat -> Option Aae) : Prop where
 xspots : tab 7 = some af7
 xalone : tab 3 = some af3
theorem A7q : Aum tabT.get := ⟨by kernel_rfl, by kernel_rfl⟩
def xaC : Acb := (.seq (.seq (.ops [⟨(some 26), .p (.mov (.t 9)), none⟩, ⟨(some 27), .p (.mov (.t 1)), none⟩, ⟨(some 28), .p (.len false (.t 27)), none⟩, ⟨(some 29), .p (.bin .lss false (.t 26) (.t 28)), none⟩, ⟨(some 30), .p (.mov (.t 29)), none⟩, ⟨(some 31), .p (.mov (.t 9)), some (30, true)⟩, ⟨(some 32), .p (.bin .lss false (.t 31) (.c (.int .i64 20))), some (30, true)⟩, ⟨(some 33), .p (.pick (.t 30) (.t 32) (.c (.bool false))), none⟩]) (.cond (.t 33) .skip (.exit 0))) (.seq (.block 1 (.seq (.ops [⟨(some 36), .p (.mov (.t 7)), none⟩, ⟨(some 37), .call 7 [(.t 36)], none⟩, ⟨(some 10), .p (.mov (.t 37)), none⟩]) (.seq (.ops [⟨(some 38), .p (.mov (.t 10)), none⟩, ⟨(some 39), .p (.mov (.t 1)), none⟩, ⟨(some 40), .p (.mov (.t 9)), none⟩, ⟨(some 41), .p (.idxS 1 (.t 39) (.t 40)), none⟩, ⟨(some 42), .r (.load1 (.t 41)), none⟩, ⟨(some 43), .p (.mov (.t 10)), none⟩, ⟨(some 44), .p (.len false (.t 43)), none⟩, ⟨(some 45), .call 8 [(.t 42), (.t 44)], none⟩, ⟨(some 46), .p (.idxS 2 (.t 38) (.t 45)), none⟩, ⟨(some 47), .r (.loadN 2 (.t 46)), none⟩, ⟨(some 11), .e (.alloc [(.int .i64 0), (.int .i64 0)]), none⟩, ⟨none, .e (.store 2 (.t 11) (.t 47)), none⟩]) (.seq (.ops [⟨(some 48), .p (.fieldAddr 1 (.t 11)), none⟩, ⟨(some 49), .r (.load1 (.t 48)), none⟩, ⟨(some 50), .call 9 [(.t 49)], none⟩, ⟨(some 51), .p (.bin .eql false (.t 50) (.c (.int .i64 2))), none⟩, ⟨(some 52), .p (.mov (.t 51)), none⟩, ⟨(some 53), .p (.fieldAddr 0 (.t 11)), some (52, true)⟩, ⟨(some 54), .r (.load1 (.t 53)), some (52, true)⟩, ⟨(some 55), .p (.bin .neq false (.t 54) (.c (.int .i64 6))), some (52, true)⟩, ⟨(some 56), .p (.pick (.t 52) (.t 55) (.c (.bool false))), none⟩]) (.cond (.t 56) (.seq (.ops [⟨(some 58), .p (.mov (.t 7)), none⟩, ⟨(some 59), .call 11 [], none⟩, ⟨(some 60), .call 10 [(.t 58), (.t 59)], none⟩, ⟨(some 57), .p (.mov (.t 60)), none⟩, ⟨(some 61), .p (.ext 0 (.t 57)), none⟩, ⟨(some 62), .p (.ext 1 (.t 57)), none⟩, ⟨(some 12), .p (.mov (.t 61)), none⟩, ⟨(some 13), .p (.mov (.t 62)), none⟩]) (.draw [⟨(some 63), .p (.mov (.t 7)), none⟩, ⟨(some 64), .p (.fieldAddr 0 (.t 11)), none⟩, ⟨(some 65), .r (.load1 (.t 64)), none⟩, ⟨(some 66), .p (.mov (.t 12)), none⟩, ⟨(some 67), .call 13 [(.c (.int .i64 1)), (.t 66)], none⟩, ⟨(some 68), .call 12 [(.t 63), (.t 65), (.t 67)], none⟩] [(0, 1), (0, 1), (0, 1), (0, 0), (0, 1), (1, 2)])) .skip))))) (.ops [⟨(some 34), .p (.mov (.t 9)), none⟩, ⟨(some 35), .p (.bin .add false (.t 34) (.c (.int .i64 1))), none⟩, ⟨(some 9), .p (.mov (.t 35)), none⟩])))
def xaS : Acb := (.seq (.seq (.ops [⟨(some 79), .p (.mov (.t 16)), none⟩, ⟨(some 80), .p (.bin .lss false (.t 79) (.c (.int .i64 200000))), none⟩, ⟨(some 81), .p (.mov (.t 80)), none⟩, ⟨(some 82), .p (.mov (.t 15)), some (81, true)⟩, ⟨(some 83), .p (.mov (.t 7)), some (81, true)⟩, ⟨(some 84), .call 17 [(.t 82), (.t 83)], some (81, true)⟩, ⟨(some 85), .p (.not (.t 84)), some (81, true)⟩, ⟨(some 86), .p (.pick (.t 81) (.t 85) (.c (.bool false))), none⟩]) (.cond (.t 86) .skip (.exit 2))) (.seq (.block 3 .skip) (.ops [⟨(some 87), .p (.mov (.t 16)), none⟩, ⟨(some 88), .p (.bin .add false (.t 87) (.c (.int .i64 1))), none⟩, ⟨(some 16), .p (.mov (.t 88)), none⟩])))
section
variable (hT : Aa0 P tab) (V : Aea tab)
include hT V
theorem Avt (HX : Aum tab) (H : Has tab) (V2 : Aje tab) (V3 : Ail tab) (V4 : Aku tab) {h : Aac} {bm : Nat} {um : Option Nat} {C : List Int} {z c o r : Int} {t : Tr} (m : Aa2 h bm um C z c o r) (R : Ah6 C t) : Aah P 7 [(pp bm)] h fun v h' => (∃ us, v = Aal us (t.spots.length + 1) /\ Abh h' us 2 (t.spots.length + 1) (Ady (((6 : Int), t.word) :: t.spots))) /\ Aad h h' (fun _ => False) := by
 refine Aaa hT HX.xspots rfl ?_
 obtain ⟨_, h1, F1, bt, ut, us, rfl, w, _, s1⟩ := Ae3 hT V H V2 V3 V4 m R
 have r2 : h1.rd bt 2 = some (Aal us (t.spots.length + 1)) := Abb w.blk
 have osp : Abh h1 us 2 (t.spots.length + 1) (Ady (((6 : Int), t.word) :: t.spots)) := w.sp
 simp only [SV, SS, seval, af7]
 refine ⟨_, _, F1, ?_⟩
 simp only [SV, SS, seval, r2]
 rw [Aab h h1 s1.mq]
 exact ⟨⟨us, rfl, osp⟩, s1⟩
end
structure CI (hB : Aac) (gv : Value) (bm xm : Nat) (l : List Pr) (w : Int) (i : Nat) (ts : T Value) (hh : Aac) : Prop where
 l1 : look ts 1 = gv
 l7 : look ts 7 = (pp bm)
 l8 : look ts 8 = I w
 l9 : look ts 9 = I i
 ex : ∃ t m um, CT l w i t m /\ Aa8 hh bm um m /\ (∀ y, um = some y -> y = xm \/ hB.nq <= y)
 same : Aad hB hh (cl bm (some xm))
theorem Avd {m : PM} {s : Nat} {v : Int} (h1 : 1 <= s) (h2 : s <= m.C.length) : (m.more [0]).write (s : Int) v = ⟨(m.C ++ [0]).set (s - 1) v, m.z, m.c + 2, m.o, m.r⟩ := by
 have hin : (m.more [0]).isin (s : Int) := ⟨by omega, by show (s : Int) <= ((m.C ++ [0]).length : Nat); simp; omega⟩
 have hin2 : PM.isin { m.more [0] with C := (m.more [0]).C.set ((s : Int) - 1).toNat v } (s : Int) := ⟨hin.1, by show (s : Int) <= (((m.C ++ [0]).set _ v).length : Nat); simp; omega⟩
 unfold PM.write PM.put
 rw [if_pos hin]
 unfold PM.tick
 rw [if_pos hin2]
 show PM.mk ((m.C ++ [0]).set ((s : Int) - 1).toNat v) m.z (m.c + 1 + 1) m.o m.r = _
 rw [show ((s : Int) - 1).toNat = s - 1 by omega, show m.c + 1 + 1 = m.c + 2 by omega]
theorem CT.fine {l : List Pr} {w : Int} {i : Nat} {t : Tr} {m : PM} (T : CT l w i t m) (hi : i <= 100) : m.fine :=
 ⟨by rw [T.z]; omega, by rw [T.z]; omega, by rw [T.z]; have := T.len; omega, by have := T.c; omega, by rw [T.o]; omega, by rw [T.r]; omega⟩
section
variable (hT : Aa0 P tab) (HX : Aum tab) (V : Aea tab) (H : Has tab) (V9 : Acg tab) (V2 : Aje tab) (V3 : Ail tab) (V4 : Aku tab)
include hT HX V H V9 V2 V3 V4
set_option maxHeartbeats 1000000 in
theorem A23 {LI : List Int} {gv : Value} {hB : Aac} {bm xm : Nat} (hbl : bm < hB.nq) (ag : ∀ hh, Aad hB hh (cl bm (some xm)) -> ∀ i (hi : i < LI.length), ∃ x p cap, gv = .slice (some ⟨x, p, none⟩) LI.length cap /\ hh.rd x (p + i) = some (I LI[i])) {l : List Pr} {w : Int} {i : Nat} (hi : i < LI.length) (h20 : i < 20) {ts : Ai.T Value} {hh : Aac} (g : CI hB gv bm xm l w i ts hh) :
  CW P 155 none xaC ts hh fun e ts' h' => e = .normal /\ CI hB gv bm xm l w (i + 1) ts' h' := by
 obtain ⟨l1, l7, l8, l9, ⟨t, m, um, T, mm, un⟩, same⟩ := g
 have xh := same.nq
 have mmA : Aa2 hh bm um m.C m.z m.c m.o m.r := mm
 obtain ⟨_, h1, F1, ⟨us, rfl, osp⟩, s1⟩ := Avt hT V HX H V2 V3 V4 mmA T.R
 have x1 := s1.nq
 have same1 : Aad hB h1 (cl bm (some xm)) := same.trans s1 (fun _ _ x => x.elim)
 have mm1 := mm.same s1 (fun _ _ x => x)
 obtain ⟨x, p, cap, rfl, rk⟩ := ag h1 same1 i hi
 obtain ⟨y, rfl⟩ : ∃ y, us = some y := by
  cases us with
  | none => have := osp.non rfl; omega
  | some y => exact ⟨y, rfl⟩
 have F1 : Aa3 P 7 [(pp bm)] hh (.slice (some ⟨y, 0, none⟩) (t.spots.length + 1) (t.spots.length + 1)) h1 := F1
 have hsp := T.spots
 obtain ⟨_, _, F2, rfl, e2⟩ := Atb hT H h1 LI[i] ((t.spots.length + 1 : Nat) : Int) (by omega) (by omega)
 rw [e2] at F2
 clear e2
 have em := Int.emod_nonneg LI[i] (show ((t.spots.length + 1 : Nat) : Int) ≠ 0 by omega)
 have el := Int.emod_lt_of_pos LI[i] (show (0 : Int) < ((t.spots.length + 1 : Nat) : Int) by omega)
 obtain ⟨j, hj⟩ : ∃ j : Nat, LI[i] % ((t.spots.length + 1 : Nat) : Int) = (j : Int) := ⟨_, (Int.toNat_of_nonneg em).symm⟩
 rw [hj] at F2 el
 have hjn : j < t.spots.length + 1 := by omega
 have hjs : j < (((6 : Int), t.word) :: t.spots).length := hjn
 have rp := Ajh (l := ((6 : Int), t.word) :: t.spots) osp.rd hjs
 obtain ⟨s, c, ep, cok, hs6⟩ : ∃ (s : Nat) (c : Tr), (((6 : Int), t.word) :: t.spots)[j] = ((s : Int), c.word) /\ c.ok m.C /\ (s ≠ 6 -> ((s : Int), c.word) ∈ t.spots) := by
  cases j with
  | zero => exact ⟨6, t, rfl, T.R.ok, fun e => (e rfl).elim⟩
  | succ j =>
   have hm : t.spots[j]'(by omega) ∈ t.spots := List.getElem_mem _
   obtain ⟨s, c, e1, _, e3⟩ := Auq t T.R.ok _ hm
   exact ⟨s, c, e1, e3, fun _ => e1 ▸ hm⟩
 rw [ep, Nat.zero_add] at rp
 have rp : h1.rds y (j * 2) 2 = some [I s, I c.word] := rp
 have ld := Af7 rp
 obtain ⟨a, a1, a2, ⟨k1, k2⟩, ew⟩ := Any cok
 have hl := T.R.len
 have stE : Aop (h1.new ⟨[.int .i64 0, .int .i64 0], 2, 2, true, false⟩) 2 (pp h1.nq) (.agg #[I s, I c.word]) = some (undef, h1.newR [I s, I c.word]) := Acw h1 [.int .i64 0, .int .i64 0] [I s, I c.word] 2 rfl rfl (by omega) rfl
 have sE : Aad h1 (h1.newR [I s, I c.word]) (fun _ => False) := Aad.newR
 have rE := Rcd.new h1 [I s, I c.word]
 have xE : (h1.newR [I s, I c.word]).nq = h1.nq + 1 := rfl
 generalize h1.newR [I s, I c.word] = hE at stE sE rE xE
 have same2 : Aad hB hE (cl bm (some xm)) := same1.trans sE (fun _ _ x => x.elim)
 have mmE := mm1.same sE (fun _ _ x => x)
 have rd1 : hE.rd h1.nq 1 = some (I c.word) := rE.rd 1
 have rd0 : hE.rd h1.nq 0 = some (I s) := rE.rd 0
 obtain ⟨_, _, F3, rfl, e3⟩ := Abt hT V H hE a c.kindN a1 (by omega) k1 (by omega)
 rw [e3, <- ew] at F3
 clear e3
 have ci : ((i : Int) < LI.length) = True := by simp [hi]
 have ci2 : ((i : Int) < 20) = True := by simp; omega
 have cj : ((j : Int) < ((t.spots.length + 1 : Nat) : Int)) = True := by simp only [eq_iff_iff, iff_true]; omega
 have wi : Aan .i64 ((i : Int) + 1) = ((i + 1 : Nat) : Int) := by rw [Aav] <;> omega
 have skip : ∀ ts : Ai.T Value, look ts 1 = .slice (some ⟨x, p, none⟩) LI.length cap -> look ts 7 = (pp bm) -> look ts 8 = I w -> look ts 9 = I (i + 1 : Nat) -> CI hB (.slice (some ⟨x, p, none⟩) LI.length cap) bm xm l w (i + 1) ts hE := fun ts b1 b2 b3 b4 =>
  ⟨b1, b2, b3, b4, ⟨t, m, um, T.more, mmE, un⟩, same2⟩
 by_cases k : c.kindN = 2
 ·have kt : ((c.kindN : Int) == 2) = true := by simp; omega
  by_cases s6 : s = 6
  ·have st : ((s : Int) != 6) = false := by simp; omega
   refine Acf ?_
   simp only [xaC]
   repeat first | simp only [SV, SS, seval, l1, l7, l8, l9, ci, ci2, rk, cj, Abi, ld, Aaw, Agp, stE, rd1, kt, st, rd0, wi] | refine ⟨_, _, F1, ?_⟩ | refine ⟨_, _, F2, ?_⟩ | refine ⟨_, _, F3, ?_⟩
   exact skip _ (by simp only [SS, seval, l1]) (by simp only [SS, seval, l7]) (by simp only [SS, seval, l8]) (by simp only [SS, seval])
  ·have st : ((s : Int) != 6) = true := by simp; omega
   have hw8 : c.word % 8 = 2 := by rw [ew, k]; omega
   have fin := T.fine (by omega)
   obtain ⟨v4, h4, F4, e4, r4, s4⟩ := Afz hT H hE
   have x4 := s4.nq
   have same4 : Aad hB h4 (cl bm (some xm)) := same2.trans s4 (fun _ _ x => x.elim)
   have mm4 := mmE.same s4 (fun _ _ x => x)
   have hbE := mmE.lt bm (.inl rfl)
   obtain ⟨v5, h5, F5, e5, ⟨u5, mm5, n5⟩, s5⟩ := Aga hT H mm4 fin (ws := [0]) r4 (by omega) (by simp) (by rw [T.z]; have := T.len; simp; omega)
   subst e4
   subst e5
   have x5 := s5.nq
   have same5 : Aad hB h5 (cl bm (some xm)) := same4.trans s5 (fun jj hj e => by
    rcases e with e | e
    ·exact .inl e
    ·rcases un jj e with e | e
     ·exact .inr (by rw [e])
     ·omega)
   obtain ⟨v6, h6, F6, e6, e6'⟩ := Aed hT H 1 ((m.C.length : Int) + 1) h5 (by omega) (by omega) (by omega) (by have := T.len; omega)
   subst e6
   rw [e6'] at F6
   clear e6'
   have hsl := T.low s (Ajc t (Ald t s c.word (hs6 s6) hw8))
   have hlenT := T.len
   have hno : ¬ cl bm um h1.nq := fun e => by have := mm1.lt _ e; omega
   have hno5 : ¬ cl bm u5 h1.nq := fun e => by
    rcases e with e | e
    ·exact hno (.inl e)
    ·rcases n5 _ e with e | e
     ·exact hno (.inr e)
     ·omega
   have rE5 := (rE.same s4 (fun x => x)).same s5 hno
   have fin5 : (m.more [0]).fine := ⟨fin.z0, fin.z1, by show ((m.C ++ [0]).length : Int) <= m.z; rw [T.z]; simp; omega, by have := T.c; show 0 <= m.c + 1 /\ m.c + 1 < _; omega, fin.o, fin.r⟩
   obtain ⟨v7, h7, F7, mm7, s7⟩ := Agu hT V9 mm5 fin5 (s : Int) (((m.C.length : Int) + 1) * 8 + 1) (by omega)
   rw [Avd (by omega) hsl.2] at mm7
   have rE7 := rE5.same s7 hno5
   have x7 := s7.nq
   have un7 : ∀ jj, u5 = some jj -> jj = xm \/ hB.nq <= jj := fun jj e => by
    rcases n5 _ e with e | e
    ·exact un jj e
    ·exact .inr (by omega)
   have same7 : Aad hB h7 (cl bm (some xm)) := same5.trans s7 (fun jj hj e => by
    rcases e with e | e
    ·exact .inl e
    ·rcases un7 jj e with e | e
     ·exact .inr (by rw [e])
     ·omega)
   have take : ∀ ts : Ai.T Value, look ts 1 = .slice (some ⟨x, p, none⟩) LI.length cap -> look ts 7 = (pp bm) -> look ts 8 = I w -> look ts 9 = I (i + 1 : Nat) -> CI hB (.slice (some ⟨x, p, none⟩) LI.length cap) bm xm l w (i + 1) ts h7 := fun ts b1 b2 b3 b4 =>
    ⟨b1, b2, b3, b4, ⟨_, _, u5, T.cut (by omega) (hs6 s6) hw8, mm7, un7⟩, same7⟩
   have F5' : Aa3 P 10 [(pp bm), .slice (some ⟨hE.nq, 0, none⟩) 1 1] h4 (.tuple #[I ((m.C.length : Int) + 1), .bool true]) h5 := F5
   obtain ⟨CF, hcf, g1, g2⟩ : ∃ CF : Aa7, Ajg P CF /\ CF (.fn 13) [I 1, I ((m.C.length : Int) + 1)] h5 = some (I (((m.C.length : Int) + 1) * 8 + 1), h5) /\ CF (.fn 12) [(pp bm), I s, I (((m.C.length : Int) + 1) * 8 + 1)] h5 = some (v7, h7) :=
    ⟨Ad9 13 _ h5 _ h5 (Ad9 12 _ h5 _ h7 Agy), Aba F6 (Aba F7 Abo), Abd, by rw [Acd (by decide)]; exact Abd⟩
   let J : Aac -> Prop := fun k => k.rd h1.nq 0 = some (I s)
   have j5 : J h5 := rE5.rd 0
   have j7 : J h7 := rE7.rd 0
   have pj5 := fun (r : List Aao) (ts : Ai.T Value) (dst : Option Nat) (q : POp) (S : Ai.T Value -> Aac -> Prop) => j_p (J := J) (cf := CF) (r := r) (ts := ts) (dst := dst) (q := q) (S := S) j5
   refine Acf ?_
   simp only [xaC]
   repeat first | simp only [SV, SS, seval, l1, l7, l8, l9, ci, ci2, rk, cj, Abi, ld, Aaw, Agp, stE, rd1, kt, st, rd0, wi] | refine ⟨_, _, F1, ?_⟩ | refine ⟨_, _, F2, ?_⟩ | refine ⟨_, _, F3, ?_⟩ | refine ⟨_, _, F4, ?_⟩ | refine ⟨_, _, F5', ?_⟩
   refine Anp J CF hcf j5 ?_
   simp only [SV, SS, seval, A1d, Am9, Alj, A2n, A24, Apl, Apq, pj5, l7]
   refine ⟨_, fun k hk => hk, Ac4 _ _, ?_⟩
   simp only [SV, SS, seval, A1d, Am9, Alj, A2n, A24, Apl, Apq, pj5, g1, g2, l7, l9, wi]
   refine ⟨j5, j7, ?_⟩
   exact take _ (by simp only [SS, seval, l1]) (by simp only [SS, seval, l7]) (by simp only [SS, seval, l8]) (by simp only [SS, seval])
 ·have kt : ((c.kindN : Int) == 2) = false := by simp; omega
  refine Acf ?_
  simp only [xaC]
  repeat first | simp only [SV, SS, seval, l1, l7, l8, l9, ci, ci2, rk, cj, Abi, ld, Aaw, Agp, stE, rd1, kt, wi] | refine ⟨_, _, F1, ?_⟩ | refine ⟨_, _, F2, ?_⟩ | refine ⟨_, _, F3, ?_⟩
  exact skip _ (by simp only [SS, seval, l1]) (by simp only [SS, seval, l7]) (by simp only [SS, seval, l8]) (by simp only [SS, seval])
theorem A4h {LI : List Int} {gv : Value} {hB : Aac} {bm xm : Nat} (hbl : bm < hB.nq) (gl : ∃ base cap, gv = .slice base LI.length cap) (ag : ∀ hh, Aad hB hh (cl bm (some xm)) -> ∀ i (hi : i < LI.length), ∃ x p cap, gv = .slice (some ⟨x, p, none⟩) LI.length cap /\ hh.rd x (p + i) = some (I LI[i])) {l : List Pr} {w : Int} {ts : Ai.T Value} {hh : Aac} (g : CI hB gv bm xm l w 0 ts hh) {Z : Abz -> Ai.T Value -> Aac -> Prop} (post : ∀ i ts' h', i <= 20 -> CI hB gv bm xm l w i ts' h' -> Z (.exit 0) ts' h') :
  CW P 155 none (.loop xaC) ts hh Z := by
 refine Ac6 (fun n ts hh => ∃ i, n = 20 - i /\ i <= 20 /\ CI hB gv bm xm l w i ts hh) ?_ (n := 20) ⟨0, by omega, by omega, g⟩
 clear g
 rintro n ts hh ⟨i, rfl, hle, g⟩
 by_cases hi : i < LI.length
 ·by_cases h20 : i < 20
  ·exact (A23 hT HX V H V9 V2 V3 V4 hbl ag hi h20 g).mono (fun e ts' h' ⟨e1, g'⟩ => by subst e1; exact ⟨20 - (i + 1), by omega, i + 1, rfl, by omega, g'⟩)
  ·obtain ⟨l1, l7, l8, l9, ex, same⟩ := g
   obtain ⟨base, cap, rfl⟩ := gl
   have ci : ((i : Int) < LI.length) = True := by simp [hi]
   have ci2 : ((i : Int) < 20) = False := by simp; omega
   have fin : ∀ ts : Ai.T Value, look ts 1 = .slice base LI.length cap -> look ts 7 = (pp bm) -> look ts 8 = I w -> look ts 9 = I i -> Z (.exit 0) ts hh := fun ts b1 b2 b3 b4 => post i ts hh hle ⟨b1, b2, b3, b4, ex, same⟩
   refine Acf ?_
   simp only [SV, SS, seval, xaC, l1, l7, l8, l9, ci, ci2]
   exact fin _ (by simp only [SS, seval, l1]) (by simp only [SS, seval, l7]) (by simp only [SS, seval, l8]) (by simp only [SS, seval, l9])
 ·obtain ⟨l1, l7, l8, l9, ex, same⟩ := g
  obtain ⟨base, cap, rfl⟩ := gl
  have ci : ((i : Int) < LI.length) = False := by simp; omega
  have fin : ∀ ts : Ai.T Value, look ts 1 = .slice base LI.length cap -> look ts 7 = (pp bm) -> look ts 8 = I w -> look ts 9 = I i -> Z (.exit 0) ts hh := fun ts b1 b2 b3 b4 => post i ts hh hle ⟨b1, b2, b3, b4, ex, same⟩
  refine Acf ?_
  simp only [SV, SS, seval, xaC, l1, l7, l8, l9, ci]
  exact fin _ (by simp only [SS, seval, l1]) (by simp only [SS, seval, l7]) (by simp only [SS, seval, l8]) (by simp only [SS, seval, l9])
end
structure XS (P : Program) (args : List Value) (S : Nat -> Prop) (hE : Aac) (bm b : Nat) (w : Int) (v14 : Value) (n : Nat) (ts : T Value) (hh : Aac) : Prop where
 l7 : look ts 7 = (pp bm)
 l8 : look ts 8 = I w
 l14 : look ts 14 = v14
 l15 : look ts 15 = (pp b)
 ex : ∃ c : Nat, look ts 16 = I c /\ c + n < 200000 /\ Ab3 P 17 args S hh hE n
theorem A12 {P : Program} {f : Nat -> Prop} {hE hF : Aac} {bm b : Nat} {w : Int} {v14 : Value} {n : Nat} {ts : Ai.T Value} {hh : Aac} {Z : Abz -> Ai.T Value -> Aac -> Prop} (st : XS P [(pp b), (pp bm)] f hE bm b w v14 n ts hh) (FE : Aa3 P 17 [(pp b), (pp bm)] hE (.bool true) hF)
  (post : ∀ ts', look ts' 7 = (pp bm) -> look ts' 8 = I w -> look ts' 14 = v14 -> look ts' 15 = (pp b) -> Z (.exit 2) ts' hF) : CW P 155 none (.loop xaS) ts hh Z := by
 refine Ac6 (fun n ts hh => XS P [(pp b), (pp bm)] f hE bm b w v14 n ts hh) ?_ st
 clear st
 rintro n ts hn ⟨l7, l8, l14, l15, ⟨cnt, l16, hcn, chn⟩⟩
 have cc : ((cnt : Int) < 200000) = True := by simp; omega
 cases chn with
 | nil =>
  refine Acf ?_
  simp only [SV, SS, seval, xaS, l7, l8, l14, l15, l16, cc]
  refine ⟨_, _, FE, ?_⟩
  simp only [SV, SS, seval, l7, l8, l14, l15, l16]
  exact post _ (by simp only [SS, seval, l7]) (by simp only [SS, seval, l8]) (by simp only [SS, seval, l14]) (by simp only [SS, seval, l15])
 | cons Fc sc chn' =>
  rename_i hc n'
  have wc : Aan .i64 ((cnt : Int) + 1) = ((cnt + 1 : Nat) : Int) := by rw [Aav] <;> omega
  have gs : ∀ ts : Ai.T Value, look ts 7 = (pp bm) -> look ts 8 = I w -> look ts 14 = v14 -> look ts 15 = (pp b) -> look ts 16 = I (cnt + 1 : Nat) -> XS P [(pp b), (pp bm)] f hE bm b w v14 n' ts hc := fun ts b1 b2 b3 b4 b5 =>
   ⟨b1, b2, b3, b4, ⟨cnt + 1, b5, by omega, chn'⟩⟩
  refine Acf ?_
  simp only [SV, SS, seval, xaS, l7, l8, l14, l15, l16, cc]
  refine ⟨_, _, Fc, ?_⟩
  simp only [SV, SS, seval, l7, l8, l14, l15, l16, wc]
  exact ⟨n', by omega, gs _ (by simp only [SS, seval, l7]) (by simp only [SS, seval, l8]) (by simp only [SS, seval, l14]) (by simp only [SS, seval, l15]) (by simp only [SS, seval])⟩
structure A09 (tab : Nat -> Option Aae) : Prop where
 xok : tab 20 = some af20
theorem A8f : A09 tabT.get := ⟨by kernel_rfl⟩
def xaQ : Acb := (.seq (.ops [⟨(some 89), .p (.mov (.t 7)), none⟩, ⟨(some 90), .call 18 [(.t 89), (.c (.int .i64 6))], none⟩, ⟨(some 17), .p (.mov (.t 90)), none⟩]) (.seq (.ops [⟨(some 91), .call 14 [], none⟩, ⟨(some 92), .p (.mov (.t 91)), none⟩, ⟨(some 93), .p (.mov (.t 15)), some (92, true)⟩, ⟨(some 94), .call 19 [(.t 93)], some (92, true)⟩, ⟨(some 95), .p (.pick (.t 92) (.t 94) (.c (.bool false))), none⟩, ⟨(some 96), .p (.mov (.t 95)), none⟩, ⟨(some 97), .p (.mov (.t 15)), some (96, true)⟩, ⟨(some 98), .call 20 [(.t 97)], some (96, true)⟩, ⟨(some 99), .p (.pick (.t 96) (.t 98) (.c (.bool false))), none⟩, ⟨(some 100), .p (.mov (.t 99)), none⟩, ⟨(some 101), .p (.mov (.t 17)), some (100, true)⟩, ⟨(some 102), .p (.mov (.t 8)), some (100, true)⟩, ⟨(some 103), .p (.bin .neq false (.t 101) (.t 102)), some (100, true)⟩, ⟨(some 104), .p (.pick (.t 100) (.t 103) (.c (.bool false))), none⟩, ⟨(some 105), .p (.mov (.t 104)), none⟩, ⟨(some 106), .p (.mov (.t 7)), some (105, true)⟩, ⟨(some 107), .call 21 [(.t 106), (.c (.int .i64 6))], some (105, true)⟩, ⟨(some 108), .p (.mov (.t 17)), some (105, true)⟩, ⟨(some 109), .p (.bin .eql false (.t 107) (.t 108)), some (105, true)⟩, ⟨(some 110), .p (.pick (.t 105) (.t 109) (.c (.bool false))), none⟩, ⟨(some 111), .p (.mov (.t 110)), none⟩, ⟨(some 112), .p (.mov (.t 7)), some (111, true)⟩, ⟨(some 113), .p (.mov (.t 17)), some (111, true)⟩, ⟨(some 114), .call 22 [(.t 112), (.t 113)], some (111, true)⟩, ⟨(some 115), .p (.pick (.t 111) (.t 114) (.c (.bool false))), none⟩, ⟨(some 116), .p (.mov (.t 115)), none⟩, ⟨(some 117), .p (.mov (.t 7)), some (116, true)⟩, ⟨(some 118), .call 23 [(.t 117)], some (116, true)⟩, ⟨(some 119), .p (.pick (.t 116) (.t 118) (.c (.bool false))), none⟩, ⟨(some 120), .p (.mov (.t 119)), none⟩, ⟨(some 121), .p (.mov (.t 7)), some (120, true)⟩, ⟨(some 122), .call 24 [(.t 121)], some (120, true)⟩, ⟨(some 123), .p (.pick (.t 120) (.t 122) (.c (.bool false))), none⟩, ⟨(some 124), .p (.mov (.t 123)), none⟩, ⟨(some 125), .p (.mov (.t 7)), some (124, true)⟩, ⟨(some 126), .p (.mov (.t 17)), some (124, true)⟩, ⟨(some 127), .call 15 [(.t 125), (.t 126)], some (124, true)⟩, ⟨(some 128), .p (.mov (.t 14)), some (124, true)⟩, ⟨(some 129), .call 25 [(.t 127), (.t 128)], some (124, true)⟩, ⟨(some 130), .p (.pick (.t 124) (.t 129) (.c (.bool false))), none⟩, ⟨(some 131), .p (.mov (.t 130)), none⟩, ⟨(some 132), .p (.mov (.t 7)), some (131, true)⟩, ⟨(some 133), .p (.mov (.t 8)), some (131, true)⟩, ⟨(some 134), .call 26 [(.t 133)], some (131, true)⟩, ⟨(some 135), .p (.bin .add false (.t 134) (.c (.int .i64 2))), some (131, true)⟩, ⟨(some 136), .call 21 [(.t 132), (.t 135)], some (131, true)⟩, ⟨(some 137), .p (.bin .eql false (.t 136) (.c (.int .i64 1))), some (131, true)⟩, ⟨(some 138), .p (.pick (.t 131) (.t 137) (.c (.bool false))), none⟩, ⟨(some 139), .p (.mov (.t 138)), none⟩, ⟨(some 140), .p (.mov (.t 7)), some (139, true)⟩, ⟨(some 141), .p (.mov (.t 8)), some (139, true)⟩, ⟨(some 142), .call 26 [(.t 141)], some (139, true)⟩, ⟨(some 143), .p (.bin .add false (.t 142) (.c (.int .i64 4))), some (139, true)⟩, ⟨(some 144), .call 21 [(.t 140), (.t 143)], some (139, true)⟩, ⟨(some 145), .p (.mov (.t 14)), some (139, true)⟩, ⟨(some 146), .p (.len false (.t 145)), some (139, true)⟩, ⟨(some 147), .p (.bin .add false (.t 146) (.c (.int .i64 1))), some (139, true)⟩, ⟨(some 148), .p (.bin .eql false (.t 144) (.t 147)), some (139, true)⟩, ⟨(some 149), .p (.pick (.t 139) (.t 148) (.c (.bool false))), none⟩, ⟨(some 150), .p (.mov (.t 149)), none⟩, ⟨(some 151), .p (.mov (.t 7)), some (150, true)⟩, ⟨(some 152), .call 27 [(.t 151)], some (150, true)⟩, ⟨(some 153), .p (.bin .eql false (.t 152) (.c (.int .i64 0))), some (150, true)⟩, ⟨(some 154), .p (.pick (.t 150) (.t 153) (.c (.bool false))), none⟩, ⟨(some 6), .p (.mov (.t 154)), none⟩]) .ret))
section
variable (hT : Aa0 P tab) (HX : Aum tab) (HXF : A09 tab) (HR : Aem tab) (Nu : Num P) (V : Aea tab) (H : Has tab) (V9 : Acg tab) (V2 : Aje tab) (V3 : Ail tab) (V4 : Aku tab) (V5 : Aiz tab) (V6 : Aml tab) (V8 : Art tab) (HRl : A15 tab)
include hT HX HXF HR Nu V H V9 V2 V3 V4 V5 V6 V8 HRl
omit HX HR Nu V H V9 V2 V3 V4 V5 V6 V8 HRl in
theorem Az0 {h : Aac} {b : Nat} {nx e0 e1 e2 at' tg n rt i gt : Int} {mk gk pc dc : Value} {cm ok : Bool} (r : Rcd h b (rnL nx e0 e1 e2 at' tg n mk gk rt i cm pc gt dc ok)) : Aah P 20 [(pp b)] h fun v h' => v = .bool ok /\ h' = h := by
 refine Aaa hT HXF.xok rfl ?_
 simp only [rnL] at r
 simp only [SV, SS, seval, af20, r.rd]
set_option maxHeartbeats 1000000 in
theorem A5q (Kn : ∀ h, Aa3 P 14 [] h (.bool true) h) {hF : Aac} {bm b a : Nat} {um u4 : Option Nat} {m : PM} {t : Tr} {pl : List Pr} {w : Int} {x0 x1 x2 A' tg n rt i gt : Int} {mk gk pc dc : Value} {cm : Bool} (mm : Aa8 hF bm um m) (RO : Ah6 m.C t) (hid : t.idl) (hbusy : t.busy = false) (econ : t.content = pl) (hpl : pl.length <= 1000) (o4 : Abh hF u4 2 pl.length (Ady pl)) (r : Rcd hF b (rnL 15 x0 x1 x2 A' tg n mk gk rt i cm pc gt dc true)) (hw : w = (a : Int) * 8 + 3) (a1 : 1 <= a) (a2 : a + 4 <= m.C.length) (hne : t.word ≠ w) (hsh : at0 m.C (a + 2) = 1) (hsm : at0 m.C (a + 4) = (pl.length : Int) + 1) (ho : m.o = 0)
  {ts : Ai.T Value} (l7 : look ts 7 = (pp bm)) (l8 : look ts 8 = I w) (l14 : look ts 14 = Aal u4 pl.length) (l15 : look ts 15 = (pp b)) {Q : Abz -> Ai.T Value -> Aac -> Prop} (post : ∀ ts' h', Aad hF h' (fun _ => False) -> look ts' 6 = .bool true -> Q .ret ts' h') :
  cwf P 155 none xaQ ts hF Q := by
 have hl := RO.len
 obtain ⟨d, d1, d2, ⟨k1, k2⟩, ew⟩ := Any RO.ok
 have mmA : Aa2 hF bm um m.C m.z m.c m.o m.r := mm
 obtain ⟨_, _, FL, rfl, eL⟩ := Ajy hT V H mmA 6 (by omega) d1 (by omega) k1 (by omega) (by rw [RO.root]; exact ew)
 rw [eL, <- ew] at FL
 clear eL
 obtain ⟨_, _, FD, rfl, eD⟩ := Afg hT HR r
 rw [eD] at FD
 obtain ⟨_, _, FO, rfl, eO⟩ := Az0 hT HXF r
 rw [eO] at FO
 have at_ : ∀ (y : Nat), y < 1000000 -> ∀ k : Aac, Aa2 k bm um m.C m.z m.c m.o m.r -> Aa3 P 21 [(pp bm), I y] k (I (at0 m.C y)) k := fun y hy k mk => by
  obtain ⟨_, _, F, e, e2⟩ := Aco hT V mk y hy
  rw [e, e2] at F
  exact F
 have A6 : Aa3 P 21 [(pp bm), .int .i64 6] hF (I t.word) hF := by
  have := at_ 6 (by omega) hF mmA
  rw [RO.root] at this
  exact this
 obtain ⟨_, hi, FI, rfl, si⟩ := Arx hT V H V2 V3 V4 V5 V6 V8 Nu mmA RO hid
 have mmI := mmA.same si (fun x => x) (fun _ _ x => x)
 obtain ⟨_, hc, FC, rfl, sc⟩ := Ayn hT V H V2 V3 V4 V5 mmI RO
 rw [hbusy] at FC
 have mmC := mmI.same sc (fun x => x) (fun _ _ x => x)
 obtain ⟨_, hs, FS, rfl, ss⟩ := Aud hT V H V2 V3 V4 V5 mmC RO
 have mmS := mmC.same ss (fun x => x) (fun _ _ x => x)
 obtain ⟨v5, hk, FK, ⟨u5, e5, o5, n5⟩, sk⟩ := Aj5 hT V H V2 V3 V4 V5 V6 mmS RO (by rw [econ]; omega)
 rw [econ] at e5 o5
 subst e5
 have mmK := mmS.same sk (fun x => x) (fun _ _ x => x)
 have sF : Aad hF hk (fun _ => False) := ((si.trans sc (fun _ _ x => x)).trans ss (fun _ _ x => x)).trans sk (fun _ _ x => x)
 have o4' := o4.same sF (fun _ _ x => x)
 obtain ⟨_, _, FP, rfl, eP⟩ := Avw hT HRl (Awu o5) (Awu o4') (by omega)
 rw [eP] at FP
 have RA : Aa3 P 26 [I w] hk (I a) hk := by
  obtain ⟨_, _, F, rfl, e⟩ := Ab0 hT V H hk a 3 a1 (by omega) (by omega) (by omega)
  rw [e] at F
  rw [hw]
  exact F
 have w2 : Aan .i64 ((a : Int) + 2) = ((a + 2 : Nat) : Int) := by rw [Aav] <;> omega
 have w4 : Aan .i64 ((a : Int) + 4) = ((a + 4 : Nat) : Int) := by rw [Aav] <;> omega
 have wp : Aan .i64 ((pl.length : Int) + 1) = (pl.length : Int) + 1 := by rw [Aav] <;> omega
 have G2 := at_ (a + 2) (by omega) hk mmK
 rw [hsh] at G2
 have G4 := at_ (a + 4) (by omega) hk mmK
 rw [hsm] at G4
 obtain ⟨_, _, FZ, rfl, eZ⟩ := A1z hT H mmK
 rw [eZ, ho] at FZ
 have kne : ((t.word : Int) != w) = true := by simp [hne]
 have keq : ((t.word : Int) == t.word) = true := by simp
 have kp : ((pl.length : Int) + 1 == (pl.length : Int) + 1) = true := by simp
 have post' : ∀ ts : Ai.T Value, look ts 6 = .bool true -> Q .ret ts hk := fun ts e => post ts hk sF e
 clear post
 simp only [xaQ]
 repeat first | simp only [SV, SS, seval, l7, l8, l14, l15, kne, keq, w2, w4, Aal, Option.map_some, wp, kp] | refine ⟨_, _, FL, ?_⟩ | refine ⟨_, _, Kn _, ?_⟩ | refine ⟨_, _, FD, ?_⟩ | refine ⟨_, _, FO, ?_⟩ | refine ⟨_, _, A6, ?_⟩ | refine ⟨_, _, FI, ?_⟩ | refine ⟨_, _, FC, ?_⟩ | refine ⟨_, _, FS, ?_⟩ | refine ⟨_, _, FK, ?_⟩ | refine ⟨_, _, FP, ?_⟩ | refine ⟨_, _, RA, ?_⟩ | refine ⟨_, _, G2, ?_⟩ | refine ⟨_, _, G4, ?_⟩ | refine ⟨_, _, FZ, ?_⟩
 exact post' _ (by simp only [SS, seval])
end
def xaR : Acb := (.seq (.seq (.ops [⟨(some 69), .p (.mov (.t 8)), none⟩, ⟨(some 70), .call 9 [(.t 69)], none⟩, ⟨(some 71), .p (.bin .neq false (.t 70) (.c (.int .i64 3))), none⟩]) (.cond (.t 71) (.seq (.ops [⟨(some 72), .call 14 [], none⟩, ⟨(some 6), .p (.mov (.t 72)), none⟩]) .ret) .skip)) (.seq (.ops [⟨(some 73), .p (.mov (.t 7)), none⟩, ⟨(some 74), .p (.mov (.t 8)), none⟩, ⟨(some 75), .call 15 [(.t 73), (.t 74)], none⟩, ⟨(some 14), .p (.mov (.t 75)), none⟩]) (.seq (.ops [⟨(some 76), .p (.mov (.t 8)), none⟩, ⟨(some 77), .p (.build [(.int .i64 0), (.int .i64 0), (.int .i64 0)] [(0, 1, (.c (.int .i64 1))), (1, 1, (.c (.int .i64 6))), (2, 1, (.t 76))]), none⟩, ⟨(some 78), .call 16 [(.t 77)], none⟩, ⟨(some 15), .p (.mov (.t 78)), none⟩]) (.seq (.seq (.ops [⟨(some 16), .p (.mov (.c (.int .i64 0))), none⟩]) (.block 2 (.loop (.seq (.seq (.ops [⟨(some 79), .p (.mov (.t 16)), none⟩, ⟨(some 80), .p (.bin .lss false (.t 79) (.c (.int .i64 200000))), none⟩, ⟨(some 81), .p (.mov (.t 80)), none⟩, ⟨(some 82), .p (.mov (.t 15)), some (81, true)⟩, ⟨(some 83), .p (.mov (.t 7)), some (81, true)⟩, ⟨(some 84), .call 17 [(.t 82), (.t 83)], some (81, true)⟩, ⟨(some 85), .p (.not (.t 84)), some (81, true)⟩, ⟨(some 86), .p (.pick (.t 81) (.t 85) (.c (.bool false))), none⟩]) (.cond (.t 86) .skip (.exit 2))) (.seq (.block 3 .skip) (.ops [⟨(some 87), .p (.mov (.t 16)), none⟩, ⟨(some 88), .p (.bin .add false (.t 87) (.c (.int .i64 1))), none⟩, ⟨(some 16), .p (.mov (.t 88)), none⟩])))))) (.seq (.ops [⟨(some 89), .p (.mov (.t 7)), none⟩, ⟨(some 90), .call 18 [(.t 89), (.c (.int .i64 6))], none⟩, ⟨(some 17), .p (.mov (.t 90)), none⟩]) (.seq (.ops [⟨(some 91), .call 14 [], none⟩, ⟨(some 92), .p (.mov (.t 91)), none⟩, ⟨(some 93), .p (.mov (.t 15)), some (92, true)⟩, ⟨(some 94), .call 19 [(.t 93)], some (92, true)⟩, ⟨(some 95), .p (.pick (.t 92) (.t 94) (.c (.bool false))), none⟩, ⟨(some 96), .p (.mov (.t 95)), none⟩, ⟨(some 97), .p (.mov (.t 15)), some (96, true)⟩, ⟨(some 98), .call 20 [(.t 97)], some (96, true)⟩, ⟨(some 99), .p (.pick (.t 96) (.t 98) (.c (.bool false))), none⟩, ⟨(some 100), .p (.mov (.t 99)), none⟩, ⟨(some 101), .p (.mov (.t 17)), some (100, true)⟩, ⟨(some 102), .p (.mov (.t 8)), some (100, true)⟩, ⟨(some 103), .p (.bin .neq false (.t 101) (.t 102)), some (100, true)⟩, ⟨(some 104), .p (.pick (.t 100) (.t 103) (.c (.bool false))), none⟩, ⟨(some 105), .p (.mov (.t 104)), none⟩, ⟨(some 106), .p (.mov (.t 7)), some (105, true)⟩, ⟨(some 107), .call 21 [(.t 106), (.c (.int .i64 6))], some (105, true)⟩, ⟨(some 108), .p (.mov (.t 17)), some (105, true)⟩, ⟨(some 109), .p (.bin .eql false (.t 107) (.t 108)), some (105, true)⟩, ⟨(some 110), .p (.pick (.t 105) (.t 109) (.c (.bool false))), none⟩, ⟨(some 111), .p (.mov (.t 110)), none⟩, ⟨(some 112), .p (.mov (.t 7)), some (111, true)⟩, ⟨(some 113), .p (.mov (.t 17)), some (111, true)⟩, ⟨(some 114), .call 22 [(.t 112), (.t 113)], some (111, true)⟩, ⟨(some 115), .p (.pick (.t 111) (.t 114) (.c (.bool false))), none⟩, ⟨(some 116), .p (.mov (.t 115)), none⟩, ⟨(some 117), .p (.mov (.t 7)), some (116, true)⟩, ⟨(some 118), .call 23 [(.t 117)], some (116, true)⟩, ⟨(some 119), .p (.pick (.t 116) (.t 118) (.c (.bool false))), none⟩, ⟨(some 120), .p (.mov (.t 119)), none⟩, ⟨(some 121), .p (.mov (.t 7)), some (120, true)⟩, ⟨(some 122), .call 24 [(.t 121)], some (120, true)⟩, ⟨(some 123), .p (.pick (.t 120) (.t 122) (.c (.bool false))), none⟩, ⟨(some 124), .p (.mov (.t 123)), none⟩, ⟨(some 125), .p (.mov (.t 7)), some (124, true)⟩, ⟨(some 126), .p (.mov (.t 17)), some (124, true)⟩, ⟨(some 127), .call 15 [(.t 125), (.t 126)], some (124, true)⟩, ⟨(some 128), .p (.mov (.t 14)), some (124, true)⟩, ⟨(some 129), .call 25 [(.t 127), (.t 128)], some (124, true)⟩, ⟨(some 130), .p (.pick (.t 124) (.t 129) (.c (.bool false))), none⟩, ⟨(some 131), .p (.mov (.t 130)), none⟩, ⟨(some 132), .p (.mov (.t 7)), some (131, true)⟩, ⟨(some 133), .p (.mov (.t 8)), some (131, true)⟩, ⟨(some 134), .call 26 [(.t 133)], some (131, true)⟩, ⟨(some 135), .p (.bin .add false (.t 134) (.c (.int .i64 2))), some (131, true)⟩, ⟨(some 136), .call 21 [(.t 132), (.t 135)], some (131, true)⟩, ⟨(some 137), .p (.bin .eql false (.t 136) (.c (.int .i64 1))), some (131, true)⟩, ⟨(some 138), .p (.pick (.t 131) (.t 137) (.c (.bool false))), none⟩, ⟨(some 139), .p (.mov (.t 138)), none⟩, ⟨(some 140), .p (.mov (.t 7)), some (139, true)⟩, ⟨(some 141), .p (.mov (.t 8)), some (139, true)⟩, ⟨(some 142), .call 26 [(.t 141)], some (139, true)⟩, ⟨(some 143), .p (.bin .add false (.t 142) (.c (.int .i64 4))), some (139, true)⟩, ⟨(some 144), .call 21 [(.t 140), (.t 143)], some (139, true)⟩, ⟨(some 145), .p (.mov (.t 14)), some (139, true)⟩, ⟨(some 146), .p (.len false (.t 145)), some (139, true)⟩, ⟨(some 147), .p (.bin .add false (.t 146) (.c (.int .i64 1))), some (139, true)⟩, ⟨(some 148), .p (.bin .eql false (.t 144) (.t 147)), some (139, true)⟩, ⟨(some 149), .p (.pick (.t 139) (.t 148) (.c (.bool false))), none⟩, ⟨(some 150), .p (.mov (.t 149)), none⟩, ⟨(some 151), .p (.mov (.t 7)), some (150, true)⟩, ⟨(some 152), .call 27 [(.t 151)], some (150, true)⟩, ⟨(some 153), .p (.bin .eql false (.t 152) (.c (.int .i64 0))), some (150, true)⟩, ⟨(some 154), .p (.pick (.t 150) (.t 153) (.c (.bool false))), none⟩, ⟨(some 6), .p (.mov (.t 154)), none⟩]) .ret))))))
theorem Ayu {l : List Pr} (h : Asc l) : ∀ (j i : Nat) (hj : j < l.length) (hi : i < j), (l[i]'(by omega)).1 < l[j].1
 | 0, i, hj, hi => by omega
 | j + 1, i, hj, hi => by
  have h1 := h j hj
  by_cases e : i = j
  ·subst e; exact h1
  ·have h2 := Ayu h j i (by omega) (by omega)
   omega
theorem Axk {l l' : List Pr} (h : Asc l) (s : l'.Sublist l) : Asc l' := by
 have p : l.Pairwise (fun a b => a.1 < b.1) := List.pairwise_iff_getElem.2 (fun i j hi hj hij => Ayu h j i hj hij)
 have p' := p.sublist s
 exact fun j hj => List.pairwise_iff_getElem.1 p' j (j + 1) (by omega) hj (by omega)
theorem A5t : ∀ t : Tr, t.adr ∈ t.adrs
 | .empty a => by simp [Tr.adr, Tr.adrs]
 | .leaf a k v => by simp [Tr.adr, Tr.adrs]
 | .inner a sz sh ch sm ks cs => by simp only [Tr.adr, Tr.adrs, List.mem_append, List.mem_range'_1]; exact .inl (by omega)
theorem A27 : ∀ t : Tr, 1 <= t.kind /\ t.kind <= 3
 | .empty a => by simp [Tr.kind]
 | .leaf a k v => by simp [Tr.kind]
 | .inner a sz sh ch sm ks cs => by simp [Tr.kind]
section
variable (hT : Aa0 P tab) (HX : Aum tab) (HXF : A09 tab) (HR : Aem tab) (HRw : tab 28 = some af28) (HP : Aid tab) (Nu : Num P) (HS : Afx tab) (HKM : Ah3 tab) (HMk : Air tab) (HK : Ae4 tab) (HG : Aep tab) (G : Amh tab) (V : Aea tab) (H : Has tab) (V9 : Acg tab) (HM : Agf tab) (V2 : Aje tab) (V3 : Ail tab) (V4 : Aku tab) (V5 : Aiz tab) (V6 : Aml tab) (V8 : Art tab) (HRl : A15 tab)
include hT HX HXF HR HRw HP Nu HS HKM HMk HK HG G V H V9 HM V2 V3 V4 V5 V6 V8 HRl
set_option maxHeartbeats 1000000 in
theorem A4v (Kn : ∀ h, Aa3 P 14 [] h (.bool true) h) {l : List Pr} (asc : Asc l) (hl : l.length <= 60) (hkeys : ∀ p ∈ l, -1000 <= p.1 /\ p.1 <= 1000) {w : Int} {i : Nat} (hi : i <= 20) {t : Tr} {m : PM} (T : CT l w i t m) {hh : Aac} {bm : Nat} {um : Option Nat} (mm : Aa8 hh bm um m) {ts : Ai.T Value} (l7 : look ts 7 = (pp bm)) (l8 : look ts 8 = I w) {Q : Abz -> Ai.T Value -> Aac -> Prop} (post : ∀ ts' h', Aad hh h' (cl bm um) -> look ts' 6 = .bool true -> Q .ret ts' h') :
  cwf P 155 none xaR ts hh Q := by
 have hlen := T.len
 have RO := T.R
 have mmA : Aa2 hh bm um m.C m.z m.c m.o m.r := mm
 obtain ⟨a, a1, a2, ⟨k1, k2⟩, ew⟩ := Any T.R.ok
 obtain ⟨_, _, F3, rfl, e3⟩ := Abt hT V H hh a t.kindN a1 (by omega) k1 (by omega)
 rw [e3, <- ew, T.word] at F3
 clear e3
 have early : ∀ ts : Ai.T Value, look ts 6 = .bool true -> Q .ret ts hh := fun ts e => post ts hh (Aad.refl _ _) e
 match t, T, F3 with
 | .empty aa, T, F3 =>
  have F3' : Aa3 P 9 [I w] hh (I 1) hh := F3
  simp only [xaR]
  repeat first | simp only [SV, SS, seval, l7, l8] | refine ⟨_, _, F3', ?_⟩ | refine ⟨_, _, Kn _, ?_⟩
  exact early _ (by simp only [SS, seval])
 | .leaf aa kk vv, T, F3 =>
  have F3' : Aa3 P 9 [I w] hh (I 2) hh := F3
  simp only [xaR]
  repeat first | simp only [SV, SS, seval, l7, l8] | refine ⟨_, _, F3', ?_⟩ | refine ⟨_, _, Kn _, ?_⟩
  exact early _ (by simp only [SS, seval])
 | .inner aa sz sh ch sm ks cs, T, F3 =>
  have F3' : Aa3 P 9 [I w] hh (I 3) hh := F3
  have RO := T.R
  have hw : w = (aa : Int) * 8 + 3 := T.word.symm
  have hcl := T.sub.length_le
  have hcN := Ali (n := (Tr.inner aa sz sh ch sm ks cs).content.length) (by omega)
  obtain ⟨v4, h4, F4, ⟨u4, e4, o4, n4⟩, s4⟩ := Aj5 hT V H V2 V3 V4 V5 V6 mmA RO (by omega)
  subst e4
  rw [T.word] at F4
  have x4 := s4.nq
  have mm4 := mm.same s4 (fun _ _ x => x)
  obtain ⟨v5, h5, F5, b, e5, hb, r5, s5⟩ := Ao1 hT HR h4 ((1 : Nat) : Int) ((6 : Nat) : Int) w
  subst e5
  have F5' : Aa3 P 16 [.agg #[.int .i64 1, .int .i64 6, I w]] h4 (pp b) h5 := F5
  have x5 := s5.nq
  have mm5 := mm4.same s5 (fun _ _ x => x)
  have o5 := o4.same s5 (fun _ _ x => x)
  have hbm : ¬ cl bm um b := fun e => by have := mm4.lt _ e; omega
  have had : (Aak cs).length <= (Tr.inner aa sz sh ch sm ks cs).adrs.length := by simp [Tr.adrs]
  have hcells := T.cells
  have hdeep : 1 + Adg cs <= 100 := T.deep
  have hl0 := RO.len
  have hTc := T.c
  obtain ⟨h6, um', m', t2, L, ⟨hE, k, hk, ch6, FE, sE⟩, r6, ⟨y0, y1, y2, yA, ytg, yn, ymk, ygk, yrt, yi, ycm, ypc, ygt, ydc, rfl⟩, mm6, n6, ⟨z6, o6, q6, len6, c6, c6'⟩, old6, v6, ok6, fits6, adr6, nd6, shut6⟩ := Az3 hT HR HRw HP Nu HS HKM HMk HK HG G V H V9 HM ⟨T.old, rfl⟩ (by omega) (by omega) (Axk asc T.sub) T.nd r5 mm5 (T.fine (by omega)) hbm RO.ok T.word.symm (by omega) (fun y hy => by have := T.low y hy; omega) (by omega) (by omega) (by omega) (by omega) (fun e => by have := T.low _ e; omega) (fun e => by have := T.low _ e; omega) RO.base.2 (by rw [RO.root]; exact T.word) (by rw [T.z]; omega)
  have sC := ch6.same
  have hTok := RO.ok
  obtain ⟨⟨p1, p2, p3, p4⟩, _⟩ := hTok
  have hlow3 : ∀ y, y < 8 -> y ∉ (Tr.inner aa sz sh ch sm ks cs).adrs := fun y hy e => by have := T.low y e; omega
  have RO6 : Ah6 m'.C t2 := by
   have hk' : ∀ p ∈ (Tr.inner aa sz sh ch sm ks cs).content, -1000 <= p.1 /\ p.1 <= 1000 := fun p hp => hkeys p (T.sub.subset hp)
   refine ⟨⟨by omega, by omega⟩, ⟨by rw [old6 1 (by omega) (hlow3 1 (by omega)) (by omega)]; exact RO.base.1, by rw [old6 3 (by omega) (hlow3 3 (by omega)) (by omega)]; exact RO.base.2⟩, v6, ok6, Asw t2 _ _ _ fits6 (Axk asc T.sub) (fun p hp => by have := hk' p hp; omega), Ar7 _ _ (fun y hy => ?_) nd6, Aua t2 _ fits6 (by omega)⟩
   have := adr6 y hy
   exact Alg (by omega) (by omega)
  obtain ⟨_, ⟨z0, z1, z2, z3, z4⟩, _⟩ := shut6
  have ead := adr6 _ (A5t t2)
  have ekd := A27 t2
  have hne : t2.word ≠ w := fun e => by
   rw [hw] at e
   unfold Tr.word at e
   omega
  have s45 : Aad hh h5 (fun _ => False) := s4.trans s5 (fun _ _ x => x)
  have hml := mm.lt
  have s4E : Aad hh h6 (cl bm um) := ((s45.mono (fun _ x => x.elim)).trans sC (fun j hj e => by
   rcases e with e | e | e
   ·omega
   ·exact e
   ·omega)).trans sE (fun j hj e => by
   rcases e with e | e | e
   ·omega
   ·exact e
   ·omega)
  have o6' : Abh h6 u4 2 (Tr.inner aa sz sh ch sm ks cs).content.length (Ady (Tr.inner aa sz sh ch sm ks cs).content) := (o5.same sC (fun y hy e => by
   have h1 := n4 y hy
   have h2 := (o4.use y hy).2.1
   rcases e with e | e | e
   ·omega
   ·have := hml _ e; omega
   ·omega)).same sE (fun y hy e => by
   have h1 := n4 y hy
   have h2 := (o4.use y hy).2.1
   rcases e with e | e | e
   ·omega
   ·have := hml _ e; omega
   ·omega)
  have fin : ∀ ts : Ai.T Value, look ts 7 = (pp bm) -> look ts 8 = I w -> look ts 14 = Aal u4 (Tr.inner aa sz sh ch sm ks cs).content.length -> look ts 15 = (pp b) -> cwf P 155 none xaQ ts h6 Q := fun ts b7 b8 b14 b15 =>
   A5q hT HX HXF HR Nu V H V9 V2 V3 V4 V5 V6 V8 HRl Kn mm6 RO6 (A1v _ _ fits6) (Axy _ _ fits6) (Afp _ _ fits6) (by omega) o6' r6 hw p1 (by omega) hne z2 (by rw [z4]; simp [Tr.content]) (by rw [o6, T.o]) b7 b8 b14 b15 (fun ts' h' s e => post ts' h' (s4E.trans s (fun _ _ x => x.elim)) e)
  have st0 : ∀ ts : Ai.T Value, look ts 7 = (pp bm) -> look ts 8 = I w -> look ts 14 = Aal u4 (Tr.inner aa sz sh ch sm ks cs).content.length -> look ts 15 = (pp b) -> look ts 16 = I (0 : Nat) -> XS P [(pp b), (pp bm)] (fun j => j = b \/ cl bm um j \/ h5.nq <= j) hE bm b w (Aal u4 (Tr.inner aa sz sh ch sm ks cs).content.length) k ts h5 := fun ts b7 b8 b14 b15 b16 =>
   ⟨b7, b8, b14, b15, ⟨0, b16, by omega, ch6⟩⟩
  simp only [xaR]
  repeat first | simp only [SV, SS, seval, l7, l8] | refine ⟨_, _, F3', ?_⟩ | refine ⟨_, _, F4, ?_⟩ | refine ⟨_, _, F5', ?_⟩
  refine A12 (st0 _ (by simp only [SS, seval, l7]) (by simp only [SS, seval, l8]) (by simp only [SS, seval]) (by simp only [SS, seval]) (by simp only [SS, seval] <;> rfl)) FE (fun ts' c7 c8 c14 c15 => ?_)
  simp only [Aia, if_true, Ab1]
  exact fin ts' c7 c8 c14 c15
end
section
variable (hT : Aa0 P tab) (HT : A2i tab) (HX : Aum tab) (HXF : A09 tab) (HR : Aem tab) (HRw : tab 28 = some af28) (HP : Aid tab) (Nu : Num P) (HS : Afx tab) (HKM : Ah3 tab) (HMk : Air tab) (HK : Ae4 tab) (HG : Aep tab) (G : Amh tab) (V : Aea tab) (H : Has tab) (V9 : Acg tab) (HM : Agf tab) (V2 : Aje tab) (V3 : Ail tab) (V4 : Aku tab) (V5 : Aiz tab) (V6 : Aml tab) (V8 : Art tab) (HRl : A15 tab)
include hT HT HX HXF HR HRw HP Nu HS HKM HMk HK HG G V H V9 HM V2 V3 V4 V5 V6 V8 HRl
theorem Akm (Kn : ∀ h, Aa3 P 14 [] h (.bool true) h) {h : Aac} {v vg : Value} {LI LG : List Int} (a : Ah5 h v LI) (ag : Ah5 h vg LG) (at' : Int) :
  Aah P 3 [v, vg, I at'] h fun v h' => v = .bool true /\ Aad h h' (fun _ => False) := by
 refine Aaa hT HX.xalone rfl ?_
 obtain ⟨v1, h1, F1, ⟨l, u, rfl, o, asc, hl, hu, hkeys⟩, s1⟩ := Ar6 hT H a
 have hou : ∀ y, u = some y -> y < h1.nq := fun y hy => (o.use y hy).2.1
 obtain ⟨v2, h2, F2, t, LL, bm, xm, c, rfl, S, hLL, mm, hc, mlo, s2⟩ := Av6 hT HT H V9 Nu (z := 4000) (by omega) (by omega) (Awu o) asc hl hou
 have F2' : Aa3 P 5 [.int .i64 4000, Aal u l.length] h1 (.tuple #[(pp bm), I t.word]) h2 := F2
 have s12 : Aad h h2 (fun _ => False) := s1.trans s2 (fun _ _ x => x)
 have hlo : ∀ j, cl bm (some xm) j -> h.nq <= j := fun j hj => by have := mlo j hj; have := s1.nq; omega
 have hbl : bm < h2.nq := mm.lt _ (.inl rfl)
 obtain ⟨C, hC⟩ : ∃ C, C = [1, 0, 0, 0, 0, t.word, 0] ++ LL := ⟨_, rfl⟩
 have hCl : C.length = 7 + LL.length := by rw [hC]; simp; omega
 have RO := Ax8 S (by omega) asc hkeys (by omega)
 rw [<- hC] at mm RO
 have hcN := Ali (n := l.length) hl
 have hfc := Av0 t l S.fits
 have T0 : CT l t.word 0 t ⟨C, 4000, c, 0, 0⟩ := ⟨RO, rfl, fun y hy => by have := S.adr y hy; show 8 <= y /\ y <= C.length; omega, S.nodup, A2b t l S.fits, by rw [Afp t l S.fits]; exact List.Sublist.refl _, A2c S.fits (by omega), by omega, RO.few, by show C.length <= _; omega, rfl, rfl, rfl, by show 0 <= c /\ c <= _; omega⟩
 have gl : ∃ base cap, vg = .slice base LG.length cap := by
  rcases ag with ⟨rfl, base, cap, rfl⟩ | ⟨x, p, cap, rfl, _⟩ <;> exact ⟨_, _, rfl⟩
 have al : ∀ hh, Aad h2 hh (cl bm (some xm)) -> ∀ i (hi : i < LG.length), ∃ x p cap, vg = .slice (some ⟨x, p, none⟩) LG.length cap /\ hh.rd x (p + i) = some (I LG[i]) := fun hh s i hi => by
  rcases ag with ⟨rfl, base, cap, rfl⟩ | ⟨x, p, cap, rfl, hr⟩
  ·simp at hi
  ·have sF : Aad h hh (fun _ => False) := s12.trans s (fun j hj e => by have := hlo j e; omega)
   refine ⟨x, p, cap, rfl, ?_⟩
   rw [(hr.same sF (fun x => x)).rd (by omega)]; simp [hi]
 have g0 : ∀ ts : Ai.T Value, look ts 1 = vg -> look ts 7 = (pp bm) -> look ts 8 = I t.word -> look ts 9 = I (0 : Nat) -> CI h2 vg bm xm l t.word 0 ts h2 := fun ts b1 b2 b3 b4 =>
  ⟨b1, b2, b3, b4, ⟨t, _, some xm, T0, mm, fun y hy => .inl (by cases hy; rfl)⟩, Aad.refl _ _⟩
 simp only [af3]
 repeat first | simp only [SV, SS, seval] | refine ⟨_, _, F1, ?_⟩ | refine ⟨_, _, F2', ?_⟩
 refine A4h hT HX V H V9 V2 V3 V4 hbl gl al (g0 _ (by simp only [SS, seval]) (by simp only [SS, seval]) (by simp only [SS, seval]) (by simp only [SS, seval] <;> rfl)) (fun i ts' h' hle g' => ?_)
 obtain ⟨l1, l7, l8, l9, ⟨t', m, um, T, mm', un⟩, same⟩ := g'
 simp only [Aia, if_true, Ab1]
 refine A4v hT HX HXF HR HRw HP Nu HS HKM HMk HK HG G V H V9 HM V2 V3 V4 V5 V6 V8 HRl Kn asc hl hkeys hle T mm' l7 l8 (fun ts'' h'' s e => ?_)
 have sF : Aad h h'' (fun _ => False) := (s12.trans same (fun j hj e => by have := hlo j e; omega)).trans s (fun j hj e => by
  have x2 := s12.nq
  rcases e with e | e
  ·have := hlo _ (.inl e); omega
  ·rcases un j e with e | e
   ·have := hlo j (.inr (by rw [e])); omega
   ·omega)
 simp only [SV, SS, seval, e]
 rw [Aab h _ sF.mq]
 exact sF
end
end
end Go.Proofs.YtnonihjoimobmaaGreat.Ai
