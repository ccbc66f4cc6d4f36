/- Texts put together: GB, GC, GD, HI, GE, IA, GF, IB, IC, ID, IE, IF, IG, IH, II, IJ, IK, IL, IM, IN, IO, IP, IQ, IR, IT, IS, IU, IV. -/
import Derived.Test.YtnonihjoimobmaaGreatTh2
import Derived.Test.YtnonihjoimobmaaGreatG2
import Derived.Test.YtnonihjoimobmaaGreatG0
import Derived.Test.YtnonihjoimobmaaGreatTabOk
namespace Go.Proofs.YtnonihjoimobmaaGreat.Ai
open Go.Proofs.YtnonihjoimobmaaGreat
noncomputable section
set_option linter.all false
variable {P : Program} {tab : Nat -> Option Aae}
open Go.RowKit
def Afj (h : Aac) (K : Nat -> Prop) : List Value -> List (List Pr) -> Prop
 | [], [] => True
 | v :: vs, l :: ls => (∃ u, Adx h v 2 l.length (Ady l) u /\ ∀ y, u = some y -> K y) /\ Afj h K vs ls
 | _, _ => False
theorem Afj.same {h h' : Aac} {K S : Nat -> Prop} (m : Aad h h' S) (hk : ∀ j, K j -> ¬ S j) : ∀ {vs : List Value} {ls : List (List Pr)}, Afj h K vs ls -> Afj h' K vs ls
 | [], [], _ => trivial
 | v :: vs, l :: ls, ⟨⟨u, r, hu⟩, e⟩ => ⟨⟨u, r.same m (fun y hy => hk y (hu y hy)), hu⟩, Afj.same m hk e⟩
 | [], _ :: _, e => e.elim
 | _ :: _, [], e => e.elim
theorem Afj.mono {h : Aac} {K K' : Nat -> Prop} (hk : ∀ j, K j -> K' j) : ∀ {vs : List Value} {ls : List (List Pr)}, Afj h K vs ls -> Afj h K' vs ls
 | [], [], _ => trivial
 | v :: vs, l :: ls, ⟨⟨u, r, hu⟩, e⟩ => ⟨⟨u, r, fun y hy => hk y (hu y hy)⟩, Afj.mono hk e⟩
 | [], _ :: _, e => e.elim
 | _ :: _, [], e => e.elim
theorem Afj.len {h : Aac} {K : Nat -> Prop} : ∀ {vs : List Value} {ls : List (List Pr)}, Afj h K vs ls -> vs.length = ls.length
 | [], [], _ => rfl
 | v :: vs, l :: ls, ⟨_, e⟩ => by simp [Afj.len e]
 | [], _ :: _, e => e.elim
 | _ :: _, [], e => e.elim
theorem Afj.app {h : Aac} {K : Nat -> Prop} : ∀ {vs ws : List Value} {ls ms : List (List Pr)}, Afj h K vs ls -> Afj h K ws ms -> Afj h K (vs ++ ws) (ls ++ ms)
 | [], ws, [], ms, _, e => e
 | v :: vs, ws, l :: ls, ms, ⟨a, e⟩, f => ⟨a, Afj.app e f⟩
 | [], _, _ :: _, _, e, _ => e.elim
 | _ :: _, _, [], _, e, _ => e.elim
structure Aoh (h : Aac) (b : Nat) (uw : Option Nat) (K : Nat -> Prop) (Ls : List (List Pr)) (W : List Int) (rf : Bool) : Prop where
 ex : ∃ lv wv vs, h.bqs.get b = some ⟨[lv, wv, .bool rf], 3, 3, true, false⟩ /\ Ai6 h lv 1 vs Ls.length K /\ Afj h K vs Ls /\ Acr h wv W uw
 lt : b < h.nq
 kb : ¬ K b
 kw : ∀ y, uw = some y -> ¬ K y /\ y ≠ b /\ y < h.nq
 klt : ∀ j, K j -> j < h.nq
theorem Aoh.same {h h' : Aac} {b : Nat} {uw : Option Nat} {K S : Nat -> Prop} {Ls : List (List Pr)} {W : List Int} {rf : Bool} (f : Aoh h b uw K Ls W rf) (m : Aad h h' S) (hb : ¬ S b) (hw : ∀ y, uw = some y -> ¬ S y) (hk : ∀ j, K j -> ¬ S j) : Aoh h' b uw K Ls W rf := by
 obtain ⟨lv, wv, vs, e1, e2, e3, e4⟩ := f.ex
 exact ⟨⟨lv, wv, vs, by rw [m.get b f.lt hb]; exact e1, e2.same m hk, e3.same m hk, e4.same m hw⟩, Nat.lt_of_lt_of_le f.lt m.nq, f.kb, fun y hy => ⟨(f.kw y hy).1, (f.kw y hy).2.1, Nat.lt_of_lt_of_le (f.kw y hy).2.2 m.nq⟩, fun j hj => Nat.lt_of_lt_of_le (f.klt j hj) m.nq⟩
section
variable (hT : Aa0 P tab) (G : Amh tab)
include hT G
theorem Ahv {h : Aac} {b : Nat} {uw : Option Nat} {K : Nat -> Prop} {Ls : List (List Pr)} {W : List Int} {rf : Bool} (f : Aoh h b uw K Ls W rf) : Aah P 136 [(pp b)] h fun v h' => v = .bool (rf || Ls.isEmpty) /\ h' = h := by
 refine Aaa hT G.g18 rfl ?_
 obtain ⟨lv, wv, vs, e1, e2, e3, e4⟩ := f.ex
 obtain ⟨base, hlv⟩ := e2.len
 have r0 : h.rd b 0 = some lv := Abb e1
 have r2 : h.rd b 2 = some (.bool rf) := Abb e1
 subst hlv
 cases rf with
 | true => simp only [SS, seval, af136, r0, r2, Bool.true_or]
 | false =>
  cases Ls with
  | nil =>
   have c0 : (((0 : Nat) : Int) == 0) = true := rfl
   simp only [SS, seval, af136, r0, r2, Bool.false_or, List.isEmpty_nil, beq_self_eq_true]
  | cons l Ls =>
   have c0 : (((Ls.length + 1 : Nat) : Int) == 0) = false := by rw [beq_eq_false_iff_ne]; omega
   simp only [SS, seval, af136, r0, r2, Bool.false_or, List.isEmpty_cons, c0]
theorem Av2 {h : Aac} {b : Nat} {uw : Option Nat} {K : Nat -> Prop} {Ls : List (List Pr)} {W : List Int} {rf : Bool} (f : Aoh h b uw K Ls W rf) (hW : rf = false -> Ls = [] -> W ≠ []) : Aah P 138 [(pp b)] h fun v h' => v = (if rf || !Ls.isEmpty then .tuple #[I 0, .bool false] else .tuple #[I (W.headD 0), .bool true]) /\ h' = h := by
 refine Aaa hT G.g17 rfl ?_
 obtain ⟨lv, wv, vs, e1, e2, e3, e4⟩ := f.ex
 obtain ⟨v1, h1, F1, rfl, rfl⟩ := Ahv hT G f
 have r2 : h1.rd b 2 = some (.bool rf) := Abb e1
 cases rf with
 | true =>
  simp only [SS, seval, af138, r2, Bool.true_or]
 | false =>
  have r1 : h1.rd b 1 = some wv := Abb e1
  cases Ls with
  | nil =>
   have hW := hW rfl rfl
   simp only [SS, seval, af138, r2]
   refine ⟨_, _, F1, ?_⟩
   rcases e4 with ⟨_, hn, _⟩ | ⟨x, rest, hx, rfl, hb, hl, n1⟩
   ·exact (hW hn).elim
   ·have c0 : ((0 : Int) < W.length) = True := by
     have := List.length_pos_iff.2 hW
     simp; omega
    have rw0 : h1.rd x 0 = some (I (W.headD 0)) := by
     rw [Abb hb]
     cases W with
     | nil => exact (hW rfl).elim
     | cons w W => rfl
    simp only [SS, seval, r2, r1, Bool.false_or, List.isEmpty_nil, c0, rw0, Bool.or_false, Bool.false_eq_true]
  | cons l Ls =>
   simp only [SS, seval, af138, r2]
   refine ⟨_, _, F1, ?_⟩
   simp only [SS, seval, r2, Bool.false_or, List.isEmpty_cons]
omit G in
theorem Arj (H : Has tab) {h : Aac} {n : Int} {xk pk ck xw pw cw : Nat} {A W : List Int} (hk : Abq h xk pk 1 A.length ck (A.map I)) (hw : Abq h xw pw 1 W.length cw (W.map I)) (k0 : A ≠ []) (hl : W.length = A.length + 1) (hb : W.length < 1000) :
  Aah P 48 [I n, .slice (some ⟨xk, pk, none⟩) A.length ck, .slice (some ⟨xw, pw, none⟩) W.length cw] h fun v h' => ∃ x, h.nq <= x /\ v = .slice (some ⟨x, 0, none⟩) ([(W.length : Int), n, 0, 0, 0] ++ A ++ W).length ([(W.length : Int), n, 0, 0, 0] ++ A ++ W).length /\ Abq h' x 0 1 ([(W.length : Int), n, 0, 0, 0] ++ A ++ W).length ([(W.length : Int), n, 0, 0, 0] ++ A ++ W).length (([(W.length : Int), n, 0, 0, 0] ++ A ++ W).map I) /\ Aad h h' (fun _ => False) := by
 refine Aaa hT H.f72 rfl ?_
 have w1 : Aan .i64 ((A.length : Int) + 1) = W.length := by rw [hl, Aav] <;> omega
 have c1 : ((W.length : Int) != W.length) = false := by simp
 have w0 : W ≠ [] := fun e => by rw [e] at hl; simp at hl
 simp only [SS, seval, af48, w1, c1]
 have r5 : Abq (h.new ⟨[I W.length, I n, I 0, I 0, I 0], 5, 1, true, false⟩) h.nq 0 1 5 5 [I W.length, I n, I 0, I 0, I 0] := Abq.fresh h [I W.length, I n, I 0, I 0, I 0] 5 1 true false rfl
 generalize hk1 : h.new ⟨[I W.length, I n, I 0, I 0, I 0], 5, 1, true, false⟩ = k1 at r5
 have s1 : Aad h k1 (fun _ => False) := hk1 ▸ Aad.new
 have r3 : Abq (k1.new ⟨[.slice (some ⟨h.nq, 0, none⟩) 5 5, .slice (some ⟨xk, pk, none⟩) A.length ck, .slice (some ⟨xw, pw, none⟩) W.length cw], 3, 1, true, false⟩) k1.nq 0 1 3 3 [.slice (some ⟨h.nq, 0, none⟩) 5 5, .slice (some ⟨xk, pk, none⟩) A.length ck, .slice (some ⟨xw, pw, none⟩) W.length cw] := Abq.fresh k1 _ 3 1 true false rfl
 have s2 : Aad k1 (k1.new ⟨[.slice (some ⟨h.nq, 0, none⟩) 5 5, .slice (some ⟨xk, pk, none⟩) A.length ck, .slice (some ⟨xw, pw, none⟩) W.length cw], 3, 1, true, false⟩) (fun _ => False) := Aad.new
 have sA : Aad h (k1.new ⟨[.slice (some ⟨h.nq, 0, none⟩) 5 5, .slice (some ⟨xk, pk, none⟩) A.length ck, .slice (some ⟨xw, pw, none⟩) W.length cw], 3, 1, true, false⟩) (fun _ => False) := s1.trans s2 (fun _ _ x => x)
 obtain ⟨v, h3, F, rfl, q2, q3⟩ := Aib hT H (A := [(W.length : Int), n, 0, 0, 0]) (B := A) (C := W) r3 (r5.same s2 (fun x => x)) (hk.same sA (fun x => x)) (hw.same sA (fun x => x)) (by simp) k0 w0 (by simp; omega)
 refine ⟨_, _, F, ?_⟩
 simp only [SS, seval]
 have sB := sA.trans q3 (fun _ _ x => x)
 rw [Aab h h3 sB.mq]
 exact ⟨_, Nat.le_trans s1.nq s2.nq, rfl, q2, sB⟩
theorem Aq6 (H : Has tab) (Nu : Num P) {h : Aac} {b : Nat} {uw ul : Option Nat} {W : List Int} {lv wv v : Value} {rf : Bool} {l : List Pr} (hbl : b < h.nq) (hb : h.bqs.get b = some ⟨[lv, wv, .bool rf], 3, 3, true, false⟩) (hs : Acr h wv W uw) (hl : Adx h v 2 l.length (Ady l) ul) (h120 : l.length <= 120) (hk : Abg l <= W.length) (hWl : W.length < 1000000) :
  Aah P 137 [(pp b), v] h fun r h' => (∃ x cap, r = .tuple #[I (Adj l), .slice (some ⟨x, 0, none⟩) (Afb l (W.drop (W.length - Abg l))).length cap, I (Abg l)] /\ Abq h' x 0 1 (Afb l (W.drop (W.length - Abg l))).length cap ((Afb l (W.drop (W.length - Abg l))).map I) /\ h.nq <= x) /\ Aad h h' (fun _ => False) := by
 refine Aaa hT G.g61 rfl ?_
 obtain ⟨base, cap, hv⟩ := hl.len
 subst hv
 by_cases h2 : 2 <= l.length
 ·have pn := Ac7 h2 h120
  have d2 := pn.deg2
  have d11 := pn.deg11
  rw [Aec h2] at hk ⊢
  rw [Aju h2, Alc h2]
  have c0 : ((l.length : Int) == 0) = false := by rw [beq_eq_false_iff_ne]; omega
  have c1 : ((l.length : Int) == 1) = false := by rw [beq_eq_false_iff_ne]; omega
  rcases hl with ⟨e, _⟩ | ⟨xl, pl, capl, rfl, e, rl⟩
  ·omega
  cases e
  simp only [SS, seval, af137, c0, c1]
  refine ⟨_, _, Nu.deg l.length h120 h, ?_⟩
  simp only [SS, seval]
  refine Ac6 (fun k ts h' => ∃ (i : Nat) (uk : Option Nat), k = Aar l.length - i /\ 1 <= i /\ i <= Aar l.length /\ look ts 0 = (pp b) /\ look ts 1 = .slice (some ⟨xl, pl, none⟩) l.length cap /\ look ts 7 = I l.length /\ look ts 8 = I (Aar l.length) /\ look ts 10 = I i /\ look ts 9 = Aal uk (i - 1) /\ Abh h' uk 1 (i - 1) ((Acl l i).map I) /\ (∀ y, uk = some y -> h.nq <= y) /\ Aad h h' (fun _ => False)) ?_ (n := Aar l.length - 1) ⟨1, none, rfl, Nat.le_refl _, by omega, by simp only [SS, seval], by simp only [SS, seval], by simp only [SS, seval], by simp only [SS, seval], by simp only [SS, seval] <;> rfl, by simp only [SS, seval] <;> rfl, Abh.nil _ _, (fun y hy => by cases hy), Aad.refl _ _⟩
  rintro k ts h' ⟨i, uk, rfl, i1, i2, t0, t1, t7, t8, t10, t9, ok, uf, sm⟩
  refine Acf ?_
  by_cases hi : i < Aar l.length
  ·have ci : ((i : Int) < Aar l.length) = True := by simp [hi]
   have wi : Aan .i64 ((i : Int) + 1) = ((i + 1 : Nat) : Int) := by rw [Aav] <;> omega
   have htop := pn.top i hi
   have hone := pn.one i hi
   have hfl : Aa1 l.length i < l.length := by omega
   have cf : ((Aa1 l.length i : Int) < l.length) = True := by simp; omega
   have rk : h'.rd xl (pl + Aa1 l.length i * 2) = some (I l[Aa1 l.length i].1) := by
    rw [(rl.same sm (fun x => x)).rd (by omega)]; exact Afs l _ hfl
   simp only [SS, seval, t0, t1, t7, t8, t10, t9, ci]
   refine ⟨_, _, Nu.frm l.length i h2 h120 hi _, ?_⟩
   have hcell : Abq (h'.new ⟨[I l[Aa1 l.length i].1], 1, 1, true, false⟩) h'.nq 0 1 1 1 [I l[Aa1 l.length i].1] := Abq.fresh h' [I l[Aa1 l.length i].1] 1 1 true false rfl
   have s4 : Aad h' (h'.new ⟨[I l[Aa1 l.length i].1], 1, 1, true, false⟩) (fun _ => False) := Aad.new
   obtain ⟨uk', k5, ha5, ok5, s5, n5⟩ := Ad5 (bytes := 8) (ok.same s4 (fun _ _ x => x)) hcell.src rfl rfl (Nat.le_refl _) (by omega) (by omega)
   have e1 : i - 1 + 1 = i + 1 - 1 := by omega
   rw [e1] at ha5 ok5
   simp only [SS, seval, t0, t1, t7, t8, t10, t9, cf, rk, ha5, wi]
   have sk : Aad h k5 (fun _ => False) := (sm.trans s4 (fun _ _ x => x)).trans s5 (fun j hj e => by have := uf j e; omega)
   have nx := sm.nq
   refine ⟨Aar l.length - (i + 1), by omega, i + 1, uk', rfl, by omega, by omega, rfl, rfl, ?_, fun y hy => ?_, sk⟩
   ·have e : Acl l (i + 1) = Acl l i ++ [l[Aa1 l.length i].1] := by
     rw [Acl, if_neg (by omega)]; simp [hfl]
    rw [e, List.map_append]
    exact ok5
   ·rcases n5 y hy with e | e
    ·exact uf y e
    ·rw [e, Aet]; omega
  ·have hid : i = Aar l.length := by omega
   have ci : ((i : Int) < Aar l.length) = False := by simp; omega
   obtain ⟨y, rfl⟩ : ∃ y, uk = some y := by
    cases hu : uk with
    | none => rw [hu] at ok; have := ok.non rfl; omega
    | some y => exact ⟨y, rfl⟩
   have hs' := hs.same sm (fun _ _ x => x)
   obtain ⟨bw, cw, hwv⟩ := hs.len
   have rb : h'.rd b 1 = some wv := by
    rw [Abb (by rw [sm.get b hbl (fun x => x)]; exact hb)]; rfl
   have wl : Aan .i64 ((W.length : Int) - Aar l.length) = ((W.length - Aar l.length : Nat) : Int) := by rw [Aav] <;> omega
   obtain ⟨xw, pw, cpw, _, f1, rw1⟩ := hs'.from (n := W.length - Aar l.length) (by omega)
   have hdl : (W.drop (W.length - Aar l.length)).length = Aar l.length := by simp; omega
   have hkl : (Acl l (Aar l.length)).length = Aar l.length - 1 := Ac0 _ _
   rw [hid, <- hkl] at ok
   obtain ⟨v6, h6, F6, x, hx, rfl, r6, s6⟩ := Arj hT H (n := l.length) ok.rd rw1 (by intro e; rw [e] at hkl; simp at hkl; omega) (by rw [hdl, hkl]; omega) (by omega)
   rw [hwv] at rb f1
   have t9' : look ts 9 = .slice (some ⟨y, 0, none⟩) (Acl l (Aar l.length)).length (Acl l (Aar l.length)).length := by rw [t9, hid, hkl]; rfl
   simp only [SS, seval, t0, t1, t7, t8, t10, t9', ci]
   refine ⟨Ad9 48 _ h' _ h6 Agy, Aba F6 Abo, ?_⟩
   have g6 := @Abd 48 [I l.length, .slice (some ⟨y, 0, none⟩) (Acl l (Aar l.length)).length (Acl l (Aar l.length)).length, .slice (some ⟨xw, pw, none⟩) (W.drop (W.length - Aar l.length)).length cpw] h' (.slice (some ⟨x, 0, none⟩) ([((W.drop (W.length - Aar l.length)).length : Int), (l.length : Int), 0, 0, 0] ++ Acl l (Aar l.length) ++ W.drop (W.length - Aar l.length)).length ([((W.drop (W.length - Aar l.length)).length : Int), (l.length : Int), 0, 0, 0] ++ Acl l (Aar l.length) ++ W.drop (W.length - Aar l.length)).length) h6 Agy
   rw [hdl] at g6 r6 f1
   rw [hdl]
   simp only [SS, seval, t0, t1, t7, t8, t10, t9', rb, wl, f1, g6]
   have sf := sm.trans s6 (fun _ _ x => x)
   rw [Aab h h6 sf.mq]
   have nx := sm.nq
   exact ⟨⟨x, _, rfl, r6, by omega⟩, sf⟩
 ·match l, h2 with
  | [], _ =>
   obtain ⟨v1, h1, F1, rfl, r1, s1⟩ := Afz hT H h
   have c0 : (((0 : Nat) : Int) == 0) = true := rfl
   simp only [SS, seval, af137, beq_self_eq_true]
   refine ⟨_, _, F1, ?_⟩
   simp only [SS, seval]
   rw [Aab h h1 s1.mq]
   exact ⟨⟨h.nq, 1, rfl, r1, Nat.le_refl _⟩, s1⟩
  | [p], _ =>
   obtain ⟨v1, h1, F1, rfl, r1, s1⟩ := Ako hT H h p.1 p.2
   have c0 : ((1 : Int) == 0) = false := rfl
   rcases hl with ⟨e, _⟩ | ⟨xl, pl, capl, rfl, e, rl⟩
   ·simp at e
   cases e
   have q0 : h.rd xl pl = some (I p.1) := rl.rd (i := 0) (by simp)
   have q1 : h.rd xl (pl + 1) = some (I p.2) := rl.rd (i := 1) (by simp)
   simp only [SS, seval, af137, c0, beq_self_eq_true]
   refine ⟨Ad9 85 _ h _ h1 Agy, Aba F1 Abo, ?_⟩
   have g1 := @Abd 85 [I p.1, I p.2] h (.slice (some ⟨h.nq, 0, none⟩) 2 2) h1 Agy
   simp only [SS, seval, q0, q1, g1]
   rw [Aab h h1 s1.mq]
   exact ⟨⟨h.nq, 2, rfl, r1, Nat.le_refl _⟩, s1⟩
  | _ :: _ :: _, h2 => simp at h2
end
theorem Ajp (l : List Pr) : Abg l = Aar l.length := by
  unfold Abg Aar
  by_cases h : l.length < 2
  · rw [if_pos h, if_pos h]
  · rw [if_neg h]
section
variable (hT : Aa0 P tab) (G : Amh tab)
include hT G
theorem Au2 (Nu : Num P) : ∀ (f : Nat) (l : List Pr) (h : Aac) (v : Value) (u uo : Option Nat) (n : Nat) (cells : List Value), l.length < f -> l.length <= 120 -> Adx h v 2 l.length (Ady l) u -> Abh h uo 1 n cells -> (∀ y, u = some y -> uo ≠ some y /\ y < h.nq) -> n + (Adr f l).length < 100000 ->
    Aah P 144 [Aal uo n, v] h fun r h' => (∃ uo' vs, r = Aal uo' (n + (Adr f l).length) /\ Abh h' uo' 1 (n + (Adr f l).length) (cells ++ vs) /\ Afj h' (fun j => u = some j) vs (Adr f l) /\ (∀ y, uo' = some y -> uo = some y \/ h.nq <= y)) /\ Aad h h' (fun j => uo = some j) := by
  intro f
  induction f with
  | zero => intro l h v u uo n cells hf; omega
  | succ f ih =>
    intro l h v u uo n cells hf hl hr ho huo hn
    refine Aaa hT G.g59 rfl ?_
    obtain ⟨base, cap, hv⟩ := hr.len
    subst hv
    have hd11 : Aar l.length <= 11 := by
      by_cases h2 : 2 <= l.length
      · exact (Ac7 h2 hl).deg11
      · rw [<- Ajp, Abg, if_pos (by omega)]; omega
    have hord : Adr (f + 1) l = Ais (Adr f) l (Aar l.length) ++ [l] := by rw [Adr, Ajp]
    rw [hord, List.length_append, List.length_singleton] at hn
    simp only [SS, seval, af144]
    refine ⟨_, _, Nu.deg l.length hl h, ?_⟩
    simp only [SS, seval]
    refine Ac6 (fun k ts h' => ∃ (i : Nat) (uo' : Option Nat) (vs : List Value), k = Aar l.length - i /\ i <= Aar l.length /\ look ts 0 = Aal uo' (n + (Ais (Adr f) l i).length) /\ look ts 1 = .slice base l.length cap /\ look ts 9 = I (Aar l.length) /\ look ts 10 = I i /\ Abh h' uo' 1 (n + (Ais (Adr f) l i).length) (cells ++ vs) /\ Afj h' (fun j => u = some j) vs (Ais (Adr f) l i) /\ (∀ y, uo' = some y -> uo = some y \/ h.nq <= y) /\ Aad h h' (fun j => uo = some j)) ?_ (n := Aar l.length) ⟨0, uo, [], rfl, Nat.zero_le _, by simp only [SS, seval] <;> rfl, by simp only [SS, seval], by simp only [SS, seval], by simp only [SS, seval] <;> rfl, by simpa [Ais] using ho, trivial, fun y hy => .inl hy, Aad.refl _ _⟩
    rintro k ts h' ⟨i, uo', vs, rfl, i2, t0, t1, t9, t10, oo, ee, hu', sm⟩
    have hr' := hr.same sm (fun y hy e => (huo y hy).1 e)
    have hu6 : ∀ y, u = some y -> ¬ uo' = some y := fun y hy e => by
      rcases hu' y e with e2 | e2
      · exact (huo y hy).1 e2
      · have := (huo y hy).2; omega
    refine Acf ?_
    by_cases hi : i < Aar l.length
    · have h2 : 2 <= l.length := by
        rcases Nat.lt_or_ge l.length 2 with h | h
        · rw [<- Ajp, Abg, if_pos h] at hi; omega
        · exact h
      have pn := Ac7 h2 hl
      have hless := pn.less i hi
      have htop := pn.top i hi
      have hone := pn.one i hi
      have hpl := Abu h2 hl hi
      have ci : ((i : Int) < Aar l.length) = True := by simp [hi]
      have wi : Aan .i64 ((i : Int) + 1) = ((i + 1 : Nat) : Int) := by rw [Aav] <;> omega
      have wfs : Aan .i64 ((Aa1 l.length i : Int) + Abs l.length i) = ((Aa1 l.length i + Abs l.length i : Nat) : Int) := by rw [Aav] <;> omega
      rcases hr' with ⟨e, _⟩ | ⟨x, p, cp, hux, e, r⟩
      · omega
      cases e
      have hcap := r.cap
      have sl := r.cut (lo := Aa1 l.length i) (hi := Aa1 l.length i + Abs l.length i) (by omega) htop (by omega)
      have hsub := r.sub (lo := Aa1 l.length i) (hi := Aa1 l.length i + Abs l.length i) (by omega) htop
      have e1 : Aa1 l.length i + Abs l.length i - Aa1 l.length i = Abs l.length i := by omega
      rw [e1] at sl hsub
      have hrow : Adx h' (.slice (some ⟨x, p + Aa1 l.length i * 2, none⟩) (Abs l.length i) (cap - Aa1 l.length i)) 2 (Aaq l i).length (Ady (Aaq l i)) u := by
        refine .inr ⟨x, _, _, hux, by rw [hpl], ?_⟩
        rw [Aaq, Aha, Ag6]
        rw [Aaq] at hpl
        rw [hpl]; exact hsub
      have hlen : (Ais (Adr f) l (i + 1)).length = (Ais (Adr f) l i).length + (Adr f (Aaq l i)).length := by simp [Ais]
      have hmono : (Ais (Adr f) l (i + 1)).length <= (Ais (Adr f) l (Aar l.length)).length := by
        have : ∀ a b, a <= b -> (Ais (Adr f) l a).length <= (Ais (Adr f) l b).length := by
          intro a b hab
          induction b with
          | zero => have : a = 0 := by omega
                    subst this; exact Nat.le_refl _
          | succ b ihb =>
            by_cases c : a = b + 1
            · subst c; exact Nat.le_refl _
            · have := ihb (by omega)
              simp only [Ais, List.length_append]; omega
        exact this _ _ (by omega)
      obtain ⟨v3, h3, F3, ⟨uo3, vs3, rfl, oo3, ee3, hu3⟩, s3⟩ := ih (Aaq l i) h' _ u uo' (n + (Ais (Adr f) l i).length) (cells ++ vs) (by omega) (by omega) hrow oo (fun y hy => ⟨fun e => hu6 y hy e, Nat.lt_of_lt_of_le (huo y hy).2 sm.nq⟩) (by omega)
      simp only [SS, seval, t0, t1, t9, t10, ci]
      refine ⟨_, _, Nu.frm l.length i h2 hl hi _, ?_⟩
      simp only [SS, seval, t0, t1, t9, t10]
      refine ⟨_, _, Nu.siz l.length i h2 hl hi _, ?_⟩
      simp only [SS, seval, t0, t1, t9, t10, wfs, sl]
      refine ⟨_, _, F3, ?_⟩
      simp only [SS, seval, t0, t1, t9, t10, wi]
      have e3 : n + (Ais (Adr f) l i).length + (Adr f (Aaq l i)).length = n + (Ais (Adr f) l (i + 1)).length := by omega
      rw [e3, List.append_assoc] at oo3
      refine ⟨Aar l.length - (i + 1), by omega, i + 1, uo3, vs ++ vs3, rfl, by omega, by rw [e3], rfl, oo3, ?_, fun y hy => ?_, ?_⟩
      · rw [Ais]
        refine Afj.app (ee.same s3 (fun j hj e => hu6 j hj e)) ee3
      · rcases hu3 y hy with e | e
        · exact hu' y e
        · exact .inr (Nat.le_trans sm.nq e)
      · exact sm.trans s3 (fun j hj e => by
          rcases hu' j e with e2 | e2
          · exact e2
          · omega)
    · have hid : i = Aar l.length := by omega
      have ci : ((i : Int) < Aar l.length) = False := by simp; omega
      have hcell : Abq (h'.new ⟨[.slice base l.length cap], 1, 1, true, false⟩) h'.nq 0 1 1 1 [.slice base l.length cap] := Abq.fresh h' [.slice base l.length cap] 1 1 true false rfl
      have s4 : Aad h' (h'.new ⟨[.slice base l.length cap], 1, 1, true, false⟩) (fun _ => False) := Aad.new
      rw [hid] at t0 oo ee
      obtain ⟨uo5, k5, ha5, oo5, s5, n5⟩ := Ad5 (bytes := 24) (oo.same s4 (fun _ _ x => x)) hcell.src rfl rfl (Nat.le_refl _) (by omega) (by omega)
      simp only [SS, seval, t0, t1, t9, t10, ci, ha5]
      have sk : Aad h k5 (fun j => uo = some j) := (sm.trans s4 (fun _ _ x => x.elim)).trans s5 (fun j hj e => by
        rcases hu' j e with e2 | e2
        · exact e2
        · omega)
      rw [Aab h k5 sk.mq]
      have nx := sm.nq
      refine ⟨⟨uo5, vs ++ [.slice base l.length cap], ?_, ?_, ?_, fun y hy => ?_⟩, sk⟩
      · rw [hord, List.length_append, List.length_singleton]; rfl
      · rw [hord, List.length_append, List.length_singleton, <- List.append_assoc]; exact oo5
      · rw [hord]
        refine Afj.app ((ee.same s4 (fun _ _ x => x)).same s5 (fun j hj e => hu6 j hj e)) ⟨⟨u, (hr'.same s4 (fun _ _ x => x)).same s5 (fun j hj e => hu6 j hj e), fun y hy => hy⟩, trivial⟩
      · rcases n5 y hy with e | e
        · exact hu' y e
        · exact .inr (by rw [e, Aet]; omega)
end
theorem A5x (h : Aac) (a b c : Value) : A2o h 3 (.agg #[a, b, c]) = some ((pp h.nq), h.new ⟨[a, b, c], 3, 3, true, false⟩) := (rfl)
section
variable (hT : Aa0 P tab) (G : Amh tab)
include hT G
theorem Al9 {h : Aac} {v : Value} {l : List Pr} {u : Option Nat} (a : Adx h v 2 l.length (Ady l) u) (hl : l.length < 10000) : Aah P 134 [v] h fun v' h' => (∃ u', Adx h' v' 2 l.length (Ady l) u' /\ ∀ y, u' = some y -> h.nq <= y /\ y < h'.nq) /\ Aad h h' (fun _ => False) := by
 refine Aaa hT G.g60 rfl ?_
 have e1 : (h.new ⟨[], 0, 2, true, false⟩).bqs.get h.nq = some ⟨[], 0, 2, true, false⟩ := by rw [Aa5]; exact if_pos rfl
 have s1 : Aad h (h.new ⟨[], 0, 2, true, false⟩) (fun _ => False) := Aad.new
 have l1 : (h.new ⟨[], 0, 2, true, false⟩).nq = h.nq + 1 := rfl
 have some_case : ∀ (base : Option Addr) (cap : Nat), v = .slice base l.length cap -> base ≠ none -> cwf P af134.n none af134.body (Ad1 .nil 0 [v]) h (fnQ h af134.res fun v' h' => (∃ u', Adx h' v' 2 l.length (Ady l) u' /\ ∀ y, u' = some y -> h.nq <= y /\ y < h'.nq) /\ Aad h h' (fun _ => False)) := by
  intro base cap hv hb
  have hs := (a.same s1 (fun _ _ x => x)).src
  obtain ⟨ba, rfl⟩ : ∃ ba, base = some ba := by
   cases base with
   | none => exact (hb rfl).elim
   | some ba => exact ⟨ba, rfl⟩
  generalize hh1 : h.new ⟨[], 0, 2, true, false⟩ = h1 at e1 s1 l1 hs
  obtain ⟨vi, h2, z, ap, mi, s2, ze, _⟩ := Alr (bytes := 16) e1 (by omega) hs (by simp [Ait]) (Agk l) (by omega) (by omega) (by omega)
  subst hv
  simp only [SS, seval, af134, hh1, ap]
  have sf : Aad h h2 (fun _ => False) := s1.trans s2 (fun _ _ x => x)
  rw [Aab h h2 sf.mq]
  refine ⟨⟨some z, ?_, fun y hy => by cases hy; rcases mi with ⟨_, _, _, _, hz⟩ | ⟨_, o⟩ <;> refine ⟨by omega, ?_⟩ <;> first | exact hz | exact (o.use _ rfl).2.1⟩, sf⟩
  rcases mi with ⟨h0, hf, rfl, hz7, hz⟩ | ⟨rfl, o⟩
  ·refine .inr ⟨z, 0, 0, rfl, by rw [h0], ⟨⟨_, hz7, rfl, by rw [hf, h0]; simp, by rw [h0]; simp⟩, by omega, hz⟩⟩
  ·exact Adx.of_own o
 rcases a with ⟨e, ef, rfl | ⟨b, o, k, rfl⟩⟩ | ⟨x, p, cap, e, rfl, r⟩
 ·simp only [SS, seval, af134]
  exact ⟨⟨none, .inl ⟨e, ef, .inl rfl⟩, fun y hy => by cases hy⟩, Aad.refl _ _⟩
 ·exact some_case _ _ (by rw [e]) (by simp)
 ·exact some_case _ _ rfl (by simp)
theorem Aza (H : Has tab) (Nu : Num P) {h : Aac} {v : Value} {l : List Pr} {u : Option Nat} (a : Adx h v 2 l.length (Ady l) u) (pa : Asp h v l u) (hl : l.length <= 120) (hord : (Adr (l.length + 1) l).length < 90000) :
  Aah P 135 [v] h fun v' h' => (∃ b K, v' = (pp b) /\ h.nq <= b /\ (∀ j, K j -> h.nq <= j) /\ (Asc l /\ Aoh h' b none K (Adr (l.length + 1) l) [] false \/ ¬ Asc l /\ Aoh h' b none K [] [] true)) /\ Aad h h' (fun _ => False) := by
 refine Aaa hT G.g15 rfl ?_
 obtain ⟨v1, h1, F1, hr, rfl⟩ := Am6 hT H pa (by omega)
 simp only [SS, seval, af135]
 refine ⟨_, _, F1, ?_⟩
 rcases hr with ⟨rfl, hasc, _⟩ | ⟨rfl, hn⟩
 ·simp only [SS, seval]
  obtain ⟨v2, h2, F2, ⟨u2, r2, hu2⟩, s2⟩ := Al9 hT G a (by omega)
  refine ⟨_, _, F2, ?_⟩
  obtain ⟨v3, h3, F3, ⟨uo, vs, rfl, oo, ee, huo⟩, s3⟩ := Au2 hT G Nu (l.length + 1) l h2 v2 u2 none 0 [] (by omega) hl r2 (Abh.nil _ _) (fun y hy => ⟨by simp, (hu2 y hy).2⟩) (by omega)
  rw [Nat.zero_add, List.nil_append] at oo
  simp only [Nat.zero_add] at F3
  have x2 := s2.nq
  have x3 := s3.nq
  have F3' : Aa3 P 144 [.slice none 0 0, v2] h2 (Aal uo (Adr (l.length + 1) l).length) h3 := F3
  simp only [SS, seval, Aal]
  refine ⟨_, _, F3', ?_⟩
  simp only [SS, seval, Aal, A5x]
  have sb : Aad h3 (h3.new ⟨[.slice (uo.map fun x => ⟨x, 0, none⟩) (Adr (l.length + 1) l).length (Adr (l.length + 1) l).length, .slice none 0 0, .bool false], 3, 3, true, false⟩) (fun _ => False) := Aad.new
  have sf : Aad h1 (h3.new ⟨[.slice (uo.map fun x => ⟨x, 0, none⟩) (Adr (l.length + 1) l).length (Adr (l.length + 1) l).length, .slice none 0 0, .bool false], 3, 3, true, false⟩) (fun _ => False) := (s2.trans s3 (fun j hj e => by cases e)).trans sb (fun _ _ x => x)
  rw [Aab h1 _ sf.mq]
  have uol := fun y hy => (oo.use y hy).2.1
  refine ⟨⟨h3.nq, fun j => u2 = some j \/ uo = some j, rfl, by omega, fun j hj => ?_, .inl ⟨hasc, ⟨_, _, vs, by rw [Aa5]; exact if_pos rfl, ?_, ?_, .inl ⟨rfl, rfl, rfl⟩⟩, Nat.lt_succ_self _, fun e => ?_, fun y hy => (by cases hy), fun j hj => ?_⟩⟩, sf⟩
  ·rcases hj with hj | hj
   ·exact (hu2 j hj).1
   ·rcases huo j hj with e | e
    ·cases e
    ·omega
  ·rcases uo with _ | y
   ·have := oo.non rfl
    exact (Aob _ _ (List.eq_nil_of_length_eq_zero this)).elim
   ·exact .inr ⟨y, 0, .inr rfl, rfl, (oo.use y rfl).2.2, (oo.same sb (fun _ _ x => x)).rd⟩
  ·exact (ee.mono (fun j hj => .inl hj)).same sb (fun _ _ x => x)
  ·rcases e with e | e
   ·have := (hu2 _ e).2; omega
   ·have := uol _ e; omega
  ·rw [Aet]
   rcases hj with hj | hj
   ·have := (hu2 j hj).2; omega
   ·have := uol j hj; omega
 ·simp only [SS, seval, A5x]
  have sb : Aad h1 (h1.new ⟨[.slice none 0 0, .slice none 0 0, .bool true], 3, 3, true, false⟩) (fun _ => False) := Aad.new
  rw [Aab h1 _ sb.mq]
  refine ⟨⟨h1.nq, fun _ => False, rfl, Nat.le_refl _, fun j hj => hj.elim, .inr ⟨fun hx => hn ⟨hx, by omega⟩, ⟨_, _, [], by rw [Aa5]; exact if_pos rfl, .inl ⟨rfl, rfl, .inl rfl⟩, trivial, .inl ⟨rfl, rfl, rfl⟩⟩, Nat.lt_succ_self _, fun e => e, fun y hy => (by cases hy), fun j hj => hj.elim⟩⟩, sb⟩
end
theorem Abh.row {h : Aac} {u : Option Nat} {s n : Nat} {cells : List Value} (o : Abh h u s n cells) : Adx h (Aal u n) s n cells u := by
 cases u with
 | none =>
  have e := o.non rfl
  subst e
  have hl := o.len
  rw [Nat.zero_mul] at hl
  exact .inl ⟨rfl, List.eq_nil_of_length_eq_zero hl, .inl rfl⟩
 | some x => exact .inr ⟨x, 0, n, rfl, rfl, o.rd⟩
section
variable (hT : Aa0 P tab) (HS : Afx tab) (HK : Ae4 tab) (HG : Aep tab) (G : Amh tab) (V : Aea tab) (H : Has tab) (V9 : Acg tab) (HM : Agf tab)
include hT HG
theorem Ank (h : Aac) (n t : Nat) (f : Int) : Aah P 69 [I n, I f, I t] h fun v h' => v = (pp h.nq) /\ Adp h' h.nq 0 ⟨n, 0, 0, 0, f, t⟩ (.pointer none) 0 0 (.slice none 0 0) [] none [] none /\ Aad h h' (fun _ => False) /\ h'.nq = h.nq + 1 := by
 refine Aaa hT HG.gnew rfl ?_
 have bx := Adn h (gkL 0 ⟨n, 0, 0, 0, f, t⟩ (.pointer none) 0 0 (.slice none 0 0) (.slice none 0 0)) 12 rfl
 have g : Adp (h.newR (gkL 0 ⟨n, 0, 0, 0, f, t⟩ (.pointer none) 0 0 (.slice none 0 0) (.slice none 0 0))) h.nq 0 ⟨n, 0, 0, 0, f, t⟩ (.pointer none) 0 0 (.slice none 0 0) [] none [] none := ⟨Rcd.new _ _, Adh.nil _ _, Abh.nil _ _, by simp, by simp, (fun x e => by cases e), Acs _⟩
 have s : Aad h (h.newR (gkL 0 ⟨n, 0, 0, 0, f, t⟩ (.pointer none) 0 0 (.slice none 0 0) (.slice none 0 0))) (fun _ => False) := Aad.newR
 have x : (h.newR (gkL 0 ⟨n, 0, 0, 0, f, t⟩ (.pointer none) 0 0 (.slice none 0 0) (.slice none 0 0))).nq = h.nq + 1 := rfl
 have fl : Aew [.int .i64 0, .int .i64 0, .int .i64 0, .int .i64 0, .int .i64 0, .int .i64 0, .int .i64 0, .pointer none, .int .i64 0, .int .i64 0, .slice none 0 0, .slice none 0 0] [(1, 6, .agg (List.toArray [I n, .int .i64 0, .int .i64 0, .int .i64 0, I f, I t]))] = some (gkL 0 ⟨n, 0, 0, 0, f, t⟩ (.pointer none) 0 0 (.slice none 0 0) (.slice none 0 0)) := rfl
 simp only [SV, SS, seval, af69, fl, bx]
 rw [Aab h _ s.mq]
 exact ⟨g, s, x⟩
include G in
theorem Aj7 {h : Aac} {b : Nat} {at' key : Int} {B : Abr} {pk lv : Value} {Ls : List Abr} {u up : Option Nat} {Q : List Pr} (a : Adp h b 6 B pk at' key lv Ls u Q up) (hl : Q.length < 10000) :
  Aah P 114 [(pp b)] h fun v h' => (∃ u', Adx h' v 2 Q.length (Ady Q) u' /\ ∀ y, u' = some y -> h.nq <= y /\ y < h'.nq) /\ Aad h h' (fun _ => False) := by
 refine Aaa hT HG.gpairs rfl ?_
 obtain ⟨_, _, F, e0, e⟩ := Adq hT HG a
 rw [e, e0] at F
 have F' : Aa3 P 113 [(pp b)] h (.bool true) h := F
 obtain ⟨v2, h2, F2, q2, s2⟩ := Al9 hT G a.pr.row hl
 have r11 : h.rd b 11 = some (Aal up Q.length) := by rw [a.rc.rd]; rfl
 simp only [SV, SS, seval, af114]
 refine ⟨_, _, F', ?_⟩
 simp only [SV, SS, seval, r11]
 refine ⟨_, _, F2, ?_⟩
 simp only [SV, SS, seval]
 rw [Aab h _ s2.mq]
 exact ⟨q2, s2⟩
include HS HK V H V9 HM in
theorem Aw5 {a : Nat} {sz sh ch sm0 : Int} {ks : List Int} {cs : List Tr} {l : List Pr} (hf : (Tr.inner a sz sh ch sm0 ks cs).old /\ (Tr.inner a sz sh ch sm0 ks cs).content = l) (h120 : l.length <= 200) (hdp : Adg cs <= 280) {n0 : Nat} {S : Nat -> Prop} {h : Aac} {b bm : Nat} {u up um : Option Nat} {m : PM} {at' key : Int} {pk lv : Value} {f : Int} {t : Nat} (c : GkC n0 S h b bm u up um m) (ga : Adp h b 0 ⟨a, 0, 0, 0, f, t⟩ pk at' key lv [] u [] up) (ht : t <= 300) (hf0 : 0 <= f /\ f <= 300) (hok : (Tr.inner a sz sh ch sm0 ks cs).shut.ok m.C) (hc : m.c + (1 + 4 * (Aak cs).length : Nat) < 1000000000) :
  ∃ h' u' up' m' B' at2 key' pk' lv', Adm P 70 [(pp b), (pp bm)] S (1 + 4 * (Aak cs).length) h h' true /\ GkC n0 S h' b bm u' up' um m' /\ Adp h' b 6 B' pk' at2 key' lv' [] u' (pick l f t) up' /\ Tk m m' (1 + 4 * (Aak cs).length) := by
 obtain ⟨h', u', up', m', B', at2, key', run, c', g', tk'⟩ := At7 hT HS HK HG V H V9 HM (Q := []) (fun t _ => A51 hT HS HK HG V H V9 HM t) hf h120 c ga (fun l' e => by simp at e) (by simp; omega) ht (by simp; omega) (by simp; omega) hok hc
 obtain ⟨pk, lv, ⟨_, g⟩ | ⟨L0, l', rp, g1, _⟩⟩ := g'
 ·exact ⟨h', u', up', m', B', at2, key', pk, lv, run, c', by simpa using g, tk'⟩
 ·rw [Aye] at g1
  simp at g1
end
def stV (v : Value) (n : Nat) : Value := match v with
 | .slice base _ cap => .slice base n cap
 | v => v
theorem Acr.to' {h : Aac} {v : Value} {W : List Int} {u : Option Nat} (a : Acr h v W u) {n : Nat} (hn : n <= W.length) : slV h 1 v none (some (I n)) = some (stV v n) /\ Acr h (stV v n) (W.take n) u := by
 obtain ⟨v', e, s⟩ := a.to hn
 have e2 : slV h 1 v none (some (I n)) = some (stV v n) := by
  rcases a with ⟨rfl, rfl, rfl⟩ | ⟨x, rest, rfl, rfl, b, l, n1⟩
  ·have : n = 0 := by simpa using hn
   subst this; rfl
  ·have r : Abq h x 0 1 W.length (W.length + rest.length) (W.map I) := ⟨⟨_, b, rfl, by simp, by simp⟩, by omega, l⟩
   exact r.to (hi := n) (by omega) (by omega)
 rw [e] at e2
 cases e2
 exact ⟨e, s⟩
abbrev Aoc (bm : Nat) (um : Option Nat) (b : Nat) (uw : Option Nat) (j : Nat) : Prop := j = bm \/ um = some j \/ j = b \/ uw = some j
section
variable (hT : Aa0 P tab) (G : Amh tab)
include hT G
theorem Aut (H : Has tab) (Nu : Num P) {h : Aac} {b bm : Nat} {uw um : Option Nat} {K : Nat -> Prop} {l : List Pr} {Ls : List (List Pr)} {W C : List Int} {z c o r : Int} (f : Aoh h b uw K (l :: Ls) W false) (m : Aa2 h bm um C z c o r)
  (hb : b ≠ bm) (hub : um ≠ some b) (hkm : ¬ K bm) (hku : ∀ y, um = some y -> ¬ K y) (huw : ∀ y, uw = some y -> y ≠ bm /\ um ≠ some y) (h120 : l.length <= 120) (hk : Abg l <= W.length) (hWl : W.length < 100000) (hC : (C.length : Int) <= z) (hz : z <= 65536) (hc : 0 <= c /\ c < 1000000000) (hr : 0 <= r /\ r < 1000000000) :
  Aah P 117 [(pp b), (pp bm)] h fun v h' =>
   (((gstep (C, W) l).1.length : Int) <= z /\ v = .bool Ls.isEmpty /\ (∃ um' uw', Aa2 h' bm um' (gstep (C, W) l).1 z (c + 1) o r /\ Aoh h' b uw' K Ls (gstep (C, W) l).2 false /\ (∀ y, um' = some y -> um = some y \/ h.nq <= y) /\ (∀ y, uw' = some y -> (uw = some y \/ h.nq <= y) /\ um' ≠ some y)) \/
   z < ((gstep (C, W) l).1.length : Int) /\ v = .bool true /\ Aa2 h' bm um C z (c + 1) o (r + 1) /\ Aoh h' b uw K (l :: Ls) W true) /\ Aad h h' (Aoc bm um b uw) := by
 refine Aaa hT G.g16 rfl ?_
 obtain ⟨lv, wv, vs, e1, e2, e3, e4⟩ := f.ex
 obtain ⟨v1, h1, F1, rfl, rfl⟩ := Ahv hT G f
 have F1' : Aa3 P 136 [(pp b)] h1 (.bool false) h1 := F1
 cases vs with
 | nil => exact e3.elim
 | cons vl vs =>
 obtain ⟨⟨ul, rl, hul⟩, e3⟩ := e3
 obtain ⟨⟨xl, pl, hKx, hlv, rd0⟩, lv', sl1, e2'⟩ := e2.tail
 have r0 : h1.rd b 0 = some lv := Abb e1
 have fl := f.lt
 have fkw := f.kw
 have ml := m.lt
 have mu := fun y hy => (m.use y hy).2.2.1
 obtain ⟨v2, h2, F2, ⟨x2, cap2, rfl, r2, hx2⟩, s2⟩ := Aq6 hT G H Nu fl e1 e4 rl h120 hk (by omega)
 have x2n := s2.nq
 have hgl : (gstep (C, W) l).1.length = C.length + (Afb l (W.drop (W.length - Abg l))).length := by simp [gstep]
 generalize hR : Afb l (W.drop (W.length - Abg l)) = R at F2 r2 hgl
 have hR1 : 1 <= R.length := hR ▸ Aqp _ _
 have hgC : (gstep (C, W) l).1 = C ++ R := by rw [<- hR]; rfl
 have hgW : (gstep (C, W) l).2 = W.take (W.length - Abg l) ++ [((C.length : Int) + 1) * 8 + Adj l] := rfl
 have m2 := m.same s2 (fun x => x) (fun _ _ x => x)
 have c0 : ((0 : Int) < ((l :: Ls).length : Int)) = True := by simp
 have c0' : ((0 : Int) < ((Ls.length + 1 : Nat) : Int)) = True := by simp
 by_cases hroom : (C.length : Int) + R.length <= z
 ·obtain ⟨v3, h3, F3, rfl, ⟨um3, m3, hum3⟩, s3⟩ := Akh hT H m2 (x := x2) (p := 0) (cap := cap2) (ws := R) r2 (by omega) (fun e => by rw [e] at hR1; simp at hR1) hroom hz hc
  have x3n := s3.nq
  have ns3 : ∀ j, j < h1.nq -> j ≠ bm -> um ≠ some j -> ¬ (j = bm \/ um = some j) := fun j _ h1 h2 e => e.elim h1 h2
  have f3 : Aoh h3 b uw K (l :: Ls) W false := (f.same s2 (fun x => x) (fun _ _ x => x) (fun _ _ x => x)).same s3 (ns3 b fl hb hub) (fun y hy => ns3 y (fkw y hy).2.2 (huw y hy).1 (huw y hy).2) (fun j hj => ns3 j (f.klt j hj) (fun e => hkm (e ▸ hj)) (fun e => hku j e hj))
  have sA : Aad h1 h3 (Aoc bm um b uw) := (s2.mono (fun _ x => x.elim)).trans (s3.mono (fun j hj => hj.elim .inl (fun e => .inr (.inl e)))) (fun _ _ x => x)
  have b3 : h3.bqs.get b = some ⟨[lv, wv, .bool false], 3, 3, true, false⟩ := by
   rw [s3.get b (by omega) (ns3 b fl hb hub), s2.get b fl (fun x => x)]; exact e1
  have r30 : h3.rd b 0 = some lv := Abb b3
  have sl3 : slV h3 1 lv (some (I 1)) none = some lv' := by
   have hx : h3.bqs.get xl = h1.bqs.get xl := by
    rw [s3.get xl (Nat.lt_of_lt_of_le (f.klt xl hKx) x2n) (ns3 xl (f.klt xl hKx) (fun e => hkm (e ▸ hKx)) (fun e => hku xl e hKx)), s2.get xl (f.klt xl hKx) (fun x => x)]
   rw [hlv] at sl1 ⊢
   unfold slV at sl1 ⊢
   simp only [hx] at sl1 ⊢
   exact sl1
  have slsc : Aas lv' = true := by
   obtain ⟨base, e⟩ := e2'.len
   rw [e]; exact Ab4 _ _ _
  have w4 : h3.wrs b 0 [lv'] = some (h3.setB b ⟨[lv', wv, .bool false], 3, 3, true, false⟩) := Ab7 b3 rfl (by simp) slsc
  generalize hh4 : h3.setB b ⟨[lv', wv, .bool false], 3, 3, true, false⟩ = h4 at w4
  have s4 : Aad h3 h4 (fun j => j = b) := hh4 ▸ Aad.setB rfl
  have b4 : h4.bqs.get b = some ⟨[lv', wv, .bool false], 3, 3, true, false⟩ := hh4 ▸ (by rw [Aaz, if_pos rfl])
  have x4n := s4.nq
  have st4 : Acr h4 wv W uw := ((e4.same s2 (fun _ _ x => x)).same s3 (fun y hy => ns3 y (fkw y hy).2.2 (huw y hy).1 (huw y hy).2)).same s4 (fun y hy e => (fkw y hy).2.1 e)
  have hn : W.length - Abg l <= W.length := Nat.sub_le _ _
  obtain ⟨a5, st5⟩ := st4.to' hn
  have kind1 : Adj l >= 1 /\ Adj l <= 5 := by
   unfold Adj
   by_cases q : l.length = 0
   ·rw [if_pos q]; omega
   ·rw [if_neg q]
    by_cases q1 : l.length = 1
    ·rw [if_pos q1]; omega
    ·rw [if_neg q1]; omega
  obtain ⟨v6, h6, F6, rfl, rfl⟩ := Aed hT H (Adj l) ((C.length : Int) + 1) h4 kind1.1 kind1.2 (by omega) (by omega)
  have hcell : Abq (h6.new ⟨[I (((C.length : Int) + 1) * 8 + Adj l)], 1, 1, true, false⟩) h6.nq 0 1 1 1 [I (((C.length : Int) + 1) * 8 + Adj l)] := Abq.fresh h6 [I (((C.length : Int) + 1) * 8 + Adj l)] 1 1 true false rfl
  have s7 : Aad h6 (h6.new ⟨[I (((C.length : Int) + 1) * 8 + Adj l)], 1, 1, true, false⟩) (fun _ => False) := Aad.new
  have x7n : (h6.new ⟨[I (((C.length : Int) + 1) * 8 + Adj l)], 1, 1, true, false⟩).nq = h6.nq + 1 := rfl
  generalize hh7 : h6.new ⟨[I (((C.length : Int) + 1) * 8 + Adj l)], 1, 1, true, false⟩ = h7 at hcell s7 x7n
  obtain ⟨wv8, uw8, h8, a8, st8, s8, hu8⟩ := (st5.same s7 (fun _ _ x => x)).push hcell.src (by simp; omega)
  have x8n := s8.nq
  have b8 : h8.bqs.get b = some ⟨[lv', wv, .bool false], 3, 3, true, false⟩ := by
   rw [s8.get b (by omega) (fun e => (fkw b e).2.1 rfl), s7.get b (by omega) (fun x => x)]; exact b4
  have wsc : Aas wv8 = true := by
   obtain ⟨base, cap, e⟩ := st8.len
   rw [e]; exact Ab4 _ _ _
  have w9 : h8.wrs b 1 [wv8] = some (h8.setB b ⟨[lv', wv8, .bool false], 3, 3, true, false⟩) := Ab7 b8 rfl (by simp) wsc
  have s9 : Aad h8 (h8.setB b ⟨[lv', wv8, .bool false], 3, 3, true, false⟩) (fun j => j = b) := Aad.setB rfl
  have b9 : (h8.setB b ⟨[lv', wv8, .bool false], 3, 3, true, false⟩).bqs.get b = some ⟨[lv', wv8, .bool false], 3, 3, true, false⟩ := by rw [Aaz, if_pos rfl]
  generalize hh9 : h8.setB b ⟨[lv', wv8, .bool false], 3, 3, true, false⟩ = h9 at w9 s9 b9
  have x9n := s9.nq
  have sB : Aad h3 h9 (Aoc bm um b uw) := (((s4.mono (T := Aoc bm um b uw) (fun j hj => .inr (.inr (.inl hj)))).trans s7 (fun _ _ x => x.elim)).trans s8 (fun j hj e => .inr (.inr (.inr e)))).trans s9 (fun j hj e => .inr (.inr (.inl e)))
  have sF : Aad h1 h9 (Aoc bm um b uw) := sA.trans sB (fun _ _ x => x)
  have hu8' : ∀ y, uw8 = some y -> uw = some y \/ h3.nq <= y := fun y hy => (hu8 y hy).imp_right (fun e => by omega)
  have um3l : ∀ y, um3 = some y -> y < h3.nq := fun y hy => (m3.use y hy).2.2.1
  have kS : ∀ j, K j -> ¬ Aoc bm um b uw j := fun j hj e => by
   rcases e with e | e | e | e
   ·exact hkm (e ▸ hj)
   ·exact hku j e hj
   ·exact f.kb (e ▸ hj)
   ·exact (fkw j e).1 hj
  have n3 : ∀ y, um3 = some y -> y ≠ b /\ uw ≠ some y := fun y hy => by
   rcases hum3 y hy with e | e
   ·exact ⟨fun e2 => hub (by rw [e, e2]), fun e2 => (huw y e2).2 e⟩
   ·exact ⟨by omega, fun e2 => by have := (fkw y e2).2.2; omega⟩
  have n38 : ∀ y, uw8 = some y -> um3 ≠ some y := fun y hy e => by
   rcases hu8' y hy with e2 | e2
   ·exact (n3 y e).2 e2
   ·have := um3l y e; omega
  have m9 : Aa2 h9 bm um3 (C ++ R) z (c + 1) o r := ((((m3.same s4 (fun e => hb e.symm) (fun y hy => (n3 y hy).1)).same s7 (fun x => x) (fun _ _ x => x)).same s8 (fun e => (huw bm e).1 rfl) (fun y hy => (n3 y hy).2)).same s9 (fun e => hb e.symm) (fun y hy => (n3 y hy).1))
  have f9 : Aoh h9 b uw8 K Ls (gstep (C, W) l).2 false := by
   refine ⟨⟨lv', wv8, vs, b9, e2'.same sF kS, e3.same sF kS, ?_⟩, Nat.lt_of_lt_of_le fl sF.nq, f.kb, fun y hy => ?_, fun j hj => Nat.lt_of_lt_of_le (f.klt j hj) sF.nq⟩
   ·rw [hgW]
    refine st8.same s9 (fun y hy e => ?_)
    rcases hu8' y hy with e2 | e2
    ·exact (fkw y e2).2.1 e
    ·omega
   ·have hlt : y < h9.nq := by
     rcases st8 with ⟨e, _⟩ | ⟨x, _, e, _, _, q, _⟩
     ·rw [e] at hy; cases hy
     ·rw [e] at hy; cases hy; omega
    rcases hu8' y hy with e2 | e2
    ·exact ⟨(fkw y e2).1, (fkw y e2).2.1, hlt⟩
    ·exact ⟨fun e => by have := f.klt y e; omega, by omega, hlt⟩
  obtain ⟨v10, h10, F10, rfl, rfl⟩ := Ahv hT G f9
  have F10' : Aa3 P 136 [(pp b)] h10 (.bool Ls.isEmpty) h10 := F10
  obtain ⟨CF, hcf, g53⟩ : ∃ CF : Aa7, Ajg P CF /\ CF (.fn 13) [I (Adj l), I ((C.length : Int) + 1)] h6 = some (I (((C.length : Int) + 1) * 8 + Adj l), h6) := ⟨Ad9 13 _ h6 _ h6 Agy, Aba F6 Abo, Abd⟩
  have wl : Aan .i64 ((W.length : Int) - Abg l) = ((W.length - Abg l : Nat) : Int) := by rw [Aav] <;> omega
  obtain ⟨basew, capw, hwv⟩ := e4.len
  simp only [SS, seval, af117]
  refine ⟨_, _, F1', ?_⟩
  subst hlv
  simp only [SS, seval, r0, c0, c0', rd0]
  refine ⟨_, _, F2, ?_⟩
  simp only [SS, seval]
  refine ⟨_, _, F3, ?_⟩
  simp only [SS, seval, r30, sl3, slsc, w4]
  let J : Nat -> Aac -> Prop := fun i k => i <= 2 -> k.rd b 1 = some wv /\ slV k 1 wv none (some (I (W.length - Abg l : Nat))) = some (stV wv (W.length - Abg l))
  have rb6 : h6.rd b 1 = some wv := Abb b4
  have rb7 : h7.rd b 1 = some wv := Abb (by rw [s7.get b (by omega) (fun x => x)]; exact b4)
  have a7 := ((st4.same s7 (fun _ _ x => x)).to' hn).1
  have j0 : J 0 h6 := fun _ => ⟨rb6, a5⟩
  have j1 : J (0 + 1) h6 := fun _ => ⟨rb6, a5⟩
  have j2 : J (0 + 1 + 1) h7 := fun _ => ⟨rb7, a7⟩
  have j3 : J (0 + 1 + 1 + 1) h8 := fun h => by omega
  have j4 : J (0 + 1 + 1 + 1 + 1) h10 := fun h => by omega
  have jr : ∀ j k, 0 <= j -> j <= 2 -> J j k -> k.rd b 1 = some wv := fun j k _ hj q => (q hj).1
  have js : ∀ j k, 0 <= j -> j <= 2 -> J j k -> slV k 1 wv none (some (I (W.length - Abg l : Nat))) = some (stV wv (W.length - Abg l)) := fun j k _ hj q => (q hj).2
  have vw : veq wv wv = true := by rw [hwv]; exact Ag5 _ _ _
  have vs5 : veq (stV wv (W.length - Abg l)) (stV wv (W.length - Abg l)) = true := by rw [hwv]; exact Ag5 _ _ _
  clear_value J
  refine Adz J CF hcf j0 ?_
  subst hwv
  simp only [SS, seval, Aiv, w_p, w_r, w_e, Afl, Awg, Ain, Afr, Ad3, rb6, wl, a5, g53, hh7, a8, wsc, w9, vw, vs5]
  refine ⟨jr, jr, js, j1, j2, j3, j4, ?_⟩
  refine ⟨_, _, F10', ?_⟩
  simp only [SS, seval]
  rw [Aab h1 h10 sF.mq]
  refine ⟨.inl ⟨by rw [hgl]; simpa using hroom, um3, uw8, by rw [hgC]; exact m9, f9, fun y hy => (hum3 y hy).imp_right (fun e => by omega), fun y hy => ⟨(hu8' y hy).imp_right (fun e => by omega), n38 y hy⟩⟩, sF⟩
 ·obtain ⟨v3, h3, F3, rfl, m3, s3⟩ := A3m hT H m2 (base := some ⟨x2, 0, none⟩) (cap := cap2) (n := R.length) (.inr (by omega)) ⟨by omega, hz⟩ hC hc hr
  have x3n := s3.nq
  have f3 : Aoh h3 b uw K (l :: Ls) W false := (f.same s2 (fun x => x) (fun _ _ x => x) (fun _ _ x => x)).same s3 (fun e => hb e) (fun y hy => (huw y hy).1) (fun j hj e => hkm (e ▸ hj))
  have b3 : h3.bqs.get b = some ⟨[lv, wv, .bool false], 3, 3, true, false⟩ := by
   rw [s3.get b (by omega) (fun e => hb e), s2.get b fl (fun x => x)]; exact e1
  have w4 : h3.wrs b 2 [.bool true] = some (h3.setB b ⟨[lv, wv, .bool true], 3, 3, true, false⟩) := Ab7 b3 rfl (by simp) rfl
  have s4 : Aad h3 (h3.setB b ⟨[lv, wv, .bool true], 3, 3, true, false⟩) (fun j => j = b) := Aad.setB rfl
  have b4 : (h3.setB b ⟨[lv, wv, .bool true], 3, 3, true, false⟩).bqs.get b = some ⟨[lv, wv, .bool true], 3, 3, true, false⟩ := by rw [Aaz, if_pos rfl]
  generalize hh4 : h3.setB b ⟨[lv, wv, .bool true], 3, 3, true, false⟩ = h4 at w4 s4 b4
  have sF : Aad h1 h4 (Aoc bm um b uw) := ((s2.mono (T := Aoc bm um b uw) (fun _ x => x.elim)).trans s3 (fun j hj e => .inl e)).trans s4 (fun j hj e => .inr (.inr (.inl e)))
  have kS : ∀ j, K j -> ¬ Aoc bm um b uw j := fun j hj e => by
   rcases e with e | e | e | e
   ·exact hkm (e ▸ hj)
   ·exact hku j e hj
   ·exact f.kb (e ▸ hj)
   ·exact (fkw j e).1 hj
  simp only [SS, seval, af117]
  refine ⟨_, _, F1', ?_⟩
  have hlv' := hlv
  subst hlv
  simp only [SS, seval, r0, c0, c0', rd0]
  refine ⟨_, _, F2, ?_⟩
  simp only [SS, seval]
  refine ⟨_, _, F3, ?_⟩
  simp only [SS, seval, w4]
  rw [Aab h1 h4 sF.mq]
  refine ⟨.inr ⟨by rw [hgl]; omega, m3.same s4 (fun e => hb e.symm) (fun y hy e => hub (by rw [hy, e])), ⟨⟨_, wv, vl :: vs, b4, (e2.same sF kS), ⟨⟨ul, rl.same sF (fun y hy => kS y (hul y hy)), hul⟩, e3.same sF kS⟩, ((e4.same s2 (fun _ _ x => x)).same s3 (fun y hy => (huw y hy).1)).same s4 (fun y hy => (fkw y hy).2.1)⟩, Nat.lt_of_lt_of_le fl sF.nq, f.kb, fun y hy => ⟨(fkw y hy).1, (fkw y hy).2.1, Nat.lt_of_lt_of_le (fkw y hy).2.2 sF.nq⟩, fun j hj => Nat.lt_of_lt_of_le (f.klt j hj) sF.nq⟩⟩, sF⟩
end
structure Aid (tab : Nat -> Option Aae) : Prop where
 pnew : tab 115 = some af115
 pstep : tab 77 = some af77
 pcoll : tab 116 = some af116
 pgrown : tab 118 = some af118
theorem A61 : Aid tabT.get := ⟨by kernel_rfl, by kernel_rfl, by kernel_rfl, by kernel_rfl⟩
def pcL (nx root deg i : Int) (gp gw : Value) (least word : Int) (rf : Bool) : List Value := [I nx, I root, I deg, I i, gp, gw, I least, I word, .bool rf]
section
variable (hT : Aa0 P tab) (HP : Aid tab) (Nu : Num P) (HS : Afx tab) (HK : Ae4 tab) (HG : Aep tab) (G : Amh tab) (V : Aea tab) (H : Has tab) (V9 : Acg tab) (HM : Agf tab)
include hT HP
include Nu HG V H in
theorem An9 (h : Aac) {tg a n i : Nat} (a1 : 1 <= a) (a2 : a <= 65536) (n2 : 2 <= n) (n120 : n <= 120) (hi : i < Aar n) :
  Aah P 115 [I tg, I ((a : Int) * 8 + 3), I n, I i] h fun v h' => ∃ g : Nat, v = (pp (g + 1)) /\ h.nq <= g /\ Rcd h' (g + 1) (pcL 0 a (Aar n) i (pp g) (.pointer none) 0 0 false) /\ Adp h' g 0 ⟨tg, 0, 0, 0, Aa1 n i, Aa1 n i + Abs n i⟩ (.pointer none) 0 0 (.slice none 0 0) [] none [] none /\ Aad h h' (fun _ => False) := by
 refine Aaa hT HP.pnew rfl ?_
 have pn := Ac7 n2 n120
 have hnx := pn.nq i hi
 have htop := pn.top i hi
 have F1 := Nu.frm n i n2 n120 hi h
 obtain ⟨_, _, F2, rfl, e2⟩ := Ab0 hT V H h a 3 a1 a2 (by omega) (by omega)
 rw [e2] at F2
 have F2' : Aa3 P 26 [I ((a : Int) * 8 + 3)] h (I a) h := F2
 have F3 := Nu.deg n n120 h
 have F4 := Nu.siz n i n2 n120 hi h
 have w : Aan .i64 ((Aa1 n i : Int) + Abs n i) = ((Aa1 n i + Abs n i : Nat) : Int) := by rw [Aav] <;> omega
 obtain ⟨_, h1, F5, rfl, g1, s1, x1⟩ := Ank hT HG h tg (Aa1 n i + Abs n i) (Aa1 n i)
 have bx := Adn h1 (pcL 0 a (Aar n) i (pp h.nq) (.pointer none) 0 0 false) 9 rfl
 rw [x1] at bx
 have s2 : Aad h1 (h1.newR (pcL 0 a (Aar n) i (pp h.nq) (.pointer none) 0 0 false)) (fun _ => False) := Aad.newR
 have r2 := Rcd.new h1 (pcL 0 a (Aar n) i (pp h.nq) (.pointer none) 0 0 false)
 rw [x1] at r2
 have g2 := g1.same s2 (fun _ _ x => x)
 have sF := s1.trans s2 (fun _ _ x => x)
 generalize h1.newR (pcL 0 a (Aar n) i (pp h.nq) (.pointer none) 0 0 false) = h2 at bx s2 r2 g2 sF
 have fl : Aew [.int .i64 0, .int .i64 0, .int .i64 0, .int .i64 0, .pointer none, .pointer none, .int .i64 0, .int .i64 0, .bool false] [(1, 1, I a), (2, 1, I (Aar n)), (3, 1, I i), (4, 1, (pp h.nq))] = some (pcL 0 a (Aar n) i (pp h.nq) (.pointer none) 0 0 false) := rfl
 simp only [SV, SS, seval, af115]
 refine ⟨_, _, F1, ?_⟩
 simp only [SV, SS, seval]
 refine ⟨_, _, F2', ?_⟩
 simp only [SV, SS, seval]
 refine ⟨_, _, F3, ?_⟩
 simp only [SV, SS, seval]
 refine ⟨_, _, F4, ?_⟩
 simp only [SV, SS, seval, w]
 refine ⟨_, _, F5, ?_⟩
 simp only [SV, SS, seval, fl, bx]
 rw [Aab h _ sF.mq]
 exact ⟨h.nq, rfl, Nat.le_refl _, r2, g2, sF⟩
theorem Apy {h h' : Aac} {b g bm : Nat} {root deg i least word : Int} {gw : Value} {rf : Bool} {S : Nat -> Prop} (r : Rcd h b (pcL 0 root deg i (pp g) gw least word rf)) (F : Aa3 P 70 [(pp g), (pp bm)] h (.bool false) h') (s : Aad h h' S) (hb : ¬ S b) :
  Aa3 P 77 [(pp b), (pp bm)] h (.bool false) h' := by
 have key : Aah P 77 [(pp b), (pp bm)] h fun v k => v = .bool false /\ k = h' := by
  refine Aaa hT HP.pstep rfl ?_
  have r' := r.same s hb
  simp only [pcL] at r r'
  have q0 := r.rd
  have q1 := r'.rd
  simp only [SV, SS, seval, af77, q0]
  refine ⟨_, _, F, ?_⟩
  simp only [SV, SS, seval, q1]
  rw [Aab h _ s.mq]
 obtain ⟨_, _, F', rfl, rfl⟩ := key
 exact F'
theorem Avj {h h' : Aac} {b g bm : Nat} {root deg i least word : Int} {gp : Value} {rf : Bool} {S : Nat -> Prop} (r : Rcd h b (pcL 1 root deg i gp (pp g) least word rf)) (F : Aa3 P 117 [(pp g), (pp bm)] h (.bool false) h') (s : Aad h h' S) (hb : ¬ S b) :
  Aa3 P 77 [(pp b), (pp bm)] h (.bool false) h' := by
 have key : Aah P 77 [(pp b), (pp bm)] h fun v k => v = .bool false /\ k = h' := by
  refine Aaa hT HP.pstep rfl ?_
  have r' := r.same s hb
  simp only [pcL] at r r'
  have q0 := r.rd
  have q1 := r'.rd
  simp only [SV, SS, seval, af77, q0]
  refine ⟨_, _, F, ?_⟩
  simp only [SV, SS, seval, q1]
  rw [Aab h _ s.mq]
 obtain ⟨_, _, F', rfl, rfl⟩ := key
 exact F'
theorem Ar5 {h : Aac} {b g : Nat} {root deg least word w : Int} {i : Nat} {gp : Value} {rf : Bool} (r : Rcd h b (pcL 1 root deg i gp (pp g) least word rf)) (F : Aa3 P 138 [(pp g)] h (.tuple #[I w, .bool true]) h) :
  Aah P 118 [(pp b)] h fun v h' => h' = h.setR b (pcL (if 0 < i then 2 else 3) root deg i gp (pp g) least w false) := by
 refine Aaa hT HP.pgrown rfl ?_
 simp only [pcL] at r
 have q0 := r.rd
 have w0 := r.wr
 by_cases hi : 0 < i
 ·have c1 : ((i : Int) > 0) = True := by simp; omega
  simp only [SV, SS, seval, af118, q0]
  refine ⟨_, _, F, ?_⟩
  simp only [SV, SS, seval, w0, Abp, Adc, c1, if_pos hi]
  exact rfl
 ·have c1 : ((i : Int) > 0) = False := by simp; omega
  simp only [SV, SS, seval, af118, q0]
  refine ⟨_, _, F, ?_⟩
  simp only [SV, SS, seval, w0, Abp, Adc, c1, if_neg hi]
  exact rfl
end
theorem Am0 : ∀ (ls : List (List Pr)) (st : List Int × List Int), (Ac1 st ls).2.length <= st.2.length + ls.length
 | [], st => by simp [Ac1]
 | l :: ls, st => by
  have h2 := Am0 ls (gstep st l)
  have : (gstep st l).2.length <= st.2.length + 1 := by simp [gstep]
  show (Ac1 (gstep st l) ls).2.length <= st.2.length + (ls.length + 1)
  omega
structure A58 (h0 h : Aac) (b bm : Nat) (um0 : Option Nat) (K : Nat -> Prop) (all don rest : List (List Pr)) (C0 : List Int) (z c o r : Int) : Prop where
 split : all = don ++ rest
 ex : ∃ um uw, Aa2 h bm um (Ac1 (C0, []) don).1 z (c + don.length) o r /\ Aoh h b uw K rest (Ac1 (C0, []) don).2 false /\ um ≠ some b /\ (∀ y, um = some y -> ¬ K y) /\ (∀ y, uw = some y -> y ≠ bm /\ um ≠ some y) /\ (∀ y, um = some y -> um0 = some y \/ h0.nq <= y) /\ (∀ y, uw = some y -> h0.nq <= y)
 bb : b ≠ bm
 kbm : ¬ K bm
 ok : Akp (Ac1 (C0, []) don).2.length rest
 room : ((Ac1 (C0, []) don).1.length : Int) <= z
 same : Aad h0 h (fun j => j = bm \/ um0 = some j \/ j = b)
structure A83 (h0 h : Aac) (b bm : Nat) (um0 : Option Nat) (K : Nat -> Prop) (all : List (List Pr)) (C0 : List Int) (z o r : Int) : Prop where
 ex : ∃ um uw rest W C c, Aa2 h bm um C z c o (r + 1) /\ Aoh h b uw K rest W true /\ (C.length : Int) <= z /\ z < (Ac1 (C0, []) all).1.length
 same : Aad h0 h (fun j => j = bm \/ um0 = some j \/ j = b)
section
variable (hT : Aa0 P tab) (G : Amh tab)
include hT G
end
section
variable (hT : Aa0 P tab) (G : Amh tab)
include hT G
theorem Awb (H : Has tab) (Nu : Num P) {h0 h : Aac} {b bm : Nat} {um0 : Option Nat} {K : Nat -> Prop} {all don ls : List (List Pr)} {l : List Pr} {C0 : List Int} {z c o r : Int} (g : A58 h0 h b bm um0 K all don (l :: ls) C0 z c o r) (hall : all.length < 90000) (hz : z <= 65536) (hc : 0 <= c /\ c < 900000000) (hr : 0 <= r /\ r < 1000000000) :
  Aah P 117 [(pp b), (pp bm)] h fun v h' => ((v = .bool ls.isEmpty /\ A58 h0 h' b bm um0 K all (don ++ [l]) ls C0 z c o r) \/ (v = .bool true /\ A83 h0 h' b bm um0 K all C0 z o r)) /\ Aad h h' (fun j => (j = bm \/ um0 = some j \/ j = b) \/ h0.nq <= j) := by
 obtain ⟨um, uw, m, f, hub, hku, huw, hum0, huw0⟩ := g.ex
 obtain ⟨h120, hk, hok⟩ := g.ok
 have hlen : all.length = don.length + (ls.length + 1) := by rw [g.split]; simp
 have hwl := Am0 don (C0, [])
 simp only [List.length_nil, Nat.zero_add] at hwl
 obtain ⟨v, h', F, hq, s⟩ := Aut hT G H Nu f m g.bb hub g.kbm hku huw h120 hk (by omega) g.room hz ⟨by omega, by omega⟩ hr
 have hs : Aad h0 h' (fun j => j = bm \/ um0 = some j \/ j = b) := g.same.trans s (fun j hj e => by
  rcases e with e | e | e | e
  ·exact .inl e
  ·rcases hum0 j e with e2 | e2
   ·exact .inr (.inl e2)
   ·omega
  ·exact .inr (.inr e)
  ·have := huw0 j e; omega)
 have hgs : Ac1 (C0, []) (don ++ [l]) = gstep (Ac1 (C0, []) don) l := by rw [Ahf, Aqk]
 have nx := g.same.nq
 refine ⟨v, h', F, ?_, s.mono (fun j e => by
  rcases e with e | e | e | e
  ·exact .inl (.inl e)
  ·rcases hum0 j e with e2 | e2
   ·exact .inl (.inr (.inl e2))
   ·exact .inr e2
  ·exact .inl (.inr (.inr e))
  ·exact .inr (huw0 j e))⟩
 rcases hq with ⟨hroom, rfl, um', uw', m', f', hum', huw'⟩ | ⟨hno, rfl, m', f'⟩
 ·refine .inl ⟨rfl, ⟨by rw [g.split]; simp, ⟨um', uw', ?_, ?_, ?_, ?_, ?_, ?_, ?_⟩, g.bb, g.kbm, ?_, ?_, hs⟩⟩
  ·rw [hgs]
   have e : c + ((don ++ [l]).length : Int) = c + don.length + 1 := by simp; omega
   rw [e]; exact m'
  ·rw [hgs]; exact f'
  ·intro e
   rcases hum' b e with e2 | e2
   ·exact hub e2
   ·have := f.lt; omega
  ·intro y hy e
   rcases hum' y hy with e2 | e2
   ·exact hku y e2 e
   ·have := f.klt y e; omega
  ·intro y hy
   refine ⟨?_, (huw' y hy).2⟩
   rcases (huw' y hy).1 with e2 | e2
   ·exact (huw y e2).1
   ·have := m.lt; omega
  ·intro y hy
   rcases hum' y hy with e2 | e2
   ·exact hum0 y e2
   ·exact .inr (by omega)
  ·intro y hy
   rcases (huw' y hy).1 with e2 | e2
   ·exact huw0 y e2
   ·omega
  ·rw [hgs]
   have e : (gstep (Ac1 (C0, []) don) l).2.length = (Ac1 (C0, []) don).2.length - Abg l + 1 := by simp [gstep]
   rw [e]; exact hok
  ·rw [hgs]; exact hroom
 ·refine .inr ⟨rfl, ⟨⟨um, uw, l :: ls, _, _, _, m', f', g.room, ?_⟩, hs⟩⟩
  have e : Ac1 (C0, []) all = Ac1 (gstep (Ac1 (C0, []) don) l) ls := by
   rw [g.split, Ahf]; rfl
  rw [e]
  have := Am3 ls (gstep (Ac1 (C0, []) don) l)
  have h2 : z < ((gstep (Ac1 (C0, []) don) l).1.length : Int) := hno
  omega
theorem A11 (H : Has tab) (Nu : Num P) {h0 : Aac} {b bm : Nat} {um0 : Option Nat} {K : Nat -> Prop} {all : List (List Pr)} {C0 : List Int} {z c o r : Int} (hall : all.length < 90000) (hz : z <= 65536) (hc : 0 <= c /\ c < 900000000) (hr : 0 <= r /\ r < 1000000000) (room : ((Ac1 (C0, []) all).1.length : Int) <= z) :
  ∀ (rest don : List (List Pr)) (h : Aac), rest ≠ [] -> A58 h0 h b bm um0 K all don rest C0 z c o r -> ∃ h', Adm P 117 [(pp b), (pp bm)] (fun j => (j = bm \/ um0 = some j \/ j = b) \/ h0.nq <= j) rest.length h h' true /\ A58 h0 h' b bm um0 K all all [] C0 z c o r := by
 intro rest
 induction rest with
 | nil => intro don h hne; exact absurd rfl hne
 | cons l ls ih =>
  intro don h _ g
  obtain ⟨v, h1, F, hq, s⟩ := Awb hT G H Nu g hall hz hc hr
  rcases hq with ⟨rfl, g1⟩ | ⟨_, f1⟩
  ·cases ls with
   | nil =>
    have e : don ++ [l] = all := by rw [g1.split]; simp
    rw [e] at g1
    exact ⟨h1, (Adm.one F s).le (by simp), g1⟩
   | cons l1 ls =>
    obtain ⟨h2, run, g2⟩ := ih (don ++ [l]) h1 (by simp) g1
    exact ⟨h2, ((Ab3.one F s).to run).le (by simp; omega), g2⟩
  ·obtain ⟨_, _, _, _, _, _, _, _, _, hlt⟩ := f1.ex
   omega
end
theorem Adx.pr {h : Aac} {v : Value} {l : List Pr} {u : Option Nat} (a : Adx h v 2 l.length (Ady l) u) : Asp h v l u := by
 rcases a with ⟨e, _, hv⟩ | ⟨x, p, cap, e1, e2, e3⟩
 ·refine .inl ⟨List.eq_nil_of_length_eq_zero e, ?_⟩
  rcases hv with rfl | ⟨b, o, k, rfl⟩
  ·exact ⟨none, 0, rfl⟩
  ·exact ⟨_, 0, rfl⟩
 ·by_cases h1 : 1 <= l.length
  ·exact .inr ⟨x, p, cap, e1, e2, h1, e3⟩
  ·have e0 : l.length = 0 := by omega
   refine .inl ⟨List.eq_nil_of_length_eq_zero e0, some ⟨x, p, none⟩, cap, ?_⟩
   rw [e2, e0]
def Aca (l : List Pr) (x : Int) : Int := match l with
 | [] => x
 | p :: _ => p.1
section
variable (hT : Aa0 P tab) (HP : Aid tab) (Nu : Num P) (HS : Afx tab) (HK : Ae4 tab) (HG : Aep tab) (G : Amh tab) (V : Aea tab) (H : Has tab) (V9 : Acg tab) (HM : Agf tab)
include hT HP Nu HG G H
theorem Ak9 {h : Aac} {b g : Nat} {root deg i least word at' key : Int} {gw pk lv : Value} {rf : Bool} {B : Abr} {Ls : List Abr} {u up : Option Nat} {Q : List Pr} (r : Rcd h b (pcL 0 root deg i (pp g) gw least word rf)) (ga : Adp h g 6 B pk at' key lv Ls u Q up) (hQ : Q.length <= 120) (asc : Asc Q) :
  Aah P 116 [(pp b)] h fun v h' => ∃ bw K, Rcd h' b (pcL 1 root deg i (pp g) (pp bw) (Aca Q least) word rf) /\ Aoh h' bw none K (Adr (Q.length + 1) Q) [] false /\ h.nq <= bw /\ (∀ j, K j -> h.nq <= j) /\ Aad h h' (· = b) := by
 refine Aaa hT HP.pcoll rfl ?_
 have hbl := r.lt
 obtain ⟨v1, h1, F1, ⟨u1, row1, n1⟩, s1⟩ := Aj7 hT HG G ga (by omega)
 have x1 := s1.nq
 have r1 := r.same s1 (fun x => x)
 have hlenv : ∃ base cap, v1 = .slice base Q.length cap := by
  rcases row1 with ⟨e, _, rfl | ⟨b, o, k, rfl⟩⟩ | ⟨x, p, cap, _, rfl, _⟩
  ·exact ⟨none, 0, by rw [e]⟩
  ·exact ⟨_, 0, by rw [e]⟩
  ·exact ⟨_, cap, rfl⟩
 have hord : (Adr (Q.length + 1) Q).length < 90000 := by
  rcases Ar4 (Q.length + 1) Q (by omega) hQ with e | ⟨_, e⟩ <;> omega
 have core : ∀ h2, Aad h1 h2 (· = b) -> Rcd h2 b (pcL 0 root deg i (pp g) gw (Aca Q least) word rf) -> ∃ bw K h3, Aa3 P 135 [v1] h2 (pp bw) h3 /\ h.nq <= bw /\ (∀ j, K j -> h.nq <= j) /\ Rcd h3 b (pcL 0 root deg i (pp g) gw (Aca Q least) word rf) /\ Aad h (h3.setR b (pcL 1 root deg i (pp g) (pp bw) (Aca Q least) word rf)) (· = b) /\ Aoh (h3.setR b (pcL 1 root deg i (pp g) (pp bw) (Aca Q least) word rf)) bw none K (Adr (Q.length + 1) Q) [] false /\ Aa3 P 136 [(pp bw)] (h3.setR b (pcL 1 root deg i (pp g) (pp bw) (Aca Q least) word rf)) (.bool false) (h3.setR b (pcL 1 root deg i (pp g) (pp bw) (Aca Q least) word rf)) := by
  intro h2 s2 r2
  have x2 := s2.nq
  have row2 := row1.same s2 (fun y hy e => by have := (n1 y hy).1; omega)
  obtain ⟨_, h3, F3, ⟨bw, K, rfl, hbw, hK, hfr⟩, s3⟩ := Aza hT G H Nu row2 row2.pr hQ hord
  rcases hfr with ⟨_, f3⟩ | ⟨hn, _⟩
  ·have s4 : Aad h3 (h3.setR b (pcL 1 root deg i (pp g) (pp bw) (Aca Q least) word rf)) (· = b) := Aad.setR rfl
   have f4 := f3.same s4 (by omega) (fun y hy => by cases hy) (fun j hj e => by have := hK j hj; omega)
   obtain ⟨_, _, F5, e50, e5⟩ := Ahv hT G f4
   rw [e5, e50] at F5
   have eo : (false || (Adr (Q.length + 1) Q).isEmpty) = false := by
    have := Aob Q.length Q
    cases hh : Adr (Q.length + 1) Q with
    | nil => exact (this hh).elim
    | cons _ _ => rfl
   rw [eo] at F5
   exact ⟨bw, K, h3, F3, by omega, fun j hj => by have := hK j hj; omega, r2.same s3 (fun x => x), (((s1.mono (T := (· = b)) (fun _ e => e.elim)).trans s2 (fun _ _ x => x)).trans s3 (fun _ _ x => x.elim)).trans s4 (fun _ _ x => x), f4, F5⟩
  ·exact (hn asc).elim
 obtain ⟨base, cap, rfl⟩ := hlenv
 have q1 := r1.rd
 have q0 := r.rd
 simp only [pcL] at q0 q1
 rcases Q with _ | ⟨p, Q⟩
 ·obtain ⟨bw, K, h3, F3, hbw, hK, r3, sF, f4, F5⟩ := core h1 (Aad.refl _ _) r1
  have w3 := r3.wr
  simp only [pcL] at w3
  have c0 : ((([] : List Pr).length : Int) > 0) = False := by simp
  simp only [Aca, pcL] at F5 w3 sF
  simp only [SV, SS, seval, af116, q0]
  refine ⟨_, _, F1, ?_⟩
  simp only [SV, SS, seval, c0]
  refine ⟨_, _, F3, ?_⟩
  simp only [SV, SS, seval, w3, Abp, Adc]
  refine ⟨_, _, F5, ?_⟩
  simp only [SV, SS, seval]
  rw [Aab h _ sF.mq]
  exact ⟨bw, K, Rcd.set _ r3.lt, f4, hbw, hK, sF⟩
 ·have w1 := r1.wr 6 (I p.1) (by simp [pcL]) (Aat _ _)
  have w1 : h1.wrs b 6 [I p.1] = some (h1.setR b (pcL 0 root deg i (pp g) gw (Aca (p :: Q) least) word rf)) := w1
  obtain ⟨bw, K, h3, F3, hbw, hK, r3, sF, f4, F5⟩ := core _ (Aad.setR rfl) (Rcd.set _ r1.lt)
  have w3 := r3.wr
  simp only [pcL] at w3
  have c0 : (((Q.length + 1 : Nat) : Int) > 0) = True := by simp <;> omega
  have c1 : ((0 : Int) < ((Q.length + 1 : Nat) : Int)) = True := by simp <;> omega
  rcases row1 with ⟨e, _⟩ | ⟨x, po, cap', e1, e2, ra⟩
  ·simp at e
  cases e2
  have pk : h1.rd x po = some (I p.1) := by
   have := ra.rd (i := 0) (by simp)
   rw [Nat.add_zero] at this
   rw [this]; rfl
  simp only [pcL] at F5 w3 sF F3 w1
  simp only [SV, SS, seval, af116, q0]
  refine ⟨_, _, F1, ?_⟩
  simp only [SV, SS, seval, c0, c1, pk, w1]
  refine ⟨_, _, F3, ?_⟩
  simp only [SV, SS, seval, w3, Abp, Adc]
  refine ⟨_, _, F5, ?_⟩
  simp only [SV, SS, seval]
  rw [Aab h _ sF.mq]
  exact ⟨bw, K, Rcd.set _ r3.lt, f4, hbw, hK, sF⟩
end
section
variable (hT : Aa0 P tab) (HP : Aid tab) (Nu : Num P) (HS : Afx tab) (HK : Ae4 tab) (HG : Aep tab) (G : Amh tab) (V : Aea tab) (H : Has tab) (V9 : Acg tab) (HM : Agf tab)
include hT HP
include Nu HG G H in
theorem Asf {h h1 : Aac} {b g bm : Nat} {root deg i least word at' key : Int} {gw pk lv : Value} {rf : Bool} {B : Abr} {Ls : List Abr} {u up : Option Nat} {Q : List Pr} {S : Nat -> Prop} (r : Rcd h b (pcL 0 root deg i (pp g) gw least word rf)) (F : Aa3 P 70 [(pp g), (pp bm)] h (.bool true) h1) (s : Aad h h1 S) (hb : ¬ S b) (ga : Adp h1 g 6 B pk at' key lv Ls u Q up) (hQ : Q.length <= 120) (asc : Asc Q) :
  Aah P 77 [(pp b), (pp bm)] h fun v h' => v = .bool false /\ ∃ bw K, Rcd h' b (pcL 1 root deg i (pp g) (pp bw) (Aca Q least) word rf) /\ Aoh h' bw none K (Adr (Q.length + 1) Q) [] false /\ h1.nq <= bw /\ (∀ j, K j -> h1.nq <= j) /\ Aad h1 h' (· = b) := by
 refine Aaa hT HP.pstep rfl ?_
 have r1 := r.same s hb
 obtain ⟨_, h2, F2, bw, K, r2, f2, hbw, hK, s2⟩ := Ak9 hT HP Nu HG G H r1 ga hQ asc
 have q0 := r.rd
 have q2 := r2.rd
 simp only [pcL] at q0 q2
 have sm : h2.mq = h.mq := by rw [s2.mq, s.mq]
 simp only [SV, SS, seval, af77, q0]
 refine ⟨_, _, F, ?_⟩
 simp only [SV, SS, seval]
 refine ⟨_, _, F2, ?_⟩
 simp only [SV, SS, seval, q2]
 rw [Aab h _ sm]
 exact ⟨bw, K, r2, f2, hbw, hK, s2⟩
include G in
theorem Asd {h h1 : Aac} {b g bm : Nat} {root deg least word : Int} {i : Nat} {gp : Value} {rf : Bool} {uw : Option Nat} {K : Nat -> Prop} {W : List Int} {S : Nat -> Prop} (r : Rcd h b (pcL 1 root deg i gp (pp g) least word rf)) (F : Aa3 P 117 [(pp g), (pp bm)] h (.bool true) h1) (s : Aad h h1 S) (hb : ¬ S b) (fr : Aoh h1 g uw K [] W false) (hW : W ≠ []) :
  Aah P 77 [(pp b), (pp bm)] h fun v h' => v = .bool false /\ h' = h1.setR b (pcL (if 0 < i then 2 else 3) root deg i gp (pp g) least (W.headD 0) false) := by
 refine Aaa hT HP.pstep rfl ?_
 have r1 := r.same s hb
 obtain ⟨_, _, F2, e20, e2⟩ := Av2 hT G fr (fun _ _ => hW)
 rw [e2, e20] at F2
 have F2' : Aa3 P 138 [(pp g)] h1 (.tuple #[I (W.headD 0), .bool true]) h1 := F2
 obtain ⟨_, h2, F3, e3⟩ := Ar5 hT HP r1 F2'
 rw [e3] at F3
 have q0 := r.rd
 simp only [pcL] at q0
 have s2 : Aad h1 (h1.setR b (pcL (if 0 < i then 2 else 3) root deg i gp (pp g) least (W.headD 0) false)) (· = b) := Aad.setR rfl
 have sm : (h1.setR b (pcL (if 0 < i then 2 else 3) root deg i gp (pp g) least (W.headD 0) false)).mq = h.mq := by rw [s2.mq, s.mq]
 have q2 : (h1.setR b (pcL (if 0 < i then 2 else 3) root deg i gp (pp g) least (W.headD 0) false)).rd b 0 = some (I (if 0 < i then 2 else 3)) := by rw [Adc]; rfl
 have k4 : ((if 0 < i then 2 else 3 : Int) == 4) = false := by split <;> rfl
 simp only [SV, SS, seval, af77, q0]
 refine ⟨_, _, F, ?_⟩
 simp only [SV, SS, seval]
 refine ⟨_, _, F3, ?_⟩
 simp only [SV, SS, seval, q2, k4]
 rw [Aab h _ sm]
include V H V9 in
theorem Aq8 {h : Aac} {b bm : Nat} {deg least word : Int} {root i : Nat} {gp gw : Value} {rf : Bool} {um : Option Nat} {m : PM} (r : Rcd h b (pcL 2 root deg i gp gw least word rf)) (mm : Aa8 h bm um m) (fi : m.fine) (hb : ¬ cl bm um b) (hr : root <= 65536) (hi : i <= 100) :
  Aah P 77 [(pp b), (pp bm)] h fun v h' => v = .bool false /\ Rcd h' b (pcL 3 root deg i gp gw least word rf) /\ Aa8 h' bm um (m.write ((root + 4 + i : Nat) : Int) least) /\ Aad h h' (fun j => j = b \/ cl bm um j) := by
 refine Aaa hT HP.pstep rfl ?_
 obtain ⟨_, h1, F1, rfl, s1⟩ := Ahq hT V h root i (by omega) (by omega)
 have r1 := r.same s1 (fun x => x)
 have m1 := mm.same s1 (fun _ _ x => x)
 obtain ⟨v2, h2, F2, m2, s2⟩ := Agu hT V9 m1 fi ((root + 4 + i : Nat) : Int) least (by omega)
 have r2 := r1.same s2 hb
 have r3 : Rcd (h2.setR b (pcL 3 root deg i gp gw least word rf)) b (pcL 3 root deg i gp gw least word rf) := Rcd.set _ r2.lt
 have m3 := m2.same (Aad.setR (L := pcL 3 root deg i gp gw least word rf) (S := (· = b)) rfl) (fun j hj e => hb (e ▸ hj))
 have sF : Aad h (h2.setR b (pcL 3 root deg i gp gw least word rf)) (fun j => j = b \/ cl bm um j) := ((s1.mono (T := fun j => j = b \/ cl bm um j) (fun _ e => e.elim)).trans s2 (fun j _ e => .inr e)).trans (Aad.setR (S := (· = b)) rfl) (fun j _ e => .inl e)
 obtain ⟨CF, hcf, g1, g2⟩ := Amo F1 F2 (by decide)
 have q0 := r.rd
 have qa : h.rd b 0 = some (I 2) := by rw [q0]; rfl
 have qb : h.rd b 1 = some (I root) := by rw [q0]; rfl
 have qc : h.rd b 3 = some (I i) := by rw [q0]; rfl
 have qd : h.rd b 6 = some (I least) := by rw [q0]; rfl
 have qd1 : h1.rd b 6 = some (I least) := by rw [r1.rd]; rfl
 have w2 : h2.wrs b 0 [I 3] = some (h2.setR b (pcL 3 root deg i gp gw least word rf)) := r2.wr 0 (I 3) (by simp [pcL]) (Aat _ _)
 have q3 : (h2.setR b (pcL 3 root deg i gp gw least word rf)).rd b 0 = some (I 3) := by rw [Adc]; rfl
 let J : Nat -> Aac -> Prop := fun j k => (j <= 0 -> k.rd b 1 = some (I root) /\ k.rd b 3 = some (I i)) /\ (j <= 1 -> k.rd b 6 = some (I least))
 have j0 : J 0 h := ⟨fun _ => ⟨qb, qc⟩, fun _ => qd⟩
 have j1 : J 1 h1 := ⟨fun h => by omega, fun _ => qd1⟩
 have j2 : J 2 h2 := ⟨fun h => by omega, fun h => by omega⟩
 have jb : ∀ j k, 0 <= j -> j <= 0 -> J j k -> k.rd b 1 = some (I root) := fun j k _ hj q => (q.1 hj).1
 have jc : ∀ j k, 0 <= j -> j <= 0 -> J j k -> k.rd b 3 = some (I i) := fun j k _ hj q => (q.1 hj).2
 have jd : ∀ j k, 0 <= j -> j <= 1 -> J j k -> k.rd b 6 = some (I least) := fun j k _ hj q => q.2 hj
 clear_value J
 simp only [SV, SS, seval, af77, qa]
 refine Adz J CF hcf j0 ?_
 simp only [SV, SS, seval, Aiv, w_p, w_r, w_e, Afl, Awg, Ain, Afr, Ad3, qb, qc, qd, qd1, g1, g2, Ac4, w2, q3]
 refine ⟨jb, jc, j1, jd, j2, ?_⟩
 rw [Aab h _ sF.mq]
 exact ⟨r3, m3, sF⟩
include V H V9 HM in
theorem Akl {h : Aac} {b bm : Nat} {least word : Int} {root deg i : Nat} {gp gw : Value} {rf : Bool} {um : Option Nat} {m : PM} (r : Rcd h b (pcL 3 root deg i gp gw least word rf)) (mm : Aa8 h bm um m) (fi : m.fine) (hb : ¬ cl bm um b) (hr : root <= 65536) (hd : deg <= 100) (hi : i <= 100) :
  Aah P 77 [(pp b), (pp bm)] h fun v h' => v = .bool true /\ Rcd h' b (pcL 4 root deg i gp gw least word rf) /\ Aa8 h' bm um (m.cas ((root + 4 + deg + i : Nat) : Int) 0 word).2 /\ Aad h h' (fun j => j = b \/ cl bm um j) := by
 refine Aaa hT HP.pstep rfl ?_
 obtain ⟨_, h1, F1, rfl, s1⟩ := Ada hT V h root deg i (by omega) (by omega) (by omega)
 have r1 := r.same s1 (fun x => x)
 have m1 := mm.same s1 (fun _ _ x => x)
 obtain ⟨v2, h2, F2, rfl, m2, s2⟩ := Ag3 hT V9 HM m1 fi ((root + 4 + deg + i : Nat) : Int) 0 word (by omega)
 have r2 := r1.same s2 hb
 have r3 : Rcd (h2.setR b (pcL 4 root deg i gp gw least word rf)) b (pcL 4 root deg i gp gw least word rf) := Rcd.set _ r2.lt
 have m3 := m2.same (Aad.setR (L := pcL 4 root deg i gp gw least word rf) (S := (· = b)) rfl) (fun j hj e => hb (e ▸ hj))
 have sF : Aad h (h2.setR b (pcL 4 root deg i gp gw least word rf)) (fun j => j = b \/ cl bm um j) := ((s1.mono (T := fun j => j = b \/ cl bm um j) (fun _ e => e.elim)).trans s2 (fun j _ e => .inr e)).trans (Aad.setR (S := (· = b)) rfl) (fun j _ e => .inl e)
 obtain ⟨CF, hcf, g1, g2⟩ := Amo F1 F2 (by decide)
 have q0 := r.rd
 have qa : h.rd b 0 = some (I 3) := by rw [q0]; rfl
 have qb : h.rd b 1 = some (I root) := by rw [q0]; rfl
 have qe : h.rd b 2 = some (I deg) := by rw [q0]; rfl
 have qc : h.rd b 3 = some (I i) := by rw [q0]; rfl
 have qd : h.rd b 7 = some (I word) := by rw [q0]; rfl
 have qd1 : h1.rd b 7 = some (I word) := by rw [r1.rd]; rfl
 have w2 : h2.wrs b 0 [I 4] = some (h2.setR b (pcL 4 root deg i gp gw least word rf)) := r2.wr 0 (I 4) (by simp [pcL]) (Aat _ _)
 have q3 : (h2.setR b (pcL 4 root deg i gp gw least word rf)).rd b 0 = some (I 4) := by rw [Adc]; rfl
 let J : Nat -> Aac -> Prop := fun j k => (j <= 0 -> k.rd b 1 = some (I root) /\ k.rd b 2 = some (I deg) /\ k.rd b 3 = some (I i)) /\ (j <= 1 -> k.rd b 7 = some (I word))
 have j0 : J 0 h := ⟨fun _ => ⟨qb, qe, qc⟩, fun _ => qd⟩
 have j1 : J 1 h1 := ⟨fun h => by omega, fun _ => qd1⟩
 have j2 : J 2 h2 := ⟨fun h => by omega, fun h => by omega⟩
 have jb : ∀ j k, 0 <= j -> j <= 0 -> J j k -> k.rd b 1 = some (I root) := fun j k _ hj q => (q.1 hj).1
 have je : ∀ j k, 0 <= j -> j <= 0 -> J j k -> k.rd b 2 = some (I deg) := fun j k _ hj q => (q.1 hj).2.1
 have jc : ∀ j k, 0 <= j -> j <= 0 -> J j k -> k.rd b 3 = some (I i) := fun j k _ hj q => (q.1 hj).2.2
 have jd : ∀ j k, 0 <= j -> j <= 1 -> J j k -> k.rd b 7 = some (I word) := fun j k _ hj q => q.2 hj
 clear_value J
 simp only [SV, SS, seval, af77, qa]
 refine Adz J CF hcf j0 ?_
 simp only [SV, SS, seval, Aiv, w_p, w_r, w_e, Afl, Awg, Ain, Afr, Ad3, qb, qe, qc, qd, qd1, g1, g2, Ac4, w2, q3]
 refine ⟨jb, je, jc, j1, jd, j2, ?_⟩
 rw [Aab h _ sF.mq]
 exact ⟨r3, m3, sF⟩
end
theorem Adm.mono {P : Program} {f : Nat} {args : List Value} {S T : Nat -> Prop} {N : Nat} {h h' : Aac} {d : Bool} (r : Adm P f args S N h h' d) (hT : ∀ j, S j -> T j) : Adm P f args T N h h' d := by
 obtain ⟨h1, k, hk, c, F, s⟩ := r
 exact ⟨h1, k, hk, c.mono hT, F, s.mono hT⟩
theorem Adm.same {P : Program} {f : Nat} {args : List Value} {S : Nat -> Prop} {N : Nat} {h h' : Aac} {d : Bool} (r : Adm P f args S N h h' d) : Aad h h' S := by
 obtain ⟨h1, k, _, c, F, s⟩ := r
 exact c.same.trans s (fun _ _ x => x)
def PM.laid (m : PM) (L : List Int) (c : Int) : PM := { m with C := m.C ++ L, c := c }
section
variable (hT : Aa0 P tab) (HP : Aid tab) (Nu : Num P) (HS : Afx tab) (HK : Ae4 tab) (HG : Aep tab) (G : Amh tab) (V : Aea tab) (H : Has tab) (V9 : Acg tab) (HM : Agf tab)
include hT HP Nu HS HK HG G V H V9 HM
theorem Azv {a : Nat} {sz sh ch sm0 : Int} {ks : List Int} {cs : List Tr} {l : List Pr} (hf : (Tr.inner a sz sh ch sm0 ks cs).old /\ (Tr.inner a sz sh ch sm0 ks cs).content = l) (h2 : 2 <= l.length) (h120 : l.length <= 120) (hdp : Adg cs <= 280) {h : Aac} {b g bm root i : Nat} {um : Option Nat} {m : PM}
  (r : Rcd h b (pcL 0 root (Aar l.length) i (pp g) (.pointer none) 0 0 false)) (ga : Adp h g 0 ⟨a, 0, 0, 0, Aa1 l.length i, Aa1 l.length i + Abs l.length i⟩ (.pointer none) 0 0 (.slice none 0 0) [] none [] none) (hbg : b ≠ g) (mm : Aa8 h bm um m) (fi : m.fine) (hb : ¬ cl bm um b) (hg : ¬ cl bm um g) (hi : i < Aar l.length) (hr : root <= 65536 /\ root + (2 * Aar l.length + 4) <= m.C.length + 1) (asc : Asc (Aaq l i))
  (hok : (Tr.inner a sz sh ch sm0 ks cs).shut.ok m.C) (hc : m.c + (4 * (Aak cs).length : Nat) < 800000000) (room : (m.C.length : Int) + (Abc ((Aaq l i).length + 1) (Aaq l i) m.C.length).2.length <= m.z) :
  ∃ h' um' c3, Adm P 77 [(pp b), (pp bm)] (fun j => j = b \/ j = g \/ cl bm um j \/ h.nq <= j) (4 * (Aak cs).length + 310) h h' true /\ (∃ gw, Rcd h' b (pcL 4 root (Aar l.length) i (pp g) gw (Aca (Aaq l i) 0) (Abc ((Aaq l i).length + 1) (Aaq l i) m.C.length).1 false)) /\
   Aa8 h' bm um' (((if 0 < i then (m.laid (Abc ((Aaq l i).length + 1) (Aaq l i) m.C.length).2 c3).write ((root + 4 + i : Nat) : Int) (Aca (Aaq l i) 0) else m.laid (Abc ((Aaq l i).length + 1) (Aaq l i) m.C.length).2 c3)).cas ((root + 4 + Aar l.length + i : Nat) : Int) 0 (Abc ((Aaq l i).length + 1) (Aaq l i) m.C.length).1).2 /\ (∀ y, um' = some y -> um = some y \/ h.nq <= y) /\ m.c <= c3 /\ c3 <= m.c + (4 * (Aak cs).length + 300 : Nat) := by
 have hfit := hf
 have pn := Ac7 h2 h120
 have d11 := pn.deg11
 have hnx := pn.nq i hi
 have htop := pn.top i hi
 have hpl := Abu h2 h120 hi
 have hml := mm.lt
 have hbl := r.lt
 have hgl := ga.lt g (.inl rfl)
 have hsz : Abs l.length i <= 120 := by omega
 have cgg : ∀ j, cg g none none j -> j = g := fun j hj => by
  rcases hj with e | e | e
  ·exact e
  ·cases e
  ·cases e
 have c0 : GkC h.nq (fun j => j = g \/ cl bm um j \/ h.nq <= j) h g bm none none um m := ⟨mm, fi, fun j hj => .inl (cgg j hj), fun j hj => .inr (.inl hj), fun j hj => .inr (.inr hj), fun j hj => hml j hj, fun j hj e => hg ((cgg j hj) ▸ e), Nat.le_refl _⟩
 obtain ⟨h1, u1, up1, m1, B1, at1, key1, pk1, lv1, ⟨hL, k1, hk1, ch1, F1, s1⟩, c1, g1, tk1⟩ := Aw5 hT HS HK HG V H V9 HM hfit (by omega) hdp c0 ga (by omega) (by omega) hok (by omega)
 have hpick : pick l (Aa1 l.length i : Int) ((Aa1 l.length i + Abs l.length i : Nat) : Int) = Aaq l i := by
  unfold pick Aaq
  rw [Int.toNat_natCast, Int.toNat_natCast, List.drop_take, Nat.add_sub_cancel_left]
 rw [hpick] at g1
 have hS1 : ¬ (b = g \/ cl bm um b \/ h.nq <= b) := fun e => by
  rcases e with e | e | e
  ·exact hbg e
  ·exact hb e
  ·omega
 obtain ⟨ch1', rL⟩ := Ab3.lift (fun k => Rcd k b (pcL 0 root (Aar l.length) i (pp g) (.pointer none) 0 0 false)) ch1 r (fun k k' q s => q.same s hS1) (fun k k' q F s => Apy hT HP q F s hS1)
 have hc1 := tk1.c1
 have hc0 := tk1.c0
 obtain ⟨_, h2', F2, rfl, bw, K, r2, f2, hbw, hK, s2⟩ := Asf hT HP Nu HG G H rL F1 s1 hS1 g1 (by omega) asc
 have x1 := (ch1.same.trans s1 (fun _ _ x => x)).nq
 have x2 := s2.nq
 have m2 := c1.mm.same s2 (fun j hj e => hb (e ▸ hj))
 have hL1 : Aad hL h2' (fun j => j = b \/ j = g \/ cl bm um j \/ h.nq <= j) := (s1.mono (T := fun j => j = b \/ j = g \/ cl bm um j \/ h.nq <= j) (fun j e => .inr e)).trans s2 (fun j _ e => .inl e)
 have hord : (Adr ((Aaq l i).length + 1) (Aaq l i)).length < 300 := by
  rcases Ar4 ((Aaq l i).length + 1) (Aaq l i) (by omega) (by omega) with e | ⟨_, e⟩ <;> omega
 have hgr := Ak7 ((Aaq l i).length + 1) (Aaq l i) m1.C [] (by omega) (by omega)
 have eC : m1.C = m.C := tk1.C
 have hz0 := fi.z1
 have hfc := fi.c
 have hfr := fi.r
 have hfl := fi.len
 have G0 : A58 h2' h2' bw bm um K (Adr ((Aaq l i).length + 1) (Aaq l i)) [] (Adr ((Aaq l i).length + 1) (Aaq l i)) m1.C m1.z m1.c m1.o m1.r := by
  have m2' : Aa2 h2' bm um m1.C m1.z (m1.c + (([] : List (List Pr)).length : Int)) m1.o m1.r := by
   rw [List.length_nil, Int.natCast_zero, Int.add_zero]; exact m2
  refine ⟨rfl, ⟨um, none, m2', f2, fun e => ?_, fun y hy e => ?_, fun y hy => (by cases hy), fun y hy => .inl hy, fun y hy => (by cases hy)⟩, fun e => ?_, fun e => ?_, A2t _ _ _ (by omega) (by omega), ?_, Aad.refl _ _⟩
  ·have := hml bw (.inr e); omega
  ·have := hml y (.inr hy); have := hK y e; omega
  ·have := hml bm (.inl rfl); omega
  ·have := hml bm (.inl rfl); have := hK bm e; omega
  ·show ((m1.C.length : Nat) : Int) <= m1.z
   rw [eC, tk1.z]; exact hfl
 obtain ⟨h3, ⟨hM, k3, hk3, ch3, F3, s3⟩, g3⟩ := A11 hT G H Nu (z := m1.z) (c := m1.c) (r := m1.r) (by omega) (by rw [tk1.z]; exact hz0) (by omega) (by rw [tk1.r]; omega) (by rw [hgr, List.length_append, eC, tk1.z]; omega) _ [] h2' (Aob _ _) G0
 have hS3 : ¬ ((b = bm \/ um = some b \/ b = bw) \/ h2'.nq <= b) := fun e => by
  rcases e with (e | e | e) | e
  ·exact hb (.inl e)
  ·exact hb (.inr e)
  ·omega
  ·omega
 obtain ⟨ch3', rM⟩ := Ab3.lift (fun k => Rcd k b (pcL 1 root (Aar l.length) i (pp g) (pp bw) (Aca (Aaq l i) 0) 0 false)) ch3 r2 (fun k k' q s => q.same s hS3) (fun k k' q F s => Avj hT HP q F s hS3)
 obtain ⟨um3, uw3, m3, f3, hub3, hku3, huw3, hum3, _⟩ := g3.ex
 rw [hgr, List.nil_append] at f3
 rw [hgr] at m3
 obtain ⟨_, _, F4, e40, e4⟩ := Asd hT HP G rM F3 s3 hS3 f3 (by simp)
 rw [e4, e40] at F4
 clear e4 e40
 have F4' : Aa3 P 77 [(pp b), (pp bm)] hM (.bool false) (h3.setR b (pcL (if 0 < i then 2 else 3) root (Aar l.length) i (pp g) (pp bw) (Aca (Aaq l i) 0) (Abc ((Aaq l i).length + 1) (Aaq l i) m1.C.length).1 false)) := F4
 rw [eC] at F4' m3
 have r3 := rM.same s3 hS3
 have s4 : Aad h3 (h3.setR b (pcL (if 0 < i then 2 else 3) root (Aar l.length) i (pp g) (pp bw) (Aca (Aaq l i) 0) (Abc ((Aaq l i).length + 1) (Aaq l i) m.C.length).1 false)) (· = b) := Aad.setR rfl
 have r4 : Rcd (h3.setR b (pcL (if 0 < i then 2 else 3) root (Aar l.length) i (pp g) (pp bw) (Aca (Aaq l i) 0) (Abc ((Aaq l i).length + 1) (Aaq l i) m.C.length).1 false)) b _ := Rcd.set _ r3.lt
 have x3 := (ch3.same.trans s3 (fun _ _ x => x)).nq
 have hb3 : ¬ cl bm um3 b := fun e => by
  rcases e with e | e
  ·exact hb (.inl e)
  ·rcases hum3 b e with e2 | e2
   ·exact hb (.inr e2)
   ·omega
 have m3' : Aa8 h3 bm um3 (m.laid (Abc ((Aaq l i).length + 1) (Aaq l i) m.C.length).2 (m1.c + (Adr ((Aaq l i).length + 1) (Aaq l i)).length)) := by
  rw [tk1.z, tk1.o, tk1.r] at m3; exact m3
 have m4 := m3'.same s4 (fun j hj e => hb3 (e ▸ hj))
 have fi3 : (m.laid (Abc ((Aaq l i).length + 1) (Aaq l i) m.C.length).2 (m1.c + (Adr ((Aaq l i).length + 1) (Aaq l i)).length)).fine := ⟨fi.z0, fi.z1, by show (((m.C ++ _).length : Nat) : Int) <= m.z; rw [List.length_append]; omega, ⟨by show 0 <= m1.c + _; omega, by show m1.c + _ < _; omega⟩, fi.o, fi.r⟩
 have hL3 : Aad hM (h3.setR b (pcL (if 0 < i then 2 else 3) root (Aar l.length) i (pp g) (pp bw) (Aca (Aaq l i) 0) (Abc ((Aaq l i).length + 1) (Aaq l i) m.C.length).1 false)) (fun j => j = b \/ j = g \/ cl bm um j \/ h.nq <= j) := (s3.mono (T := fun j => j = b \/ j = g \/ cl bm um j \/ h.nq <= j) (fun j e => by
  rcases e with (e | e | e) | e
  ·exact .inr (.inr (.inl (.inl e)))
  ·exact .inr (.inr (.inl (.inr e)))
  ·exact .inr (.inr (.inr (by omega)))
  ·exact .inr (.inr (.inr (by omega))))).trans s4 (fun j _ e => .inl e)
 have ch4 : Ab3 P 77 [(pp b), (pp bm)] (fun j => j = b \/ j = g \/ cl bm um j \/ h.nq <= j) h _ _ := (((ch1'.mono (fun j e => .inr e)).app (.one F2 hL1)).app (ch3'.mono (fun j e => by
  rcases e with (e | e | e) | e
  ·exact .inr (.inr (.inl (.inl e)))
  ·exact .inr (.inr (.inl (.inr e)))
  ·exact .inr (.inr (.inr (by omega)))
  ·exact .inr (.inr (.inr (by omega)))))).app (.one F4' hL3)
 generalize h3.setR b (pcL (if 0 < i then 2 else 3) root (Aar l.length) i (pp g) (pp bw) (Aca (Aaq l i) 0) (Abc ((Aaq l i).length + 1) (Aaq l i) m.C.length).1 false) = h4 at s4 r4 m4 F4' hL3 ch4
 have x4 := s4.nq
 have hum4 : ∀ y, um3 = some y -> um = some y \/ h.nq <= y := fun y hy => (hum3 y hy).imp_right (fun e => by omega)
 have hS5 : ∀ j, j = b \/ cl bm um3 j -> (j = b \/ j = g \/ cl bm um j \/ h.nq <= j) := fun j e => by
  rcases e with e | e | e
  ·exact .inl e
  ·exact .inr (.inr (.inl (.inl e)))
  ·rcases hum4 j e with e2 | e2
   ·exact .inr (.inr (.inl (.inr e2)))
   ·exact .inr (.inr (.inr e2))
 by_cases hi0 : 0 < i
 ·rw [if_pos hi0] at r4
  simp only [if_pos hi0]
  obtain ⟨_, h5, F5, rfl, r5, m5, s5⟩ := Aq8 hT HP V H V9 r4 m4 fi3 hb3 hr.1 (by omega)
  have fi5 : ((m.laid (Abc ((Aaq l i).length + 1) (Aaq l i) m.C.length).2 (m1.c + (Adr ((Aaq l i).length + 1) (Aaq l i)).length)).write ((root + 4 + i : Nat) : Int) (Aca (Aaq l i) 0)).fine := (Ab5 (m := m.laid (Abc ((Aaq l i).length + 1) (Aaq l i) m.C.length).2 (m1.c + (Adr ((Aaq l i).length + 1) (Aaq l i)).length)) (y := root + 4 + i) (x := Aca (Aaq l i) 0) (· = root + 4 + i) (by omega) (by show _ <= (m.C ++ _).length; rw [List.length_append]; omega) rfl).1.fine fi3 (by show m1.c + _ + _ < _; omega)
  obtain ⟨_, h6, F6, rfl, r6, m6, s6⟩ := Akl hT HP V H V9 HM r5 m5 fi5 hb3 hr.1 (by omega) (by omega)
  exact ⟨h6, um3, _, ((ch4.app (.one F5 (s5.mono hS5))).to (Adm.one F6 (s6.mono hS5))).le (by omega), ⟨_, r6⟩, m6, hum4, by omega, by omega⟩
 ·rw [if_neg hi0] at r4
  simp only [if_neg hi0]
  obtain ⟨_, h6, F6, rfl, r6, m6, s6⟩ := Akl hT HP V H V9 HM r4 m4 fi3 hb3 hr.1 (by omega) (by omega)
  exact ⟨h6, um3, _, (ch4.to (Adm.one F6 (s6.mono hS5))).le (by omega), ⟨_, r6⟩, m6, hum4, by omega, by omega⟩
end
structure Aem (tab : Nat -> Option Aae) : Prop where
 rnstart : tab 16 = some af16
 rnstep : tab 17 = some af17
 rninst : tab 41 = some af41
 rncrown : tab 42 = some af42
 rnfill : tab 43 = some af43
 rnswing : tab 44 = some af44
 rndone : tab 19 = some af19
 rnend : tab 60 = some af60
 rncrowned : tab 68 = some af68
 rnfirst : tab 71 = some af71
 rndeg : tab 74 = some af74
 rnlook : tab 75 = some af75
 rnbuild : tab 76 = some af76
 rnslot : tab 78 = some af78
theorem A7c : Aem tabT.get := ⟨by kernel_rfl, by kernel_rfl, by kernel_rfl, by kernel_rfl, by kernel_rfl, by kernel_rfl, by kernel_rfl, by kernel_rfl, by kernel_rfl, by kernel_rfl, by kernel_rfl, by kernel_rfl, by kernel_rfl, by kernel_rfl⟩
def rnL (nx e0 e1 e2 at' tg n : Int) (mk gk : Value) (rt i : Int) (cm : Bool) (pc : Value) (gt : Int) (dc : Value) (ok : Bool) : List Value := [I nx, I e0, I e1, I e2, I at', I tg, I n, mk, gk, I rt, I i, .bool cm, pc, I gt, dc, .bool ok]
section
variable (hT : Aa0 P tab) (HR : Aem tab) (Nu : Num P) (V : Aea tab) (H : Has tab)
include hT HR
theorem Ao1 (h : Aac) (e0 e1 e2 : Int) : Aah P 16 [.agg (List.toArray [I e0, I e1, I e2])] h fun v h' => ∃ b : Nat, v = (pp b) /\ h.nq <= b /\ Rcd h' b (rnL 0 e0 e1 e2 0 0 0 (.pointer none) (.pointer none) 0 0 false (.pointer none) 0 (.pointer none) false) /\ Aad h h' (fun _ => False) := by
 refine Aaa hT HR.rnstart rfl ?_
 have bx := Adn h [I e0, I e1, I e2] 3 rfl
 have ld := Afu h [I e0, I e1, I e2] 3 rfl
 have s1 : Aad h (h.newR [I e0, I e1, I e2]) (fun _ => False) := Aad.newR
 have x1 : (h.newR [I e0, I e1, I e2]).nq = h.nq + 1 := rfl
 generalize h.newR [I e0, I e1, I e2] = h1 at bx ld s1 x1
 have bx2 := Adn h1 (rnL 0 e0 e1 e2 0 0 0 (.pointer none) (.pointer none) 0 0 false (.pointer none) 0 (.pointer none) false) 16 rfl
 have fl : Aew [.int .i64 0, .int .i64 0, .int .i64 0, .int .i64 0, .int .i64 0, .int .i64 0, .int .i64 0, .pointer none, .pointer none, .int .i64 0, .int .i64 0, .bool false, .pointer none, .int .i64 0, .pointer none, .bool false] [(0, 1, .int .i64 0), (1, 3, .agg (List.toArray [I e0, I e1, I e2]))] = some (rnL 0 e0 e1 e2 0 0 0 (.pointer none) (.pointer none) 0 0 false (.pointer none) 0 (.pointer none) false) := rfl
 have s2 : Aad h1 (h1.newR (rnL 0 e0 e1 e2 0 0 0 (.pointer none) (.pointer none) 0 0 false (.pointer none) 0 (.pointer none) false)) (fun _ => False) := Aad.newR
 have r2 := Rcd.new h1 (rnL 0 e0 e1 e2 0 0 0 (.pointer none) (.pointer none) 0 0 false (.pointer none) 0 (.pointer none) false)
 have sF := s1.trans s2 (fun _ _ x => x)
 simp only [SV, SS, seval, af16, bx, Abi, ld, fl, bx2]
 rw [Aab h _ sF.mq]
 exact ⟨h1.nq, rfl, by omega, r2, sF⟩
variable {e0 e1 e2 at' tg n rt i gt nx : Int} {mk gk pc dc : Value} {cm ok : Bool}
theorem Auy {h : Aac} {b : Nat} (r : Rcd h b (rnL nx e0 e1 e2 at' tg n mk gk rt i cm pc gt dc ok)) (x : Bool) : Aah P 60 [(pp b), .bool x] h fun v h' => h' = h.setR b (rnL 15 e0 e1 e2 at' tg n mk gk rt i cm pc gt dc x) := by
 refine Aaa hT HR.rnend rfl ?_
 simp only [rnL] at r
 simp only [SV, SS, seval, af60, r.wr, Abp]
 exact rfl
theorem Afg {h : Aac} {b : Nat} (r : Rcd h b (rnL nx e0 e1 e2 at' tg n mk gk rt i cm pc gt dc ok)) : Aah P 19 [(pp b)] h fun v h' => v = .bool (nx == 15) /\ h' = h := by
 refine Aaa hT HR.rndone rfl ?_
 simp only [rnL] at r
 simp only [SV, SS, seval, af19, r.rd]
theorem Ah8 {h : Aac} {b : Nat} (r : Rcd h b (rnL nx e0 e1 e2 at' tg n mk gk rt i cm pc gt dc ok)) (x : Int) : Aah P 68 [(pp b), I x] h fun v h' => h' = h.setR b (rnL (if 2 <= n then 9 else 12) e0 e1 e2 at' tg n mk gk x i cm pc gt dc ok) := by
 refine Aaa hT HR.rncrowned rfl ?_
 simp only [rnL] at r
 by_cases hn : 2 <= n
 ·have c1 : (n >= 2) = True := by simp; omega
  rw [if_pos hn]
  simp only [SV, SS, seval, af68, r.wr, Abp, Adc, c1]
  exact rfl
 ·have c1 : (n >= 2) = False := by simp; omega
  rw [if_neg hn]
  simp only [SV, SS, seval, af68, r.wr, Abp, Adc, c1]
  exact rfl
include Nu in
theorem Ahs {h : Aac} {b : Nat} {n : Nat} (r : Rcd h b (rnL nx e0 e1 e2 at' tg n mk gk rt i cm pc gt dc ok)) (h120 : n <= 120) : Aah P 74 [(pp b)] h fun v h' => v = I (Aar n) /\ h' = h := by
 refine Aaa hT HR.rndeg rfl ?_
 simp only [rnL] at r
 simp only [SV, SS, seval, af74, r.rd]
 refine ⟨_, _, Nu.deg n h120 h, ?_⟩
 simp only [SV, SS, seval]
include Nu in
theorem Akv {h : Aac} {b : Nat} {n x : Nat} (r : Rcd h b (rnL nx e0 e1 e2 at' tg n mk gk rt i cm pc gt dc ok)) (h120 : n <= 120) : Aah P 75 [(pp b), I x] h fun v h' => h' = h.setR b (rnL (if Aar n <= x then 12 else 11) e0 e1 e2 at' tg n mk gk rt x false pc gt dc ok) := by
 refine Aaa hT HR.rnlook rfl ?_
 have r1 : Rcd (h.setR b (rnL 11 e0 e1 e2 at' tg n mk gk rt x false pc gt dc ok)) b (rnL 11 e0 e1 e2 at' tg n mk gk rt x false pc gt dc ok) := Rcd.set _ r.lt
 obtain ⟨_, _, F, rfl, e⟩ := Ahs hT HR Nu r1 h120
 rw [e] at F
 simp only [rnL] at r F
 by_cases hn : Aar n <= x
 ·have c1 : ((x : Int) >= Aar n) = True := by simp; omega
  rw [if_pos hn]
  simp only [SV, SS, seval, af75, r.wr, Abp, Adc]
  refine ⟨_, _, F, ?_⟩
  simp only [SV, SS, seval, c1, Abp]
  exact rfl
 ·have c1 : ((x : Int) >= Aar n) = False := by simp; omega
  rw [if_neg hn]
  simp only [SV, SS, seval, af75, r.wr, Abp, Adc]
  refine ⟨_, _, F, ?_⟩
  simp only [SV, SS, seval, c1, Abp]
  exact rfl
end
section
variable (hT : Aa0 P tab) (HR : Aem tab)
include hT HR
variable {e0 e1 e2 at' tg n rt i gt nx e0' e1' e2' at2 tg' n' rt' i' gt' nx' : Int} {mk gk pc dc mk' gk' pc' dc' : Value} {cm ok cm' ok' : Bool}
theorem Afw {h h' : Aac} {b bm : Nat} {v : Value} (r : Rcd h b (rnL nx e0 e1 e2 at' tg n mk gk rt i cm pc gt dc ok)) (hn : nx = 0 \/ nx = 1) (F : Aa3 P 41 [(pp b), (pp bm)] h v h') (hm : h'.mq = h.mq) (r' : Rcd h' b (rnL nx' e0' e1' e2' at2 tg' n' mk' gk' rt' i' cm' pc' gt' dc' ok')) :
  Aa3 P 17 [(pp b), (pp bm)] h (.bool (nx' == 15)) h' := by
 have key : Aah P 17 [(pp b), (pp bm)] h fun w k => w = .bool (nx' == 15) /\ k = h' := by
  refine Aaa hT HR.rnstep rfl ?_
  obtain ⟨_, _, F2, e20, e2⟩ := Afg hT HR r'
  rw [e2, e20] at F2
  simp only [rnL] at r
  have q0 := r.rd
  rcases hn with rfl | rfl
  all_goals
   simp only [SS, seval, af17, q0]
   refine ⟨_, _, F, ?_⟩
   simp only [SS, seval]
   refine ⟨_, _, F2, ?_⟩
   simp only [SS, seval]
   rw [Aab h _ hm]
 obtain ⟨_, _, F', rfl, rfl⟩ := key
 exact F'
theorem Abw {h h' : Aac} {b bm : Nat} {v : Value} (r : Rcd h b (rnL nx e0 e1 e2 at' tg n mk gk rt i cm pc gt dc ok)) (hn : nx = 2 \/ nx = 3 \/ nx = 4 \/ nx = 5 \/ nx = 6 \/ nx = 7 \/ nx = 8) (F : Aa3 P 42 [(pp b), (pp bm)] h v h') (hm : h'.mq = h.mq) (r' : Rcd h' b (rnL nx' e0' e1' e2' at2 tg' n' mk' gk' rt' i' cm' pc' gt' dc' ok')) :
  Aa3 P 17 [(pp b), (pp bm)] h (.bool (nx' == 15)) h' := by
 have key : Aah P 17 [(pp b), (pp bm)] h fun w k => w = .bool (nx' == 15) /\ k = h' := by
  refine Aaa hT HR.rnstep rfl ?_
  obtain ⟨_, _, F2, e20, e2⟩ := Afg hT HR r'
  rw [e2, e20] at F2
  simp only [rnL] at r
  have q0 := r.rd
  rcases hn with rfl | rfl | rfl | rfl | rfl | rfl | rfl
  all_goals
   simp only [SS, seval, af17, q0]
   refine ⟨_, _, F, ?_⟩
   simp only [SS, seval]
   refine ⟨_, _, F2, ?_⟩
   simp only [SS, seval]
   rw [Aab h _ hm]
 obtain ⟨_, _, F', rfl, rfl⟩ := key
 exact F'
theorem Afe {h h' : Aac} {b bm : Nat} {v : Value} (r : Rcd h b (rnL nx e0 e1 e2 at' tg n mk gk rt i cm pc gt dc ok)) (hn : nx = 9 \/ nx = 10 \/ nx = 11) (F : Aa3 P 43 [(pp b), (pp bm)] h v h') (hm : h'.mq = h.mq) (r' : Rcd h' b (rnL nx' e0' e1' e2' at2 tg' n' mk' gk' rt' i' cm' pc' gt' dc' ok')) :
  Aa3 P 17 [(pp b), (pp bm)] h (.bool (nx' == 15)) h' := by
 have key : Aah P 17 [(pp b), (pp bm)] h fun w k => w = .bool (nx' == 15) /\ k = h' := by
  refine Aaa hT HR.rnstep rfl ?_
  obtain ⟨_, _, F2, e20, e2⟩ := Afg hT HR r'
  rw [e2, e20] at F2
  simp only [rnL] at r
  have q0 := r.rd
  rcases hn with rfl | rfl | rfl
  all_goals
   simp only [SS, seval, af17, q0]
   refine ⟨_, _, F, ?_⟩
   simp only [SS, seval]
   refine ⟨_, _, F2, ?_⟩
   simp only [SS, seval]
   rw [Aab h _ hm]
 obtain ⟨_, _, F', rfl, rfl⟩ := key
 exact F'
theorem Afk {h h' : Aac} {b bm : Nat} {v : Value} (r : Rcd h b (rnL nx e0 e1 e2 at' tg n mk gk rt i cm pc gt dc ok)) (hn : nx = 12 \/ nx = 13 \/ nx = 14) (F : Aa3 P 44 [(pp b), (pp bm)] h v h') (hm : h'.mq = h.mq) (r' : Rcd h' b (rnL nx' e0' e1' e2' at2 tg' n' mk' gk' rt' i' cm' pc' gt' dc' ok')) :
  Aa3 P 17 [(pp b), (pp bm)] h (.bool (nx' == 15)) h' := by
 have key : Aah P 17 [(pp b), (pp bm)] h fun w k => w = .bool (nx' == 15) /\ k = h' := by
  refine Aaa hT HR.rnstep rfl ?_
  obtain ⟨_, _, F2, e20, e2⟩ := Afg hT HR r'
  rw [e2, e20] at F2
  simp only [rnL] at r
  have q0 := r.rd
  rcases hn with rfl | rfl | rfl
  all_goals
   simp only [SS, seval, af17, q0]
   refine ⟨_, _, F, ?_⟩
   simp only [SS, seval]
   refine ⟨_, _, F2, ?_⟩
   simp only [SS, seval]
   rw [Aab h _ hm]
 obtain ⟨_, _, F', rfl, rfl⟩ := key
 exact F'
end
section
variable (hT : Aa0 P tab) (HR : Aem tab) (HP : Aid tab) (Nu : Num P) (HG : Aep tab) (V : Aea tab) (H : Has tab)
include hT HR
variable {e0 e1 e2 at' gt nx : Int} {mk gk pc dc : Value} {cm ok : Bool} {tg n a i : Nat} {tgi : Int}
include HP Nu HG V H in
theorem Ap5 {h : Aac} {b : Nat} (r : Rcd h b (rnL nx e0 e1 e2 at' tg n mk gk ((a : Int) * 8 + 3) i cm pc gt dc ok)) (a1 : 1 <= a) (a2 : a <= 65536) (n2 : 2 <= n) (n120 : n <= 120) (hi : i < Aar n) :
  Aah P 76 [(pp b)] h fun v h' => ∃ g : Nat, Rcd h' b (rnL 10 e0 e1 e2 at' tg n mk gk ((a : Int) * 8 + 3) i cm (pp (g + 1)) gt dc ok) /\ h.nq <= g /\ Rcd h' (g + 1) (pcL 0 a (Aar n) i (pp g) (.pointer none) 0 0 false) /\ Adp h' g 0 ⟨tg, 0, 0, 0, Aa1 n i, Aa1 n i + Abs n i⟩ (.pointer none) 0 0 (.slice none 0 0) [] none [] none /\ Aad h h' (· = b) := by
 refine Aaa hT HR.rnbuild rfl ?_
 have hbl := r.lt
 obtain ⟨_, h1, F1, g, rfl, hg, r1, g1, s1⟩ := An9 hT HP Nu HG V H h (tg := tg) a1 a2 n2 n120 hi
 have rb1 := r.same s1 (fun x => x)
 have rb2 : Rcd (h1.setR b (rnL 10 e0 e1 e2 at' tg n mk gk ((a : Int) * 8 + 3) i cm (pp (g + 1)) gt dc ok)) b (rnL 10 e0 e1 e2 at' tg n mk gk ((a : Int) * 8 + 3) i cm (pp (g + 1)) gt dc ok) := Rcd.set _ rb1.lt
 have s2 : Aad h1 (h1.setR b (rnL 10 e0 e1 e2 at' tg n mk gk ((a : Int) * 8 + 3) i cm (pp (g + 1)) gt dc ok)) (· = b) := Aad.setR rfl
 have r2 := r1.same s2 (by omega)
 have g2 := g1.same s2 (fun j hj e => by
  rcases hj with e2 | e2 | e2
  ·omega
  ·cases e2
  ·cases e2)
 have sF : Aad h (h1.setR b (rnL 10 e0 e1 e2 at' tg n mk gk ((a : Int) * 8 + 3) i cm (pp (g + 1)) gt dc ok)) (· = b) := (s1.mono (fun _ e => e.elim)).trans s2 (fun _ _ x => x)
 simp only [rnL] at r rb1 rb2 sF r2 g2
 have q0 := r.rd
 have w1 := rb1.wr
 obtain ⟨CF, hcf, gF⟩ := Ajb F1
 simp only [SV, SS, seval, af76]
 refine ⟨CF, hcf, ?_⟩
 simp only [SV, SS, seval, q0, gF, w1, Abp]
 rw [Aab h _ sF.mq]
 exact ⟨g, rb2, hg, r2, g2, sF⟩
include Nu V H in
theorem Ase {h : Aac} {b : Nat} (r : Rcd h b (rnL nx e0 e1 e2 at' tgi n mk gk ((a : Int) * 8 + 3) i cm pc gt dc ok)) (a1 : 1 <= a) (a2 : a <= 65536) (n120 : n <= 120) (hd : Aar n <= 100) (hi : i <= 100) :
  Aah P 78 [(pp b)] h fun v h' => v = I ((a + 4 + Aar n + i : Nat) : Int) /\ Aad h h' (fun _ => False) := by
 refine Aaa hT HR.rnslot rfl ?_
 obtain ⟨_, _, F1, rfl, e1⟩ := Ab0 hT V H h a 3 a1 a2 (by omega) (by omega)
 rw [e1] at F1
 have F1' : Aa3 P 26 [I ((a : Int) * 8 + 3)] h (I a) h := F1
 obtain ⟨_, _, F2, rfl, e2⟩ := Ahs hT HR Nu r n120
 rw [e2] at F2
 obtain ⟨_, h3, F3, rfl, s3⟩ := Ada hT V h a (Aar n) i (by omega) (by omega) (by omega)
 obtain ⟨CF, hcf, g1, g2, g3⟩ := A1j F1' F2 F3 (by decide) (by decide) (by decide)
 simp only [rnL] at r
 have q0 := r.rd
 have q9 : h.rd b 9 = some (I ((a : Int) * 8 + 3)) := by rw [q0]; rfl
 have q10 : h.rd b 10 = some (I i) := by rw [q0]; rfl
 let J : Nat -> Aac -> Prop := fun j k => j <= 2 -> k.rd b 9 = some (I ((a : Int) * 8 + 3)) /\ k.rd b 10 = some (I i)
 have j0 : J 0 h := fun _ => ⟨q9, q10⟩
 have j1 : J 1 h := fun _ => ⟨q9, q10⟩
 have j2 : J 2 h := fun _ => ⟨q9, q10⟩
 have j3 : J 3 h3 := fun h => by omega
 have j9 : ∀ j k, 0 <= j -> j <= 2 -> J j k -> k.rd b 9 = some (I ((a : Int) * 8 + 3)) := fun j k _ hj q => (q hj).1
 have j10 : ∀ j k, 0 <= j -> j <= 2 -> J j k -> k.rd b 10 = some (I i) := fun j k _ hj q => (q hj).2
 clear_value J
 simp only [SV, SS, seval, af78]
 refine Adz J CF hcf j0 ?_
 simp only [SV, SS, seval, Aiv, w_p, w_r, w_e, Afl, Awg, Ain, Afr, Ad3, q9, q10, g1, g2, g3, Ac4]
 refine ⟨fun j k p q r => j9 j k p (by omega) r, j1, j2, j10, j3, ?_⟩
 rw [Aab h _ s3.mq]
 exact s3
end
section
variable (hT : Aa0 P tab) (HR : Aem tab) (HRw : tab 28 = some af28) (HS : Afx tab) (V : Aea tab) (H : Has tab) (V9 : Acg tab) (HM : Agf tab)
include hT
include HRw in
theorem Aqb (h : Aac) (w g s : Int) : Aah P 28 [I w, I g, I s] h fun v h' => v = .slice (some ⟨h.nq, 0, none⟩) 5 5 /\ Abq h' h.nq 0 1 5 5 ([w, g, s, 0, 0].map I) /\ Aad h h' (fun _ => False) := by
 refine Aaa hT HRw rfl ?_
 simp only [SV, SS, seval, af28]
 exact ⟨Abq.fresh h [I w, I g, I s, I 0, I 0] 5 1 true false rfl, Aad.new⟩
include HR
variable {e1 at' tg n rt i gt : Int} {mk gk pc dc : Value} {cm ok : Bool}
theorem Ao8 {h h' : Aac} {b bd bm : Nat} {e0 e2 : Int} {S : Nat -> Prop} (r : Rcd h b (rnL 1 e0 e1 e2 at' tg n mk gk rt i cm pc gt (pp bd) ok)) (F : Aa3 P 62 [(pp bd), (pp bm)] h (.bool false) h') (s : Aad h h' S) (hb : ¬ S b) (he : -1000000 <= e0 /\ e0 <= 1000000) :
  Aa3 P 17 [(pp b), (pp bm)] h (.bool false) h' := by
 have key : Aah P 41 [(pp b), (pp bm)] h fun v k => k = h' := by
  refine Aaa hT HR.rninst rfl ?_
  have w : Aan .i64 (e0 + 2) = e0 + 2 := by rw [Aav] <;> omega
  have r := r
  simp only [rnL] at r
  have q0 := r.rd
  simp only [SV, SS, seval, af41, q0, w]
  refine ⟨_, _, F, ?_⟩
  simp only [SV, SS, seval]
  rw [Aab h _ s.mq]
 obtain ⟨_, _, F', e⟩ := key
 rw [e] at F'
 exact Afw hT HR r (.inr rfl) F' s.mq (r.same s hb)
theorem Amj {h h' : Aac} {b bd bm : Nat} {e0 e2 g p o nn rr ss : Int} {S : Nat -> Prop} (r : Rcd h b (rnL 1 e0 e1 e2 at' tg n mk gk rt i cm pc gt (pp bd) ok)) (F : Aa3 P 62 [(pp bd), (pp bm)] h (.bool true) h') (s : Aad h h' S) (hb : ¬ S b) (he : -1000000 <= e0 /\ e0 <= 1000000) (HSd : Afx tab) (rd : Rcd h' bd (dcL 6 g p o nn rr ss 1)) :
  Aa3 P 17 [(pp b), (pp bm)] h (.bool false) (h'.setR b (rnL 2 e0 e1 e2 at' tg n mk gk rt i cm pc gt (pp bd) ok)) := by
 have r1 := r.same s hb
 have rd0 := rd
 have key : Aah P 41 [(pp b), (pp bm)] h fun v k => k = h'.setR b (rnL 2 e0 e1 e2 at' tg n mk gk rt i cm pc gt (pp bd) ok) := by
  refine Aaa hT HR.rninst rfl ?_
  obtain ⟨_, _, F2, ea, eb⟩ := Ap3 hT HSd rd
  rw [eb, ea] at F2
  have w : Aan .i64 (e0 + 2) = e0 + 2 := by rw [Aav] <;> omega
  have sm : (h'.setR b (rnL 2 e0 e1 e2 at' tg n mk gk rt i cm pc gt (pp bd) ok)).mq = h.mq := s.mq
  simp only [rnL] at r r1 sm
  have q0 := r.rd
  have q1 := r1.rd
  have w1 := r1.wr
  simp only [SV, SS, seval, af41, q0, w]
  refine ⟨_, _, F, ?_⟩
  simp only [SV, SS, seval, q1]
  refine ⟨_, _, F2, ?_⟩
  simp only [SV, SS, seval, w1]
  rw [Aab h _ sm]
  exact rfl
 obtain ⟨_, _, F', e⟩ := key
 rw [e] at F'
 have s2 : Aad h' (h'.setR b (rnL 2 e0 e1 e2 at' tg n mk gk rt i cm pc gt (pp bd) ok)) (· = b) := Aad.setR rfl
 exact Afw hT HR r (.inr rfl) F' (by rw [s2.mq, s.mq]) (Rcd.set _ r1.lt)
end
section
variable (hT : Aa0 P tab) (HR : Aem tab) (HRw : tab 28 = some af28) (HS : Afx tab) (H : Has tab)
include hT HR HRw HS H
variable {e1 tg n rt i gt : Int} {mk gk pc dc : Value} {cm ok : Bool}
theorem Avf {h : Aac} {b bm : Nat} {e0 w at0 : Int} {um : Option Nat} {m : PM} (r : Rcd h b (rnL 0 e0 e1 w at0 tg n mk gk rt i cm pc gt dc ok)) (mm : Aa8 h bm um m) (f : m.fine) (hb : ¬ cl bm um b) (he : -1000000 <= e0 /\ e0 <= 1000000) (hr : (m.C.length : Int) + 5 <= m.z) :
  ∃ h' bd um', Aa3 P 17 [(pp b), (pp bm)] h (.bool false) h' /\ h.nq <= bd /\ Rcd h' b (rnL 1 e0 e1 w ((m.C.length : Int) + 1) tg n mk gk rt i cm pc gt (pp bd) ok) /\ Rcd h' bd (dcL 0 (e0 + 2) e1 w (((m.C.length : Int) + 1) * 8 + 4) 0 0 0) /\ Aa8 h' bm um' (m.more [w, e0 + 2, e1, 0, 0]) /\ (∀ x, um' = some x -> um = some x \/ h.nq <= x) /\ Aad h h' (fun j => j = b \/ cl bm um j) := by
 have hml := mm.lt
 have hbl := r.lt
 have fz := f.z1
 obtain ⟨_, h1, F1, rfl, r1, s1⟩ := Aqb hT HRw h w (e0 + 2) e1
 have x1 := s1.nq
 have rb1 := r.same s1 (fun x => x)
 have m1 := mm.same s1 (fun _ _ x => x)
 obtain ⟨_, h2, F2, rfl, ⟨u2, m2, n2⟩, s2⟩ := Aga hT H (ws := [w, e0 + 2, e1, 0, 0]) m1 f r1 (by have := hml bm (.inl rfl); omega) (by simp) (by simpa using hr)
 have F2' : Aa3 P 10 [(pp bm), .slice (some ⟨h.nq, 0, none⟩) 5 5] h1 (.tuple #[I ((m.C.length : Int) + 1), .bool true]) h2 := F2
 have x2 := s2.nq
 have rb2 := rb1.same s2 hb
 have hb2 : ¬ cl bm u2 b := fun e => by
  rcases e with e | e
  ·exact hb (.inl e)
  ·rcases n2 b e with e2 | e2
   ·exact hb (.inr e2)
   ·omega
 have s3 : Aad h2 (h2.setR b (rnL 1 e0 e1 w ((m.C.length : Int) + 1) tg n mk gk rt i cm pc gt dc ok)) (· = b) := Aad.setR rfl
 have rb3 : Rcd (h2.setR b (rnL 1 e0 e1 w ((m.C.length : Int) + 1) tg n mk gk rt i cm pc gt dc ok)) b (rnL 1 e0 e1 w ((m.C.length : Int) + 1) tg n mk gk rt i cm pc gt dc ok) := Rcd.set _ rb2.lt
 have m3 := m2.same s3 (fun j hj e => hb2 (e ▸ hj))
 have w2 := rb2.wr 4 (I ((m.C.length : Int) + 1)) (by simp [rnL]) (Aat _ _)
 have w3 : (h2.setR b ((rnL 0 e0 e1 w at0 tg n mk gk rt i cm pc gt dc ok).set 4 (I ((m.C.length : Int) + 1)))).wrs b 0 [I 1] = some (h2.setR b (rnL 1 e0 e1 w ((m.C.length : Int) + 1) tg n mk gk rt i cm pc gt dc ok)) := Abp h2 b _ 0 (I 1) (by simp [rnL]) (Aat _ _)
 have x3 : (h2.setR b (rnL 1 e0 e1 w ((m.C.length : Int) + 1) tg n mk gk rt i cm pc gt dc ok)).nq = h2.nq := rfl
 generalize h2.setR b (rnL 1 e0 e1 w ((m.C.length : Int) + 1) tg n mk gk rt i cm pc gt dc ok) = h3 at s3 rb3 m3 w3 x3
 obtain ⟨_, _, F4, rfl, e4⟩ := Aed hT H 4 ((m.C.length : Int) + 1) h3 (by omega) (by omega) (by omega) (by omega)
 rw [e4] at F4
 obtain ⟨_, h5, F5, rfl, e5⟩ := Aqn hT HS h3 (e0 + 2) e1 w (((m.C.length : Int) + 1) * 8 + 4)
 have s5 : Aad h3 h5 (fun _ => False) := by rw [e5]; exact Aad.newR
 have rd5 : Rcd h5 h3.nq (dcL 0 (e0 + 2) e1 w (((m.C.length : Int) + 1) * 8 + 4) 0 0 0) := by rw [e5]; exact Rcd.new _ _
 clear e5
 have rb5 := rb3.same s5 (fun x => x)
 have m5 := m3.same s5 (fun _ _ x => x)
 have s6 : Aad h5 (h5.setR b (rnL 1 e0 e1 w ((m.C.length : Int) + 1) tg n mk gk rt i cm pc gt (pp h3.nq) ok)) (· = b) := Aad.setR rfl
 have rb6 : Rcd (h5.setR b (rnL 1 e0 e1 w ((m.C.length : Int) + 1) tg n mk gk rt i cm pc gt (pp h3.nq) ok)) b (rnL 1 e0 e1 w ((m.C.length : Int) + 1) tg n mk gk rt i cm pc gt (pp h3.nq) ok) := Rcd.set _ rb5.lt
 have m6 := m5.same s6 (fun j hj e => hb2 (e ▸ hj))
 have rd6 := rd5.same s6 (by omega)
 have w6 : h5.wrs b 14 [(pp h3.nq)] = some (h5.setR b (rnL 1 e0 e1 w ((m.C.length : Int) + 1) tg n mk gk rt i cm pc gt (pp h3.nq) ok)) := rb5.wr 14 (pp h3.nq) (by simp [rnL]) (Acs _)
 generalize h5.setR b (rnL 1 e0 e1 w ((m.C.length : Int) + 1) tg n mk gk rt i cm pc gt (pp h3.nq) ok) = h6 at s6 rb6 m6 rd6 w6
 have sF : Aad h h6 (fun j => j = b \/ cl bm um j) := (((((s1.mono (T := fun j => j = b \/ cl bm um j) (fun _ e => e.elim)).trans s2 (fun j _ e => .inr e)).trans s3 (fun j _ e => .inl e)).trans s5 (fun _ _ e => e.elim)).trans s6 (fun j _ e => .inl e))
 have key : Aah P 41 [(pp b), (pp bm)] h fun v k => k = h6 := by
  refine Aaa hT HR.rninst rfl ?_
  have wq : Aan .i64 (e0 + 2) = e0 + 2 := by rw [Aav] <;> omega
  obtain ⟨CF, hcf, g1, g2⟩ := Amo F1 F2' (by decide)
  obtain ⟨CG, hcg, g4, g5⟩ := Amo F4 F5 (by decide)
  have q0 := r.rd
  have q3 := rb3.rd
  have qa : h.rd b 0 = some (I 0) := by rw [q0]; rfl
  have qb : h.rd b 1 = some (I e0) := by rw [q0]; rfl
  have qc : h.rd b 2 = some (I e1) := by rw [q0]; rfl
  have qd : h.rd b 3 = some (I w) := by rw [q0]; rfl
  have qc3 : h3.rd b 2 = some (I e1) := by rw [q3]; rfl
  have qd3 : h3.rd b 3 = some (I w) := by rw [q3]; rfl
  let J : Nat -> Aac -> Prop := fun j k => j <= 1 -> k.rd b 2 = some (I e1) /\ k.rd b 3 = some (I w)
  have j0 : J 0 h3 := fun _ => ⟨qc3, qd3⟩
  have j1 : J 1 h3 := fun _ => ⟨qc3, qd3⟩
  have j2 : J 2 h5 := fun h => by omega
  have j3 : J 3 h6 := fun h => by omega
  have jc : ∀ j k, 0 <= j -> j <= 1 -> J j k -> k.rd b 2 = some (I e1) := fun j k _ hj q => (q hj).1
  have jd : ∀ j k, 0 <= j -> j <= 1 -> J j k -> k.rd b 3 = some (I w) := fun j k _ hj q => (q hj).2
  clear_value J
  simp only [SV, SS, seval, af41, qa, qb, wq]
  refine ⟨CF, hcf, ?_⟩
  simp only [SV, SS, seval, qb, qc, qd, g1, g2, w2, w3]
  refine Adz J CG hcg j0 ?_
  simp only [SV, SS, seval, Aiv, w_p, w_r, w_e, Afl, Awg, Ain, Afr, Ad3, qc3, qd3, g4, g5, Ac4, w6]
  refine ⟨jc, jd, j1, j2, j3, ?_⟩
  rw [Aab h _ sF.mq]
 obtain ⟨_, _, F', e⟩ := key
 rw [e] at F'
 exact ⟨h6, h3.nq, u2, Afw hT HR r (.inl rfl) F' sF.mq rb6, by omega, rb6, rd6, m6, fun x hx => (n2 x hx).imp_right (fun e => by omega), sF⟩
end
section
variable (hT : Aa0 P tab) (HR : Aem tab) (HS : Afx tab) (V : Aea tab) (H : Has tab) (V9 : Acg tab) (HM : Agf tab)
include hT HR
variable {e0 e1 e2 tg n rt i gt : Int} {mk gk pc dc : Value} {cm ok : Bool}
include HS V H V9 HM in
theorem Ath {h : Aac} {b bm A a : Nat} {um : Option Nat} {m : PM} (r : Rcd h b (rnL 2 e0 e1 e2 A tg n mk gk rt i cm pc gt dc ok)) (mm : Aa8 h bm um m) (f : m.fine) (hb : ¬ cl bm um b) (hA : A <= 65536) (a1 : 1 <= a) (a2 : a <= 65536) (hw : m.get (A : Int) = (a : Int) * 8 + 3) :
  ∃ h' km, Aa3 P 17 [(pp b), (pp bm)] h (.bool false) h' /\ h.nq <= km /\ Rcd h' b (rnL 3 e0 e1 e2 A a n (pp km) gk rt i cm pc gt dc ok) /\ Afi h' km 0 a 0 0 (.pointer none) (.slice none 0 0) [] none /\ Aa8 h' bm um (m.tick (A : Int)) /\ Aad h h' (fun j => j = b \/ cl bm um j) := by
 have hml := mm.lt
 have hbl := r.lt
 have w0 : Aan .i64 ((A : Int) + 0) = (A : Int) := by rw [Aav] <;> omega
 obtain ⟨_, h1, F1, rfl, m1, s1⟩ := Abm hT V9 HM mm f (A : Int) (by omega)
 have F1' : Aa3 P 64 [(pp bm), I (A : Int)] h (I ((a : Int) * 8 + 3)) h1 := by rw [<- hw]; exact F1
 have m1 : Aa8 h1 bm um (m.tick (A : Int)) := m1
 have r1 := r.same s1 (fun e => hb (.inl e))
 have x1 := s1.nq
 obtain ⟨_, _, F2, rfl, eb⟩ := Ab0 hT V H h1 a 3 a1 a2 (by omega) (by omega)
 rw [eb] at F2
 have F2' : Aa3 P 26 [I ((a : Int) * 8 + 3)] h1 (I a) h1 := F2
 have w1 := r1.wr 5 (I a) (by simp [rnL]) (Aat _ _)
 have s2 : Aad h1 (h1.setR b (rnL 2 e0 e1 e2 A a n mk gk rt i cm pc gt dc ok)) (· = b) := Aad.setR rfl
 have r2 : Rcd (h1.setR b (rnL 2 e0 e1 e2 A a n mk gk rt i cm pc gt dc ok)) b (rnL 2 e0 e1 e2 A a n mk gk rt i cm pc gt dc ok) := Rcd.set _ r1.lt
 have w1 : h1.wrs b 5 [I a] = some (h1.setR b (rnL 2 e0 e1 e2 A a n mk gk rt i cm pc gt dc ok)) := w1
 have m2 := m1.same s2 (fun j hj e => hb (e ▸ hj))
 have x2 : (h1.setR b (rnL 2 e0 e1 e2 A a n mk gk rt i cm pc gt dc ok)).nq = h1.nq := rfl
 generalize h1.setR b (rnL 2 e0 e1 e2 A a n mk gk rt i cm pc gt dc ok) = h2 at w1 s2 r2 m2 x2
 obtain ⟨_, h3, F3, rfl, e3⟩ := Awd hT HS h2 (a : Int)
 have s3 : Aad h2 h3 (fun _ => False) := by rw [e3]; exact Aad.newR
 have rk3 : Rcd h3 h2.nq [I 0, I a, .pointer none, I 0, .slice none 0 0, I 0] := by rw [e3]; exact Rcd.new _ _
 clear e3
 have r3 := r2.same s3 (fun x => x)
 have m3 := m2.same s3 (fun _ _ x => x)
 have s4 : Aad h3 (h3.setR b (rnL 3 e0 e1 e2 A a n (pp h2.nq) gk rt i cm pc gt dc ok)) (· = b) := Aad.setR rfl
 have r4 : Rcd (h3.setR b (rnL 3 e0 e1 e2 A a n (pp h2.nq) gk rt i cm pc gt dc ok)) b (rnL 3 e0 e1 e2 A a n (pp h2.nq) gk rt i cm pc gt dc ok) := Rcd.set _ r3.lt
 have m4 := m3.same s4 (fun j hj e => hb (e ▸ hj))
 have rk4 := rk3.same s4 (by omega)
 have w3 := r3.wr 0 (I 3) (by simp [rnL]) (Aat _ _)
 have w4 : (h3.setR b ((rnL 2 e0 e1 e2 A a n mk gk rt i cm pc gt dc ok).set 0 (I 3))).wrs b 7 [(pp h2.nq)] = some (h3.setR b (rnL 3 e0 e1 e2 A a n (pp h2.nq) gk rt i cm pc gt dc ok)) := Abp h3 b _ 7 _ (by simp [rnL]) (Acs _)
 generalize h3.setR b (rnL 3 e0 e1 e2 A a n (pp h2.nq) gk rt i cm pc gt dc ok) = h4 at s4 r4 m4 rk4 w4
 have sF : Aad h h4 (fun j => j = b \/ cl bm um j) := (((s1.mono (T := fun j => j = b \/ cl bm um j) (fun j e => .inr (.inl e))).trans s2 (fun j _ e => .inl e)).trans s3 (fun _ _ e => e.elim)).trans s4 (fun j _ e => .inl e)
 have key : Aah P 42 [(pp b), (pp bm)] h fun v k => k = h4 := by
  refine Aaa hT HR.rncrown rfl ?_
  have q0 := r.rd
  have qa : h.rd b 0 = some (I 2) := by rw [q0]; rfl
  have qb : h.rd b 4 = some (I A) := by rw [q0]; rfl
  have qc : h2.rd b 5 = some (I a) := by rw [r2.rd]; rfl
  simp only [SV, SS, seval, af42, qa, qb, w0]
  refine ⟨_, _, F1', ?_⟩
  simp only [SV, SS, seval]
  refine ⟨_, _, F2', ?_⟩
  simp only [SV, SS, seval, w1, qc]
  refine ⟨_, _, F3, ?_⟩
  simp only [SV, SS, seval, w3, w4]
  rw [Aab h _ sF.mq]
 obtain ⟨_, _, F', e⟩ := key
 rw [e] at F'
 exact ⟨h4, h2.nq, Abw hT HR r (.inl rfl) F' sF.mq r4, by omega, r4, ⟨rk4, Adh.nil _ _, by simp, Acs _⟩, m4, sF⟩
theorem Ale {h h' : Aac} {b km bm : Nat} {A : Int} {S : Nat -> Prop} (r : Rcd h b (rnL 3 e0 e1 e2 A tg n (pp km) gk rt i cm pc gt dc ok)) (F : Aa3 P 66 [(pp km), (pp bm)] h (.bool false) h') (s : Aad h h' S) (hb : ¬ S b) :
  Aa3 P 17 [(pp b), (pp bm)] h (.bool false) h' := by
 have key : Aah P 42 [(pp b), (pp bm)] h fun v k => k = h' := by
  refine Aaa hT HR.rncrown rfl ?_
  have r := r
  simp only [rnL] at r
  have q0 := r.rd
  simp only [SV, SS, seval, af42, q0]
  refine ⟨_, _, F, ?_⟩
  simp only [SV, SS, seval]
  rw [Aab h _ s.mq]
 obtain ⟨_, _, F', e⟩ := key
 rw [e] at F'
 exact Abw hT HR r (.inr (.inl rfl)) F' s.mq (r.same s hb)
include HS in
theorem Ai0 {h h' : Aac} {b km bm : Nat} {A sm x y : Int} {rdv lv : Value} {S : Nat -> Prop} {u : Option Nat} (r : Rcd h b (rnL 3 e0 e1 e2 A tg n (pp km) gk rt i cm pc gt dc ok)) (F : Aa3 P 66 [(pp km), (pp bm)] h (.bool true) h') (s : Aad h h' S) (hb : ¬ S b) (ma : Afi h' km 6 x y sm rdv lv [] u) :
  Aa3 P 17 [(pp b), (pp bm)] h (.bool false) (h'.setR b (rnL 4 e0 e1 e2 A tg sm (pp km) gk rt i cm pc gt dc ok)) := by
 have r1 := r.same s hb
 have sm' : (h'.setR b (rnL 4 e0 e1 e2 A tg sm (pp km) gk rt i cm pc gt dc ok)).mq = h.mq := s.mq
 have key : Aah P 42 [(pp b), (pp bm)] h fun v k => k = h'.setR b (rnL 4 e0 e1 e2 A tg sm (pp km) gk rt i cm pc gt dc ok) := by
  refine Aaa hT HR.rncrown rfl ?_
  obtain ⟨_, _, F2, ea, eb⟩ := Axg hT HS ma.rc
  rw [eb, ea] at F2
  have r := r
  have r1 := r1
  have sm' := sm'
  simp only [rnL] at r r1 sm'
  have q0 := r.rd
  have q1 := r1.rd
  have w1 := r1.wr
  simp only [SV, SS, seval, af42, q0]
  refine ⟨_, _, F, ?_⟩
  simp only [SV, SS, seval, q1]
  refine ⟨_, _, F2, ?_⟩
  simp only [SV, SS, seval, w1, Abp]
  rw [Aab h _ sm']
  exact rfl
 obtain ⟨_, _, F', e⟩ := key
 rw [e] at F'
 exact Abw hT HR r (.inr (.inl rfl)) F' sm' (Rcd.set _ r1.lt)
include V9 HM in
theorem Ast {h : Aac} {b bm A : Nat} {um : Option Nat} {m : PM} {nn : Int} (r : Rcd h b (rnL 4 e0 e1 e2 A tg nn mk gk rt i cm pc gt dc ok)) (mm : Aa8 h bm um m) (f : m.fine) (hb : ¬ cl bm um b) (hA : A <= 65536) (hw : m.get ((A : Int) + 3) = 0) (hn : nn ≠ 1) :
  ∃ h', Aa3 P 17 [(pp b), (pp bm)] h (.bool false) h' /\ Rcd h' b (rnL 6 e0 e1 e2 A tg nn mk gk rt i cm pc gt dc ok) /\ Aa8 h' bm um (m.tick ((A : Int) + 3)) /\ Aad h h' (fun j => j = b \/ cl bm um j) := by
 have w0 : Aan .i64 ((A : Int) + 3) = (A : Int) + 3 := by rw [Aav] <;> omega
 obtain ⟨_, h1, F1, rfl, m1, s1⟩ := Abm hT V9 HM mm f ((A : Int) + 3) (by omega)
 have F1' : Aa3 P 64 [(pp bm), I ((A : Int) + 3)] h (I 0) h1 := by rw [<- hw]; exact F1
 have m1 : Aa8 h1 bm um (m.tick ((A : Int) + 3)) := m1
 have r1 := r.same s1 (fun e => hb (.inl e))
 have s2 : Aad h1 (h1.setR b (rnL 6 e0 e1 e2 A tg nn mk gk rt i cm pc gt dc ok)) (· = b) := Aad.setR rfl
 have r2 : Rcd (h1.setR b (rnL 6 e0 e1 e2 A tg nn mk gk rt i cm pc gt dc ok)) b (rnL 6 e0 e1 e2 A tg nn mk gk rt i cm pc gt dc ok) := Rcd.set _ r1.lt
 have m2 := m1.same s2 (fun j hj e => hb (e ▸ hj))
 have sF : Aad h (h1.setR b (rnL 6 e0 e1 e2 A tg nn mk gk rt i cm pc gt dc ok)) (fun j => j = b \/ cl bm um j) := (s1.mono (T := fun j => j = b \/ cl bm um j) (fun j e => .inr (.inl e))).trans s2 (fun j _ e => .inl e)
 have w1 : h1.wrs b 0 [I 6] = some (h1.setR b (rnL 6 e0 e1 e2 A tg nn mk gk rt i cm pc gt dc ok)) := r1.wr 0 (I 6) (by simp [rnL]) (Aat _ _)
 generalize h1.setR b (rnL 6 e0 e1 e2 A tg nn mk gk rt i cm pc gt dc ok) = h2 at s2 r2 m2 sF w1
 have key : Aah P 42 [(pp b), (pp bm)] h fun v k => k = h2 := by
  refine Aaa hT HR.rncrown rfl ?_
  have qa : h.rd b 0 = some (I 4) := by rw [r.rd]; rfl
  have qb : h.rd b 4 = some (I A) := by rw [r.rd]; rfl
  have qc : h1.rd b 6 = some (I nn) := by rw [r1.rd]; rfl
  have z1 : (nn == 1) = false := by rw [beq_eq_false_iff_ne]; exact hn
  simp only [SV, SS, seval, af42, qa, qb, w0]
  refine ⟨_, _, F1', ?_⟩
  simp only [SV, SS, seval, qc, z1, w1]
  rw [Aab h _ sF.mq]
 obtain ⟨_, _, F', e⟩ := key
 rw [e] at F'
 exact ⟨h2, Abw hT HR r (.inr (.inr (.inl rfl))) F' sF.mq r2, r2, m2, sF⟩
include V9 HM in
theorem At3 {h : Aac} {b bm A : Nat} {um : Option Nat} {m : PM} {x : Int} (r : Rcd h b (rnL 7 e0 e1 e2 A tg n mk gk x i cm pc gt dc ok)) (mm : Aa8 h bm um m) (f : m.fine) (hb : ¬ cl bm um b) (hA : A <= 65536) :
  ∃ h', Aa3 P 17 [(pp b), (pp bm)] h (.bool false) h' /\ Rcd h' b (rnL 8 e0 e1 e2 A tg n mk gk x i cm pc gt dc ok) /\ Aa8 h' bm um (m.cas ((A : Int) + 3) 0 x).2 /\ Aad h h' (fun j => j = b \/ cl bm um j) := by
 have w0 : Aan .i64 ((A : Int) + 3) = (A : Int) + 3 := by rw [Aav] <;> omega
 obtain ⟨_, h1, F1, rfl, m1, s1⟩ := Ag3 hT V9 HM mm f ((A : Int) + 3) 0 x (by omega)
 have r1 := r.same s1 hb
 have s2 : Aad h1 (h1.setR b (rnL 8 e0 e1 e2 A tg n mk gk x i cm pc gt dc ok)) (· = b) := Aad.setR rfl
 have r2 : Rcd (h1.setR b (rnL 8 e0 e1 e2 A tg n mk gk x i cm pc gt dc ok)) b (rnL 8 e0 e1 e2 A tg n mk gk x i cm pc gt dc ok) := Rcd.set _ r1.lt
 have m2 := m1.same s2 (fun j hj e => hb (e ▸ hj))
 have sF : Aad h (h1.setR b (rnL 8 e0 e1 e2 A tg n mk gk x i cm pc gt dc ok)) (fun j => j = b \/ cl bm um j) := (s1.mono (T := fun j => j = b \/ cl bm um j) (fun j e => .inr e)).trans s2 (fun j _ e => .inl e)
 have w1 : h1.wrs b 0 [I 8] = some (h1.setR b (rnL 8 e0 e1 e2 A tg n mk gk x i cm pc gt dc ok)) := r1.wr 0 (I 8) (by simp [rnL]) (Aat _ _)
 generalize h1.setR b (rnL 8 e0 e1 e2 A tg n mk gk x i cm pc gt dc ok) = h2 at s2 r2 m2 sF w1
 have key : Aah P 42 [(pp b), (pp bm)] h fun v k => k = h2 := by
  refine Aaa hT HR.rncrown rfl ?_
  have qa : h.rd b 0 = some (I 7) := by rw [r.rd]; rfl
  have qb : h.rd b 4 = some (I A) := by rw [r.rd]; rfl
  have qc : h.rd b 9 = some (I x) := by rw [r.rd]; rfl
  obtain ⟨CF, hcf, g1⟩ := Ajb F1
  simp only [SV, SS, seval, af42, qa]
  refine ⟨CF, hcf, ?_⟩
  simp only [SV, SS, seval, qb, w0, qc, g1, w1]
  rw [Aab h _ sF.mq]
 obtain ⟨_, _, F', e⟩ := key
 rw [e] at F'
 exact ⟨h2, Abw hT HR r (.inr (.inr (.inr (.inr (.inr (.inl rfl)))))) F' sF.mq r2, r2, m2, sF⟩
include V9 HM in
theorem A1s {h : Aac} {b bm A : Nat} {um : Option Nat} {m : PM} {x nn : Int} (r : Rcd h b (rnL 8 e0 e1 e2 A tg nn mk gk rt i cm pc gt dc ok)) (mm : Aa8 h bm um m) (f : m.fine) (hb : ¬ cl bm um b) (hA : A <= 65536) (hw : m.get ((A : Int) + 3) = x) (hn : 2 <= nn) :
  ∃ h', Aa3 P 17 [(pp b), (pp bm)] h (.bool false) h' /\ Rcd h' b (rnL 9 e0 e1 e2 A tg nn mk gk x i cm pc gt dc ok) /\ Aa8 h' bm um (m.tick ((A : Int) + 3)) /\ Aad h h' (fun j => j = b \/ cl bm um j) := by
 have w0 : Aan .i64 ((A : Int) + 3) = (A : Int) + 3 := by rw [Aav] <;> omega
 obtain ⟨_, h1, F1, rfl, m1, s1⟩ := Abm hT V9 HM mm f ((A : Int) + 3) (by omega)
 have F1' : Aa3 P 64 [(pp bm), I ((A : Int) + 3)] h (I x) h1 := by rw [<- hw]; exact F1
 have m1 : Aa8 h1 bm um (m.tick ((A : Int) + 3)) := m1
 have r1 := r.same s1 (fun e => hb (.inl e))
 obtain ⟨v2, h2, F2, ee⟩ := Ah8 hT HR r1 x
 rw [if_pos hn] at ee
 have s2 : Aad h1 h2 (· = b) := by rw [ee]; exact Aad.setR rfl
 have r2 : Rcd h2 b (rnL 9 e0 e1 e2 A tg nn mk gk x i cm pc gt dc ok) := by rw [ee]; exact Rcd.set _ r1.lt
 clear ee
 have m2 := m1.same s2 (fun j hj e => hb (e ▸ hj))
 have sF : Aad h h2 (fun j => j = b \/ cl bm um j) := (s1.mono (T := fun j => j = b \/ cl bm um j) (fun j e => .inr (.inl e))).trans s2 (fun j _ e => .inl e)
 have key : Aah P 42 [(pp b), (pp bm)] h fun v k => k = h2 := by
  refine Aaa hT HR.rncrown rfl ?_
  have qa : h.rd b 0 = some (I 8) := by rw [r.rd]; rfl
  have qb : h.rd b 4 = some (I A) := by rw [r.rd]; rfl
  simp only [SV, SS, seval, af42, qa, qb, w0]
  refine ⟨_, _, F1', ?_⟩
  simp only [SV, SS, seval]
  refine ⟨_, _, F2, ?_⟩
  simp only [SV, SS, seval]
  rw [Aab h _ sF.mq]
 obtain ⟨_, _, F', e⟩ := key
 rw [e] at F'
 exact ⟨h2, Abw hT HR r (.inr (.inr (.inr (.inr (.inr (.inr rfl)))))) F' sF.mq r2, r2, m2, sF⟩
end
section
variable (hT : Aa0 P tab) (HR : Aem tab) (HP : Aid tab) (Nu : Num P) (HG : Aep tab) (HS : Afx tab) (V : Aea tab) (H : Has tab) (V9 : Acg tab) (HM : Agf tab)
include hT HR
variable {e0 e1 e2 gt : Int} {mk gk pc dc : Value} {cm ok : Bool}
include Nu HP HG V H V9 HM in
theorem Anu {h : Aac} {b bm A a n tg i : Nat} {um : Option Nat} {m : PM} {i0 : Int} (r : Rcd h b (rnL 9 e0 e1 e2 A tg n mk gk ((a : Int) * 8 + 3) i0 cm pc gt dc ok)) (mm : Aa8 h bm um m) (f : m.fine) (hb : ¬ cl bm um b) (hA : A <= 65536) (a1 : 1 <= a) (a2 : a <= 65536) (n2 : 2 <= n) (n120 : n <= 120) (hw : m.get ((A : Int) + 4) = i) (hi : i < Aar n) :
  ∃ h' g, Aa3 P 17 [(pp b), (pp bm)] h (.bool false) h' /\ h.nq <= g /\ Rcd h' b (rnL 10 e0 e1 e2 A tg n mk gk ((a : Int) * 8 + 3) i true (pp (g + 1)) gt dc ok) /\ Rcd h' (g + 1) (pcL 0 a (Aar n) i (pp g) (.pointer none) 0 0 false) /\ Adp h' g 0 ⟨tg, 0, 0, 0, Aa1 n i, Aa1 n i + Abs n i⟩ (.pointer none) 0 0 (.slice none 0 0) [] none [] none /\ Aa8 h' bm um (m.add ((A : Int) + 4) 1).2 /\ Aad h h' (fun j => j = b \/ cl bm um j) := by
 have hml := mm.lt
 have w0 : Aan .i64 ((A : Int) + 4) = (A : Int) + 4 := by rw [Aav] <;> omega
 obtain ⟨_, h1, F1, rfl, m1, s1⟩ := Ao5 hT V9 HM mm f ((A : Int) + 4) 1 (by omega)
 have e1' : (m.add ((A : Int) + 4) 1).1 = i := hw
 rw [e1'] at F1
 have r1 := r.same s1 hb
 have x1 := s1.nq
 obtain ⟨_, _, F2, rfl, eb⟩ := Ahs hT HR Nu r1 n120
 rw [eb] at F2
 have w1 := r1.wr 10 (I i) (by simp [rnL]) (Aat _ _)
 have w2 : (h1.setR b ((rnL 9 e0 e1 e2 A tg n mk gk ((a : Int) * 8 + 3) i0 cm pc gt dc ok).set 10 (I i))).wrs b 11 [.bool true] = some (h1.setR b (rnL 9 e0 e1 e2 A tg n mk gk ((a : Int) * 8 + 3) i true pc gt dc ok)) := Abp h1 b _ 11 (.bool true) (by simp [rnL]) (Aih _)
 have s2 : Aad h1 (h1.setR b (rnL 9 e0 e1 e2 A tg n mk gk ((a : Int) * 8 + 3) i true pc gt dc ok)) (· = b) := Aad.setR rfl
 have r2 : Rcd (h1.setR b (rnL 9 e0 e1 e2 A tg n mk gk ((a : Int) * 8 + 3) i true pc gt dc ok)) b (rnL 9 e0 e1 e2 A tg n mk gk ((a : Int) * 8 + 3) i true pc gt dc ok) := Rcd.set _ r1.lt
 have m2 := m1.same s2 (fun j hj e => hb (e ▸ hj))
 have x2 : (h1.setR b (rnL 9 e0 e1 e2 A tg n mk gk ((a : Int) * 8 + 3) i true pc gt dc ok)).nq = h1.nq := rfl
 generalize h1.setR b (rnL 9 e0 e1 e2 A tg n mk gk ((a : Int) * 8 + 3) i true pc gt dc ok) = h2 at w2 s2 r2 m2 x2
 obtain ⟨v3, h3, F3, g, r3, hg, rp3, g3, s3⟩ := Ap5 hT HR HP Nu HG V H r2 a1 a2 n2 n120 hi
 have m3 := m2.same s3 (fun j hj e => hb (e ▸ hj))
 have sF : Aad h h3 (fun j => j = b \/ cl bm um j) := ((s1.mono (T := fun j => j = b \/ cl bm um j) (fun j e => .inr e)).trans s2 (fun j _ e => .inl e)).trans s3 (fun j _ e => .inl e)
 have key : Aah P 43 [(pp b), (pp bm)] h fun v k => k = h3 := by
  refine Aaa hT HR.rnfill rfl ?_
  have qa : h.rd b 0 = some (I 9) := by rw [r.rd]; rfl
  have qb : h.rd b 4 = some (I A) := by rw [r.rd]; rfl
  have c1 : ((i : Int) >= Aar n) = False := by simp; omega
  simp only [SV, SS, seval, af43, qa, qb, w0]
  refine ⟨_, _, F1, ?_⟩
  simp only [SV, SS, seval]
  refine ⟨_, _, F2, ?_⟩
  simp only [SV, SS, seval, c1, w1, w2]
  refine ⟨_, _, F3, ?_⟩
  simp only [SV, SS, seval]
  rw [Aab h _ sF.mq]
 obtain ⟨_, _, F', e⟩ := key
 rw [e] at F'
 exact ⟨h3, g, Afe hT HR r (.inl rfl) F' sF.mq r3, by omega, r3, rp3, g3, m3, sF⟩
include Nu V9 HM in
theorem Arf {h : Aac} {b bm A n : Nat} {um : Option Nat} {m : PM} {i0 tg rt x : Int} (r : Rcd h b (rnL 9 e0 e1 e2 A tg n mk gk rt i0 cm pc gt dc ok)) (mm : Aa8 h bm um m) (f : m.fine) (hb : ¬ cl bm um b) (hA : A <= 65536) (n2 : 2 <= n) (n120 : n <= 120) (hw : m.get ((A : Int) + 4) = x) (hi : (Aar n : Int) <= x) :
  ∃ h', Aa3 P 17 [(pp b), (pp bm)] h (.bool false) h' /\ Rcd h' b (rnL 11 e0 e1 e2 A tg n mk gk rt 0 false pc gt dc ok) /\ Aa8 h' bm um (m.add ((A : Int) + 4) 1).2 /\ Aad h h' (fun j => j = b \/ cl bm um j) := by
 have pn := Ac7 n2 n120
 have d2 := pn.deg2
 have w0 : Aan .i64 ((A : Int) + 4) = (A : Int) + 4 := by rw [Aav] <;> omega
 obtain ⟨_, h1, F1, rfl, m1, s1⟩ := Ao5 hT V9 HM mm f ((A : Int) + 4) 1 (by omega)
 have e1' : (m.add ((A : Int) + 4) 1).1 = x := hw
 rw [e1'] at F1
 have r1 := r.same s1 hb
 obtain ⟨_, _, F2, rfl, eb⟩ := Ahs hT HR Nu r1 n120
 rw [eb] at F2
 obtain ⟨v3, h3, F3, ee⟩ := Akv hT HR Nu (x := 0) r1 n120
 rw [if_neg (by omega)] at ee
 have s3 : Aad h1 h3 (· = b) := by rw [ee]; exact Aad.setR rfl
 have r3 : Rcd h3 b (rnL 11 e0 e1 e2 A tg n mk gk rt 0 false pc gt dc ok) := by rw [ee]; exact Rcd.set _ r1.lt
 clear ee
 have F3' : Aa3 P 75 [(pp b), I 0] h1 v3 h3 := F3
 have m3 := m1.same s3 (fun j hj e => hb (e ▸ hj))
 have sF : Aad h h3 (fun j => j = b \/ cl bm um j) := (s1.mono (T := fun j => j = b \/ cl bm um j) (fun j e => .inr e)).trans s3 (fun j _ e => .inl e)
 have key : Aah P 43 [(pp b), (pp bm)] h fun v k => k = h3 := by
  refine Aaa hT HR.rnfill rfl ?_
  have qa : h.rd b 0 = some (I 9) := by rw [r.rd]; rfl
  have qb : h.rd b 4 = some (I A) := by rw [r.rd]; rfl
  have c1 : (x >= (Aar n : Int)) = True := by simp; omega
  simp only [SV, SS, seval, af43, qa, qb, w0]
  refine ⟨_, _, F1, ?_⟩
  simp only [SV, SS, seval]
  refine ⟨_, _, F2, ?_⟩
  simp only [SV, SS, seval, c1]
  refine ⟨_, _, F3', ?_⟩
  simp only [SV, SS, seval]
  rw [Aab h _ sF.mq]
 obtain ⟨_, _, F', e⟩ := key
 rw [e] at F'
 exact ⟨h3, Afe hT HR r (.inl rfl) F' sF.mq r3, r3, m3, sF⟩
variable {A tg n rt i : Int}
theorem Arl {h h' : Aac} {b bp bm : Nat} {S : Nat -> Prop} (r : Rcd h b (rnL 10 e0 e1 e2 A tg n mk gk rt i cm (pp bp) gt dc ok)) (F : Aa3 P 77 [(pp bp), (pp bm)] h (.bool false) h') (s : Aad h h' S) (hb : ¬ S b) :
  Aa3 P 17 [(pp b), (pp bm)] h (.bool false) h' := by
 have key : Aah P 43 [(pp b), (pp bm)] h fun v k => k = h' := by
  refine Aaa hT HR.rnfill rfl ?_
  have r := r
  simp only [rnL] at r
  have q0 := r.rd
  simp only [SV, SS, seval, af43, q0]
  refine ⟨_, _, F, ?_⟩
  simp only [SV, SS, seval]
  rw [Aab h _ s.mq]
 obtain ⟨_, _, F', e⟩ := key
 rw [e] at F'
 exact Afe hT HR r (.inr (.inl rfl)) F' s.mq (r.same s hb)
theorem An3 {h h' : Aac} {b bp bm : Nat} {S : Nat -> Prop} {p1 p2 p3 p6 p7 : Int} {gp gw : Value} (r : Rcd h b (rnL 10 e0 e1 e2 A tg n mk gk rt i true (pp bp) gt dc ok)) (F : Aa3 P 77 [(pp bp), (pp bm)] h (.bool true) h') (s : Aad h h' S) (hb : ¬ S b) (rp : Rcd h' bp (pcL 4 p1 p2 p3 gp gw p6 p7 false)) :
  Aa3 P 17 [(pp b), (pp bm)] h (.bool false) (h'.setR b (rnL 9 e0 e1 e2 A tg n mk gk rt i true (pp bp) gt dc ok)) := by
 have r1 := r.same s hb
 have sm' : (h'.setR b (rnL 9 e0 e1 e2 A tg n mk gk rt i true (pp bp) gt dc ok)).mq = h.mq := s.mq
 have key : Aah P 43 [(pp b), (pp bm)] h fun v k => k = h'.setR b (rnL 9 e0 e1 e2 A tg n mk gk rt i true (pp bp) gt dc ok) := by
  refine Aaa hT HR.rnfill rfl ?_
  have r := r
  have r1 := r1
  have sm' := sm'
  simp only [rnL] at r r1 sm'
  have q0 := r.rd
  have q1 := r1.rd
  have w1 := r1.wr
  have q8 : h'.rd bp 8 = some (.bool false) := by rw [rp.rd]; rfl
  simp only [SV, SS, seval, af43, q0]
  refine ⟨_, _, F, ?_⟩
  simp only [SV, SS, seval, q1, q8, w1]
  rw [Aab h _ sm']
  exact rfl
 obtain ⟨_, _, F', e⟩ := key
 rw [e] at F'
 exact Afe hT HR r (.inr (.inl rfl)) F' sm' (Rcd.set _ r1.lt)
end
section
variable (hT : Aa0 P tab) (HR : Aem tab) (Nu : Num P) (HS : Afx tab) (V : Aea tab) (H : Has tab) (V9 : Acg tab) (HM : Agf tab)
include hT HR
variable {e0 e1 e2 gt : Int} {mk gk pc dc : Value} {cm ok : Bool}
include Nu V H V9 HM in
theorem Ati {h : Aac} {b bm a n i : Nat} {A tg x : Int} {um : Option Nat} {m : PM} (r : Rcd h b (rnL 11 e0 e1 e2 A tg n mk gk ((a : Int) * 8 + 3) i cm pc gt dc ok)) (mm : Aa8 h bm um m) (f : m.fine) (hb : ¬ cl bm um b) (a1 : 1 <= a) (a2 : a <= 65536) (n2 : 2 <= n) (n120 : n <= 120) (hi : i < Aar n) (hw : m.get ((a + 4 + Aar n + i : Nat) : Int) = x) (hx : x ≠ 0) :
  ∃ h', Aa3 P 17 [(pp b), (pp bm)] h (.bool false) h' /\ Rcd h' b (rnL (if Aar n <= i + 1 then 12 else 11) e0 e1 e2 A tg n mk gk ((a : Int) * 8 + 3) (i + 1 : Nat) false pc gt dc ok) /\ Aa8 h' bm um (m.tick ((a + 4 + Aar n + i : Nat) : Int)) /\ Aad h h' (fun j => j = b \/ cl bm um j) := by
 have pn := Ac7 n2 n120
 have d11 := pn.deg11
 have wi : Aan .i64 ((i : Int) + 1) = ((i + 1 : Nat) : Int) := by rw [Aav] <;> omega
 obtain ⟨_, h1, F1, rfl, s1⟩ := Ase hT HR Nu V H r a1 a2 n120 (by omega) (by omega)
 have r1 := r.same s1 (fun x => x)
 have m1 := mm.same s1 (fun _ _ x => x)
 have hlt : a + 4 + Aar n + i <= 100000 := by omega
 obtain ⟨_, h2, F2, rfl, m2, s2⟩ := Abm hT V9 HM m1 f ((a + 4 + Aar n + i : Nat) : Int) (by omega)
 have F2' : Aa3 P 64 [(pp bm), I ((a + 4 + Aar n + i : Nat) : Int)] h1 (I x) h2 := by rw [<- hw]; exact F2
 have m2 : Aa8 h2 bm um (m.tick ((a + 4 + Aar n + i : Nat) : Int)) := m2
 have r2 := r1.same s2 (fun e => hb (.inl e))
 obtain ⟨v3, h3, F3, ee⟩ := Akv hT HR Nu (x := i + 1) r2 n120
 have s3 : Aad h2 h3 (· = b) := by rw [ee]; exact Aad.setR rfl
 have r3 : Rcd h3 b (rnL (if Aar n <= i + 1 then 12 else 11) e0 e1 e2 A tg n mk gk ((a : Int) * 8 + 3) (i + 1 : Nat) false pc gt dc ok) := by rw [ee]; exact Rcd.set _ r2.lt
 clear ee
 have m3 := m2.same s3 (fun j hj e => hb (e ▸ hj))
 have sF : Aad h h3 (fun j => j = b \/ cl bm um j) := ((s1.mono (T := fun j => j = b \/ cl bm um j) (fun j e => e.elim)).trans s2 (fun j _ e => .inr (.inl e))).trans s3 (fun j _ e => .inl e)
 have key : Aah P 43 [(pp b), (pp bm)] h fun v k => k = h3 := by
  refine Aaa hT HR.rnfill rfl ?_
  have qa : h.rd b 0 = some (I 11) := by rw [r.rd]; rfl
  have qi : h2.rd b 10 = some (I i) := by rw [r2.rd]; rfl
  have z0 : (x == 0) = false := by rw [beq_eq_false_iff_ne]; exact hx
  simp only [SV, SS, seval, af43, qa]
  refine ⟨_, _, F1, ?_⟩
  simp only [SV, SS, seval]
  refine ⟨_, _, F2', ?_⟩
  simp only [SV, SS, seval, z0, qi, wi]
  refine ⟨_, _, F3, ?_⟩
  simp only [SV, SS, seval]
  rw [Aab h _ sF.mq]
 obtain ⟨_, _, F', e⟩ := key
 rw [e] at F'
 have Fs := Afe hT HR r (.inr (.inr rfl)) F' sF.mq r3
 have z : ((if Aar n <= i + 1 then 12 else 11 : Int) == 15) = false := by split <;> rfl
 rw [z] at Fs
 exact ⟨h3, Fs, r3, m3, sF⟩
variable {A : Nat} {tg n rt i : Int}
include V9 HM in
theorem Azl {h : Aac} {b bm : Nat} {um : Option Nat} {m : PM} {x : Int} (r : Rcd h b (rnL 12 e0 e1 e2 A tg n mk gk rt i cm pc gt dc ok)) (mm : Aa8 h bm um m) (f : m.fine) (hb : ¬ cl bm um b) (hA : A <= 65536) (hw : m.get ((A : Int) + 1) = x) :
  ∃ h', Aa3 P 17 [(pp b), (pp bm)] h (.bool false) h' /\ Rcd h' b (rnL 13 e0 e1 e2 A tg n mk gk rt i cm pc x dc ok) /\ Aa8 h' bm um (m.tick ((A : Int) + 1)) /\ Aad h h' (fun j => j = b \/ cl bm um j) := by
 have w0 : Aan .i64 ((A : Int) + 1) = (A : Int) + 1 := by rw [Aav] <;> omega
 obtain ⟨_, h1, F1, rfl, m1, s1⟩ := Abm hT V9 HM mm f ((A : Int) + 1) (by omega)
 have F1' : Aa3 P 64 [(pp bm), I ((A : Int) + 1)] h (I x) h1 := by rw [<- hw]; exact F1
 have m1 : Aa8 h1 bm um (m.tick ((A : Int) + 1)) := m1
 have r1 := r.same s1 (fun e => hb (.inl e))
 have s2 : Aad h1 (h1.setR b (rnL 13 e0 e1 e2 A tg n mk gk rt i cm pc x dc ok)) (· = b) := Aad.setR rfl
 have r2 : Rcd (h1.setR b (rnL 13 e0 e1 e2 A tg n mk gk rt i cm pc x dc ok)) b (rnL 13 e0 e1 e2 A tg n mk gk rt i cm pc x dc ok) := Rcd.set _ r1.lt
 have m2 := m1.same s2 (fun j hj e => hb (e ▸ hj))
 have sF : Aad h (h1.setR b (rnL 13 e0 e1 e2 A tg n mk gk rt i cm pc x dc ok)) (fun j => j = b \/ cl bm um j) := (s1.mono (T := fun j => j = b \/ cl bm um j) (fun j e => .inr (.inl e))).trans s2 (fun j _ e => .inl e)
 have w1 := r1.wr 13 (I x) (by simp [rnL]) (Aat _ _)
 have w2 : (h1.setR b ((rnL 12 e0 e1 e2 A tg n mk gk rt i cm pc gt dc ok).set 13 (I x))).wrs b 0 [I 13] = some (h1.setR b (rnL 13 e0 e1 e2 A tg n mk gk rt i cm pc x dc ok)) := Abp h1 b _ 0 (I 13) (by simp [rnL]) (Aat _ _)
 generalize h1.setR b (rnL 13 e0 e1 e2 A tg n mk gk rt i cm pc x dc ok) = h2 at s2 r2 m2 sF w2
 have key : Aah P 44 [(pp b), (pp bm)] h fun v k => k = h2 := by
  refine Aaa hT HR.rnswing rfl ?_
  have qa : h.rd b 0 = some (I 12) := by rw [r.rd]; rfl
  have qb : h.rd b 4 = some (I A) := by rw [r.rd]; rfl
  simp only [SV, SS, seval, af44, qa, qb, w0]
  refine ⟨_, _, F1', ?_⟩
  simp only [SV, SS, seval, w1, w2]
  rw [Aab h _ sF.mq]
 obtain ⟨_, _, F', e⟩ := key
 rw [e] at F'
 exact ⟨h2, Afk hT HR r (.inl rfl) F' sF.mq r2, r2, m2, sF⟩
theorem Ap7 {h h' : Aac} {b bd bm : Nat} {S : Nat -> Prop} (r : Rcd h b (rnL 14 e0 e1 e2 A tg n mk gk rt i cm pc gt (pp bd) ok)) (F : Aa3 P 62 [(pp bd), (pp bm)] h (.bool false) h') (s : Aad h h' S) (hb : ¬ S b) :
  Aa3 P 17 [(pp b), (pp bm)] h (.bool false) h' := by
 have key : Aah P 44 [(pp b), (pp bm)] h fun v k => k = h' := by
  refine Aaa hT HR.rnswing rfl ?_
  have r := r
  simp only [rnL] at r
  have q0 := r.rd
  simp only [SV, SS, seval, af44, q0]
  refine ⟨_, _, F, ?_⟩
  simp only [SV, SS, seval]
  rw [Aab h _ s.mq]
 obtain ⟨_, _, F', e⟩ := key
 rw [e] at F'
 exact Afk hT HR r (.inr (.inr rfl)) F' s.mq (r.same s hb)
include HS in
theorem Ami {h h' : Aac} {b bd bm : Nat} {S : Nat -> Prop} {g p o nn rr ss : Int} (r : Rcd h b (rnL 14 e0 e1 e2 A tg n mk gk rt i cm pc gt (pp bd) ok)) (F : Aa3 P 62 [(pp bd), (pp bm)] h (.bool true) h') (s : Aad h h' S) (hb : ¬ S b) (rd : Rcd h' bd (dcL 6 g p o nn rr ss 1)) :
  Aa3 P 17 [(pp b), (pp bm)] h (.bool true) (h'.setR b (rnL 15 e0 e1 e2 A tg n mk gk rt i cm pc gt (pp bd) true)) := by
 have r1 := r.same s hb
 have sm' : (h'.setR b (rnL 15 e0 e1 e2 A tg n mk gk rt i cm pc gt (pp bd) true)).mq = h.mq := s.mq
 have key : Aah P 44 [(pp b), (pp bm)] h fun v k => k = h'.setR b (rnL 15 e0 e1 e2 A tg n mk gk rt i cm pc gt (pp bd) true) := by
  refine Aaa hT HR.rnswing rfl ?_
  obtain ⟨_, _, F2, ea, eb⟩ := Ap3 hT HS rd
  rw [eb, ea] at F2
  obtain ⟨v3, _, F3, ec⟩ := Auy hT HR r1 true
  rw [ec] at F3
  have q0 : h.rd b 0 = some (I 14) := by rw [r.rd]; rfl
  have q14 : h.rd b 14 = some (pp bd) := by rw [r.rd]; rfl
  have q15 : h'.rd b 14 = some (pp bd) := by rw [r1.rd]; rfl
  simp only [SV, SS, seval, af44, q0, q14]
  refine ⟨_, _, F, ?_⟩
  simp only [SV, SS, seval, q15]
  refine ⟨_, _, F2, ?_⟩
  simp only [SV, SS, seval]
  refine ⟨_, _, F3, ?_⟩
  simp only [SV, SS, seval]
  rw [Aab h _ sm']
 obtain ⟨_, _, F', e⟩ := key
 rw [e] at F'
 exact Afk hT HR r (.inr (.inr rfl)) F' sm' (Rcd.set _ r1.lt)
end
section
variable (hT : Aa0 P tab) (HR : Aem tab) (HS : Afx tab) (H : Has tab) (V9 : Acg tab) (HM : Agf tab)
include hT HR HS H V9 HM
variable {e0 e1 e2 gt tg n rt i : Int} {mk gk pc dc : Value} {cm ok : Bool} {A : Nat}
theorem Azd {h : Aac} {b bm : Nat} {um : Option Nat} {m : PM} {x : Int} (r : Rcd h b (rnL 13 e0 e1 e2 A tg n mk gk rt i cm pc gt dc ok)) (mm : Aa8 h bm um m) (f : m.fine) (hb : ¬ cl bm um b) (a1 : 1 <= A) (hA : A <= 65536) (hw : m.get ((A : Int) + 2) = x) :
  ∃ h' bd, Aa3 P 17 [(pp b), (pp bm)] h (.bool false) h' /\ h.nq <= bd /\ Rcd h' b (rnL 14 e0 e1 e2 A tg n mk gk rt i cm pc gt (pp bd) ok) /\ Rcd h' bd (dcL 0 gt x ((A : Int) * 8 + 4) rt 0 0 0) /\ Aa8 h' bm um (m.tick ((A : Int) + 2)) /\ Aad h h' (fun j => j = b \/ cl bm um j) := by
 have hbl := r.lt
 have w0 : Aan .i64 ((A : Int) + 2) = (A : Int) + 2 := by rw [Aav] <;> omega
 obtain ⟨_, h1, F1, rfl, m1, s1⟩ := Abm hT V9 HM mm f ((A : Int) + 2) (by omega)
 have F1' : Aa3 P 64 [(pp bm), I ((A : Int) + 2)] h (I x) h1 := by rw [<- hw]; exact F1
 have m1 : Aa8 h1 bm um (m.tick ((A : Int) + 2)) := m1
 have r1 := r.same s1 (fun e => hb (.inl e))
 have x1 := s1.nq
 obtain ⟨_, _, F2, rfl, eb⟩ := Aed hT H 4 (A : Int) h1 (by omega) (by omega) (by omega) (by omega)
 rw [eb] at F2
 obtain ⟨_, h3, F3, rfl, e3⟩ := Aqn hT HS h1 gt x ((A : Int) * 8 + 4) rt
 have s3 : Aad h1 h3 (fun _ => False) := by rw [e3]; exact Aad.newR
 have rd3 : Rcd h3 h1.nq (dcL 0 gt x ((A : Int) * 8 + 4) rt 0 0 0) := by rw [e3]; exact Rcd.new _ _
 clear e3
 have r3 := r1.same s3 (fun x => x)
 have m3 := m1.same s3 (fun _ _ x => x)
 have w4 := r3.wr 0 (I 14) (by simp [rnL]) (Aat _ _)
 have w5 : (h3.setR b ((rnL 13 e0 e1 e2 A tg n mk gk rt i cm pc gt dc ok).set 0 (I 14))).wrs b 14 [(pp h1.nq)] = some (h3.setR b (rnL 14 e0 e1 e2 A tg n mk gk rt i cm pc gt (pp h1.nq) ok)) := Abp h3 b _ 14 _ (by simp [rnL]) (Acs _)
 have s5 : Aad h3 (h3.setR b (rnL 14 e0 e1 e2 A tg n mk gk rt i cm pc gt (pp h1.nq) ok)) (· = b) := Aad.setR rfl
 have r5 : Rcd (h3.setR b (rnL 14 e0 e1 e2 A tg n mk gk rt i cm pc gt (pp h1.nq) ok)) b (rnL 14 e0 e1 e2 A tg n mk gk rt i cm pc gt (pp h1.nq) ok) := Rcd.set _ r3.lt
 have m5 := m3.same s5 (fun j hj e => hb (e ▸ hj))
 have rd5 := rd3.same s5 (by omega)
 generalize h3.setR b (rnL 14 e0 e1 e2 A tg n mk gk rt i cm pc gt (pp h1.nq) ok) = h5 at w5 s5 r5 m5 rd5
 have sF : Aad h h5 (fun j => j = b \/ cl bm um j) := ((s1.mono (T := fun j => j = b \/ cl bm um j) (fun j e => .inr (.inl e))).trans s3 (fun _ _ e => e.elim)).trans s5 (fun j _ e => .inl e)
 have key : Aah P 44 [(pp b), (pp bm)] h fun v k => k = h5 := by
  refine Aaa hT HR.rnswing rfl ?_
  obtain ⟨CG, hcg, g2, g3⟩ := Amo F2 F3 (by decide)
  have qa : h.rd b 0 = some (I 13) := by rw [r.rd]; rfl
  have qb : h.rd b 4 = some (I A) := by rw [r.rd]; rfl
  have pb : h1.rd b 4 = some (I A) := by rw [r1.rd]; rfl
  have pr : h1.rd b 9 = some (I rt) := by rw [r1.rd]; rfl
  have pg : h1.rd b 13 = some (I gt) := by rw [r1.rd]; rfl
  let J : Nat -> Aac -> Prop := fun j k => j <= 1 -> k.rd b 4 = some (I A) /\ k.rd b 9 = some (I rt) /\ k.rd b 13 = some (I gt)
  have j0 : J 0 h1 := fun _ => ⟨pb, pr, pg⟩
  have j1 : J 1 h1 := fun _ => ⟨pb, pr, pg⟩
  have j2 : J 2 h3 := fun h => by omega
  have j3 : J 3 (h3.setR b ((rnL 13 e0 e1 e2 A tg n mk gk rt i cm pc gt dc ok).set 0 (I 14))) := fun h => by omega
  have j4 : J 4 h5 := fun h => by omega
  have jb : ∀ j k, 0 <= j -> j <= 1 -> J j k -> k.rd b 4 = some (I A) := fun j k _ hj q => (q hj).1
  have jr : ∀ j k, 0 <= j -> j <= 1 -> J j k -> k.rd b 9 = some (I rt) := fun j k _ hj q => (q hj).2.1
  have jg : ∀ j k, 0 <= j -> j <= 1 -> J j k -> k.rd b 13 = some (I gt) := fun j k _ hj q => (q hj).2.2
  clear_value J
  simp only [SV, SS, seval, af44, qa, qb, w0]
  refine ⟨_, _, F1', ?_⟩
  simp only [SV, SS, seval]
  refine Adz J CG hcg j0 ?_
  simp only [SV, SS, seval, Aiv, w_p, w_r, w_e, Afl, Awg, Ain, Afr, Ad3, pb, pr, pg, g2, g3, Ac4, w4, w5]
  refine ⟨jg, fun j k p q r => jb j k p (by omega) r, j1, jr, j2, j3, j4, ?_⟩
  rw [Aab h _ sF.mq]
 obtain ⟨_, _, F', e⟩ := key
 rw [e] at F'
 exact ⟨h5, h1.nq, Afk hT HR r (.inr (.inl rfl)) F' sF.mq r5, by omega, r5, rd5, m5, sF⟩
end
section
variable (hT : Aa0 P tab) (H : Has tab)
include hT H
theorem Arp {h : Aac} {n : Int} {uk uc : Nat} {K W : List Int} (hk : Abq h uk 0 1 K.length K.length (K.map I)) (hw : Abq h uc 0 1 W.length W.length (W.map I)) (k0 : K ≠ []) (hl : W.length = K.length + 1) (hb : W.length < 1000) :
  Aah P 48 [I n, (.slice (some ⟨uk, 0, none⟩) K.length K.length), (.slice (some ⟨uc, 0, none⟩) W.length W.length)] h fun v h' => ∃ x, h.nq <= x /\ v = .slice (some ⟨x, 0, none⟩) ([(W.length : Int), n, 0, 0, 0] ++ K ++ W).length ([(W.length : Int), n, 0, 0, 0] ++ K ++ W).length /\ Abq h' x 0 1 ([(W.length : Int), n, 0, 0, 0] ++ K ++ W).length ([(W.length : Int), n, 0, 0, 0] ++ K ++ W).length (([(W.length : Int), n, 0, 0, 0] ++ K ++ W).map I) /\ Aad h h' (fun _ => False) := by
 refine Aaa hT H.f72 rfl ?_
 have w1 : Aan .i64 ((K.length : Int) + 1) = W.length := by rw [hl, Aav] <;> omega
 have c1 : ((W.length : Int) != W.length) = false := by simp
 have w0 : W ≠ [] := fun e => by rw [e] at hl; simp at hl
 simp only [SS, seval, af48, w1, c1]
 have r5 : Abq (h.new ⟨[I W.length, I n, I 0, I 0, I 0], 5, 1, true, false⟩) h.nq 0 1 5 5 [I W.length, I n, I 0, I 0, I 0] := Abq.fresh h [I W.length, I n, I 0, I 0, I 0] 5 1 true false rfl
 generalize hk1 : h.new ⟨[I W.length, I n, I 0, I 0, I 0], 5, 1, true, false⟩ = k1 at r5
 have s1 : Aad h k1 (fun _ => False) := hk1 ▸ Aad.new
 have r3 : Abq (k1.new ⟨[.slice (some ⟨h.nq, 0, none⟩) 5 5, (.slice (some ⟨uk, 0, none⟩) K.length K.length), (.slice (some ⟨uc, 0, none⟩) W.length W.length)], 3, 1, true, false⟩) k1.nq 0 1 3 3 [.slice (some ⟨h.nq, 0, none⟩) 5 5, (.slice (some ⟨uk, 0, none⟩) K.length K.length), (.slice (some ⟨uc, 0, none⟩) W.length W.length)] := Abq.fresh k1 _ 3 1 true false rfl
 have s2 : Aad k1 (k1.new ⟨[.slice (some ⟨h.nq, 0, none⟩) 5 5, (.slice (some ⟨uk, 0, none⟩) K.length K.length), (.slice (some ⟨uc, 0, none⟩) W.length W.length)], 3, 1, true, false⟩) (fun _ => False) := Aad.new
 have sA : Aad h (k1.new ⟨[.slice (some ⟨h.nq, 0, none⟩) 5 5, (.slice (some ⟨uk, 0, none⟩) K.length K.length), (.slice (some ⟨uc, 0, none⟩) W.length W.length)], 3, 1, true, false⟩) (fun _ => False) := s1.trans s2 (fun _ _ x => x)
 obtain ⟨v, h3, F, rfl, q2, q3⟩ := Aib hT H (A := [(W.length : Int), n, 0, 0, 0]) (B := K) (C := W) r3 (r5.same s2 (fun x => x)) (hk.same sA (fun x => x)) (hw.same sA (fun x => x)) (by simp) k0 w0 (by simp; omega)
 refine ⟨_, _, F, ?_⟩
 simp only [SS, seval]
 have sB := sA.trans q3 (fun _ _ x => x)
 rw [Aab h h3 sB.mq]
 exact ⟨_, Nat.le_trans s1.nq s2.nq, rfl, q2, sB⟩
end
section
variable (hT : Aa0 P tab) (HR : Aem tab) (Nu : Num P) (H : Has tab)
include hT HR Nu H
variable {e0 e1 e2 at' tg rt i gt nx : Int} {mk gk pc dc : Value} {cm ok : Bool} {n : Nat}
def Ac5 (n : Nat) : List Int := [(Aar n : Int), (n : Int), 0, 0, 0] ++ List.replicate (Aar n - 1) 0 ++ List.replicate (Aar n) 0
theorem Apn {h : Aac} {b : Nat} (r : Rcd h b (rnL nx e0 e1 e2 at' tg n mk gk rt i cm pc gt dc ok)) (n2 : 2 <= n) (n120 : n <= 120) :
  Aah P 71 [(pp b)] h fun v h' => ∃ x, h.nq <= x /\ v = .tuple #[I 3, .slice (some ⟨x, 0, none⟩) (Ac5 n).length (Ac5 n).length] /\ Abq h' x 0 1 (Ac5 n).length (Ac5 n).length ((Ac5 n).map I) /\ Aad h h' (fun _ => False) := by
 refine Aaa hT HR.rnfirst rfl ?_
 have pn := Ac7 n2 n120
 have d2 := pn.deg2
 have d11 := pn.deg11
 have F1 := Nu.deg n n120 h
 have rep_r : ∀ k : Nat, rep [I 0] k = (List.replicate k (0 : Int)).map I := fun k => by rw [Alx]
 have wd : Aan .i64 ((Aar n : Int) - 1) = ((Aar n - 1 : Nat) : Int) := by rw [Aav] <;> omega
 have s1 : Aad h (h.new ⟨rep [I 0] (Aar n - 1), (Aar n - 1) * 1, 1, true, false⟩) (fun _ => False) := Aad.new
 have k1 : Abq (h.new ⟨rep [I 0] (Aar n - 1), (Aar n - 1) * 1, 1, true, false⟩) h.nq 0 1 (Aar n - 1) (Aar n - 1) ((List.replicate (Aar n - 1) (0 : Int)).map I) := by
  rw [rep_r]; exact Abq.fresh h _ (Aar n - 1) 1 true false (by simp)
 have x1 : (h.new ⟨rep [I 0] (Aar n - 1), (Aar n - 1) * 1, 1, true, false⟩).nq = h.nq + 1 := rfl
 have r1 := r.same s1 (fun x => x)
 have mk1 := Az7 (h := h) (s := 1) (bytes := 8) (zero := [I 0]) (n := Aar n - 1) (by omega) (by omega)
 generalize h.new ⟨rep [I 0] (Aar n - 1), (Aar n - 1) * 1, 1, true, false⟩ = h1 at s1 k1 x1 r1 mk1
 have s2 : Aad h1 (h1.new ⟨rep [I 0] (Aar n), Aar n * 1, 1, true, false⟩) (fun _ => False) := Aad.new
 have k2 : Abq (h1.new ⟨rep [I 0] (Aar n), Aar n * 1, 1, true, false⟩) h1.nq 0 1 (Aar n) (Aar n) ((List.replicate (Aar n) (0 : Int)).map I) := by
  rw [rep_r]; exact Abq.fresh h1 _ (Aar n) 1 true false (by simp)
 have mk2 := Az7 (h := h1) (s := 1) (bytes := 8) (zero := [I 0]) (n := Aar n) (by omega) (by omega)
 have k12 := k1.same s2 (fun x => x)
 generalize h1.new ⟨rep [I 0] (Aar n), Aar n * 1, 1, true, false⟩ = h2 at s2 k2 mk2 k12
 have x2 := s2.nq
 obtain ⟨_, h3, F3, x, hx, rfl, rx, s3⟩ := Arp hT H (n := (n : Int)) (K := List.replicate (Aar n - 1) 0) (W := List.replicate (Aar n) 0) (by simpa using k12) (by simpa using k2) (by intro e; have := congrArg List.length e; simp at this; omega) (by simp; omega) (by simp; omega)
 simp only [List.length_replicate] at F3 rx
 have sF := (s1.trans s2 (fun _ _ x => x)).trans s3 (fun _ _ x => x)
 have q0 : h.rd b 6 = some (I n) := by rw [r.rd]; rfl
 have q1 : h1.rd b 6 = some (I n) := by rw [r1.rd]; rfl
 have q2 : h2.rd b 6 = some (I n) := by rw [(r1.same s2 (fun x => x)).rd]; rfl
 have c0 : ((n : Int) == 0) = false := by rw [beq_eq_false_iff_ne]; omega
 have c1 : ((n : Int) == 1) = false := by rw [beq_eq_false_iff_ne]; omega
 obtain ⟨CF, hcf, g3⟩ := Ajb F3
 let J : Nat -> Aac -> Prop := fun j k => j <= 2 -> k.rd b 6 = some (I n)
 have j0 : J 0 h := fun _ => q0
 have j1 : J 1 h1 := fun _ => q1
 have j2 : J 2 h2 := fun _ => q2
 have j3 : J 3 h3 := fun h => by omega
 have jr : ∀ j k, 0 <= j -> j <= 2 -> J j k -> k.rd b 6 = some (I n) := fun j k _ hj q => q hj
 clear_value J
 have cx : ((0 : Int) > ((Aar n - 1 : Nat) : Int)) = False := by simp only [eq_iff_iff, iff_false]; omega
 simp only [SS, seval, af71, q0, c0, c1]
 refine ⟨_, _, F1, ?_⟩
 simp only [SS, seval]
 refine Adz J CF hcf j0 ?_
 simp only [SS, seval, Aiv, w_p, w_r, w_e, Afl, Awg, Ain, Afr, Ad3, q0, wd, cx, Ayp, mk1, mk2, g3, Ac4]
 refine ⟨jr, j1, j2, j3, ?_⟩
 rw [Aab h _ sF.mq]
 exact ⟨x, by omega, rfl, rx, sF⟩
theorem A1p {h : Aac} {b bm : Nat} {um : Option Nat} {m : PM} (r : Rcd h b (rnL 6 e0 e1 e2 at' tg n mk gk rt i cm pc gt dc ok)) (mm : Aa8 h bm um m) (f : m.fine) (hb : ¬ cl bm um b) (n2 : 2 <= n) (n120 : n <= 120) (room : (m.C.length : Int) + (Ac5 n).length <= m.z) :
  ∃ h' um', Aa3 P 17 [(pp b), (pp bm)] h (.bool false) h' /\ Rcd h' b (rnL 7 e0 e1 e2 at' tg n mk gk (((m.C.length : Int) + 1) * 8 + 3) i cm pc gt dc ok) /\ Aa8 h' bm um' (m.more (Ac5 n)) /\ (∀ y, um' = some y -> um = some y \/ h.nq <= y) /\ Aad h h' (fun j => j = b \/ cl bm um j) := by
 have hml := mm.lt
 have hbl := r.lt
 have fz := f.z1
 obtain ⟨_, h1, F1, x, hx, rfl, rx, s1⟩ := Apn hT HR Nu H r n2 n120
 have x1 := s1.nq
 have m1 := mm.same s1 (fun _ _ x => x)
 have r1 := r.same s1 (fun x => x)
 have rl : 1 <= (Ac5 n).length := by simp [Ac5]
 obtain ⟨_, h2, F2, rfl, ⟨u2, m2, n2'⟩, s2⟩ := Aga hT H (ws := Ac5 n) m1 f rx (by have := hml bm (.inl rfl); omega) (by intro e; rw [e] at rl; simp at rl) room
 have r2 := r1.same s2 hb
 have hb2 : ¬ cl bm u2 b := fun e => by
  rcases e with e | e
  ·exact hb (.inl e)
  ·rcases n2' b e with e2 | e2
   ·exact hb (.inr e2)
   ·omega
 obtain ⟨_, _, F3, rfl, eb⟩ := Aed hT H 3 ((m.C.length : Int) + 1) h2 (by omega) (by omega) (by omega) (by omega)
 rw [eb] at F3
 have w3 := r2.wr 9 (I (((m.C.length : Int) + 1) * 8 + 3)) (by simp [rnL]) (Aat _ _)
 have w4 : (h2.setR b ((rnL 6 e0 e1 e2 at' tg n mk gk rt i cm pc gt dc ok).set 9 (I (((m.C.length : Int) + 1) * 8 + 3)))).wrs b 0 [I 7] = some (h2.setR b (rnL 7 e0 e1 e2 at' tg n mk gk (((m.C.length : Int) + 1) * 8 + 3) i cm pc gt dc ok)) := Abp h2 b _ 0 (I 7) (by simp [rnL]) (Aat _ _)
 have s4 : Aad h2 (h2.setR b (rnL 7 e0 e1 e2 at' tg n mk gk (((m.C.length : Int) + 1) * 8 + 3) i cm pc gt dc ok)) (· = b) := Aad.setR rfl
 have r4 : Rcd (h2.setR b (rnL 7 e0 e1 e2 at' tg n mk gk (((m.C.length : Int) + 1) * 8 + 3) i cm pc gt dc ok)) b (rnL 7 e0 e1 e2 at' tg n mk gk (((m.C.length : Int) + 1) * 8 + 3) i cm pc gt dc ok) := Rcd.set _ r2.lt
 have m4 := m2.same s4 (fun j hj e => hb2 (e ▸ hj))
 generalize h2.setR b (rnL 7 e0 e1 e2 at' tg n mk gk (((m.C.length : Int) + 1) * 8 + 3) i cm pc gt dc ok) = h4 at w4 s4 r4 m4
 have sF : Aad h h4 (fun j => j = b \/ cl bm um j) := ((s1.mono (T := fun j => j = b \/ cl bm um j) (fun _ e => e.elim)).trans s2 (fun j _ e => .inr e)).trans s4 (fun j _ e => .inl e)
 have key : Aah P 42 [(pp b), (pp bm)] h fun v k => k = h4 := by
  refine Aaa hT HR.rncrown rfl ?_
  have qa : h.rd b 0 = some (I 6) := by rw [r.rd]; rfl
  simp only [SV, SS, seval, af42, qa]
  refine ⟨_, _, F1, ?_⟩
  simp only [SV, SS, seval]
  refine ⟨_, _, F2, ?_⟩
  simp only [SV, SS, seval]
  refine ⟨_, _, F3, ?_⟩
  simp only [SV, SS, seval, w3, w4]
  rw [Aab h _ sF.mq]
 obtain ⟨_, _, F', e⟩ := key
 rw [e] at F'
 exact ⟨h4, u2, Abw hT HR r (.inr (.inr (.inr (.inr (.inl rfl))))) F' sF.mq r4, r4, m4, fun y hy => (n2' y hy).imp_right (fun e => by omega), sF⟩
end
theorem PM.cas_yes {m : PM} {y : Nat} {old w : Int} (h1 : 1 <= y) (h2 : y <= m.C.length) (h : at0 m.C y = old) : m.cas (y : Int) old w = (true, m.write (y : Int) w) := if_pos ⟨⟨by omega, by omega⟩, by rw [PM.get_at0]; exact h⟩
theorem Ahn {C X : List Int} {k : Nat} (hk : k < X.length) : at0 (C ++ X) (C.length + 1 + k) = X[k] := by
 unfold at0
 rw [if_neg (by omega), List.getElem?_append_right (by omega), show C.length + 1 + k - 1 - C.length = k by omega, List.getElem?_eq_getElem hk]
 rfl
section
variable (hT : Aa0 P tab) (HS : Afx tab) (V : Aea tab) (H : Has tab) (V9 : Acg tab) (HM : Agf tab)
include hT HS V H V9 HM
theorem Atp {h : Aac} {b bm g p : Nat} {um : Option Nat} {m : PM} {o n : Int} (rc : Rcd h b (dcL 0 g p o n 0 0 0)) (mm : Aa8 h bm um m) (f : m.fine) (hb : ¬ cl bm um b) (room : (m.C.length : Int) + 5 <= m.z) (hc : m.c < 900000000) (g1 : 1 <= g) (g2 : g <= m.C.length) (p1 : 1 <= p) (p2 : p <= m.C.length) (hgp : g ≠ p) (hg : at0 m.C g = 0) (hp : at0 m.C p = o) :
  ∃ h' um' m', Adm P 62 [(pp b), (pp bm)] (fun j => j = b \/ cl bm um j \/ h.nq <= j) 6 h h' true /\ Rcd h' b (dcL 6 g p o n ((m.C.length + 1 : Nat) : Int) 1 1) /\ Aa8 h' bm um' m' /\ (∀ y, um' = some y -> um = some y \/ h.nq <= y) /\ (m'.z = m.z /\ m'.o = m.o /\ m'.r = m.r /\ m'.C.length = m.C.length + 5 /\ m.c <= m'.c /\ m'.c <= m.c + 6) /\ (∀ y, y <= m.C.length -> y ≠ p -> at0 m'.C y = at0 m.C y) /\ at0 m'.C p = n := by
 have fz := f.z1
 have fc := f.c
 have hbl := rc.lt
 obtain ⟨_, h1, F1, rfl, rc1, ⟨u1, m1, n1⟩, s1⟩ := Ara hT HS H rc mm f hb room
 rw [show ((m.C.length : Int) + 1) = ((m.C.length + 1 : Nat) : Int) by omega] at rc1
 have hb1 : ¬ cl bm u1 b := fun e => by
  rcases e with e | e
  ·exact hb (.inl e)
  ·rcases n1 b e with e2 | e2
   ·exact hb (.inr e2)
   ·omega
 have l1 : (m.more [(g : Int), p, o, n, 0]).C.length = m.C.length + 5 := by simp [PM.more]
 have a1 : ∀ y, 1 <= y -> y <= m.C.length -> at0 (m.more [(g : Int), p, o, n, 0]).C y = at0 m.C y := fun y y1 y2 => Agn y1 y2
 have b1 : at0 (m.more [(g : Int), p, o, n, 0]).C (m.C.length + 5) = 0 := Ahn (C := m.C) (X := [(g : Int), p, o, n, 0]) (k := 4) (by simp)
 have f1 : (m.more [(g : Int), p, o, n, 0]).fine := ⟨f.z0, f.z1, by rw [l1]; show _ <= m.z; omega, ⟨by show 0 <= m.c + 1; omega, by show m.c + 1 < _; omega⟩, f.o, f.r⟩
 have e1 : (m.more [(g : Int), p, o, n, 0]).z = m.z /\ (m.more [(g : Int), p, o, n, 0]).o = m.o /\ (m.more [(g : Int), p, o, n, 0]).r = m.r /\ (m.more [(g : Int), p, o, n, 0]).c = m.c + 1 := ⟨rfl, rfl, rfl, rfl⟩
 generalize m.more [(g : Int), p, o, n, 0] = M1 at m1 l1 a1 b1 f1 e1
 have y2 := PM.cas_yes (m := M1) (y := p) (old := o) (w := ((m.C.length + 1 : Nat) : Int) * 8 + 5) p1 (by omega) (by rw [a1 p p1 p2, hp])
 obtain ⟨_, h2, F2, rfl, rc2, m2, s2⟩ := Aqw hT HS H V9 HM rc1 m1 f1 hb1 (by omega) (by omega) (by omega) (by rw [y2])
 rw [y2] at m2
 obtain ⟨P2, v2⟩ := Ab5 (m := M1) (y := p) (x := ((m.C.length + 1 : Nat) : Int) * 8 + 5) (· = p) p1 (by omega) rfl
 have f2 := P2.fine f1 (by omega)
 have l2 := P2.len
 have c2 := P2.c1
 have d2 := P2.c0
 have m2 : Aa8 h2 bm u1 (M1.write (p : Int) (((m.C.length + 1 : Nat) : Int) * 8 + 5)) := m2
 generalize M1.write (p : Int) (((m.C.length + 1 : Nat) : Int) * 8 + 5) = M2 at m2 P2 v2 f2 l2 c2 d2
 obtain ⟨_, h3, F3, rfl, rc3, m3, s3⟩ := Ar2 hT HS H V9 HM rc2 m2 f2 hb1 (by omega) (by omega) (by omega) (by rw [PM.get_at0, P2.get g hgp, a1 g g1 g2, hg])
 have P3 := Ago (m := M2) (y := g) (fun _ => False) g1 (by omega)
 have f3 := P3.fine f2 (by omega)
 have l3 := P3.len
 have c3 := P3.c1
 have d3 := P3.c0
 generalize M2.tick (g : Int) = M3 at m3 P3 f3 l3 c3 d3
 have y4 := PM.cas_yes (m := M3) (y := m.C.length + 5) (old := 0) (w := 1) (by omega) (by omega) (by rw [P3.get _ (fun x => x), P2.get _ (by omega), b1])
 obtain ⟨_, h4, F4, rfl, rc4, m4, s4⟩ := Asi hT HS H V9 HM rc3 m3 f3 hb1 (by omega) (by omega)
 rw [show ((m.C.length + 1 : Nat) : Int) + 4 = ((m.C.length + 5 : Nat) : Int) by omega, y4] at m4
 have m4 : Aa8 h4 bm u1 (M3.write ((m.C.length + 5 : Nat) : Int) 1) := m4
 obtain ⟨P4, v4⟩ := Ab5 (m := M3) (y := m.C.length + 5) (x := 1) (· = m.C.length + 5) (by omega) (by omega) rfl
 have f4 := P4.fine f3 (by omega)
 have l4 := P4.len
 have c4 := P4.c1
 have d4 := P4.c0
 generalize M3.write ((m.C.length + 5 : Nat) : Int) 1 = M4 at m4 P4 v4 f4 l4 c4 d4
 obtain ⟨_, h5, F5, rfl, rc5, m5, s5⟩ := Aq0 hT HS H V9 HM rc4 m4 f4 hb1 (by omega) (by omega) (x := 1) (by rw [show ((m.C.length + 1 : Nat) : Int) + 4 = ((m.C.length + 5 : Nat) : Int) by omega, PM.get_at0, v4])
 rw [show ((m.C.length + 1 : Nat) : Int) + 4 = ((m.C.length + 5 : Nat) : Int) by omega] at m5
 have P5 := Ago (m := M4) (y := m.C.length + 5) (fun _ => False) (by omega) (by omega)
 have f5 := P5.fine f4 (by omega)
 have l5 := P5.len
 have c5 := P5.c1
 have d5 := P5.c0
 generalize M4.tick ((m.C.length + 5 : Nat) : Int) = M5 at m5 P5 f5 l5 c5 d5
 have y6 := PM.cas_yes (m := M5) (y := p) (old := ((m.C.length + 1 : Nat) : Int) * 8 + 5) (w := n) p1 (by omega) (by rw [P5.get _ (fun x => x), P4.get _ (by omega), P3.get _ (fun x => x), v2])
 obtain ⟨_, h6, F6, rfl, rc6, m6, s6⟩ := Asg hT HS H V9 HM rc5 m5 f5 hb1 (by omega) (by omega) (by omega)
 rw [y6] at m6
 obtain ⟨P6, v6⟩ := Ab5 (m := M5) (y := p) (x := n) (· = p) p1 (by omega) rfl
 have l6 := P6.len
 have c6 := P6.c1
 have d6 := P6.c0
 have hS1 : ∀ j, (j = b \/ cl bm um j) -> (j = b \/ cl bm um j \/ h.nq <= j) := fun j e => e.elim .inl (fun e => .inr (.inl e))
 have hS : ∀ j, (j = b \/ cl bm u1 j) -> (j = b \/ cl bm um j \/ h.nq <= j) := fun j e => by
  rcases e with e | e | e
  ·exact .inl e
  ·exact .inr (.inl (.inl e))
  ·exact (n1 j e).elim (fun e => .inr (.inl (.inr e))) (fun e => .inr (.inr e))
 refine ⟨h6, u1, _, ⟨h5, 5, by omega, .cons F1 (s1.mono hS1) (.cons F2 (s2.mono hS) (.cons F3 (s3.mono hS) (.cons F4 (s4.mono hS) (.cons F5 (s5.mono hS) (.nil _))))), F6, s6.mono hS⟩, rc6, m6, n1, ⟨by rw [P6.z, P5.z, P4.z, P3.z, P2.z, e1.1], by rw [P6.o, P5.o, P4.o, P3.o, P2.o, e1.2.1], by rw [P6.r, P5.r, P4.r, P3.r, P2.r, e1.2.2.1], by show (M5.write _ _).C.length = _; omega, by show _ <= (M5.write _ _).c; omega, by show (M5.write _ _).c <= _; omega⟩, fun y hy hyp => ?_, v6⟩
 show at0 (M5.write _ _).C y = _
 by_cases h0 : y = 0
 ·subst h0; rfl
 ·rw [P6.get _ hyp, P5.get _ (fun x => x), P4.get _ (by omega), P3.get _ (fun x => x), P2.get _ hyp, a1 y (by omega) hy]
end
section
variable (hT : Aa0 P tab) (HR : Aem tab) (HRw : tab 28 = some af28) (HS : Afx tab) (V : Aea tab) (H : Has tab) (V9 : Acg tab) (HM : Agf tab)
include hT HR HRw HS V H V9 HM
variable {tg n rt i gt : Int} {mk gk pc dc : Value} {cm ok : Bool}
theorem Aq7 {h : Aac} {b bm e0 e1 : Nat} {w at1 : Int} {um : Option Nat} {m : PM} (r : Rcd h b (rnL 0 e0 e1 w at1 tg n mk gk rt i cm pc gt dc ok)) (mm : Aa8 h bm um m) (f : m.fine) (hb : ¬ cl bm um b) (room : (m.C.length : Int) + 10 <= m.z) (hc : m.c < 800000000) (g2 : e0 + 2 <= m.C.length) (p1 : 1 <= e1) (p2 : e1 <= m.C.length) (hgp : e0 + 2 ≠ e1) (hg : at0 m.C (e0 + 2) = 0) (hp : at0 m.C e1 = w) :
  ∃ h' um' m' bd k, k <= 7 /\ Ab3 P 17 [(pp b), (pp bm)] (fun j => j = b \/ cl bm um j \/ h.nq <= j) h h' k /\ Rcd h' b (rnL 2 e0 e1 w ((m.C.length + 1 : Nat) : Int) tg n mk gk rt i cm pc gt (pp bd) ok) /\ Aa8 h' bm um' m' /\ (∀ y, um' = some y -> um = some y \/ h.nq <= y) /\ (m'.z = m.z /\ m'.o = m.o /\ m'.r = m.r /\ m'.C.length = m.C.length + 10 /\ m.c <= m'.c /\ m'.c <= m.c + 7) /\ (∀ y, y <= m.C.length -> y ≠ e1 -> at0 m'.C y = at0 m.C y) /\ at0 m'.C e1 = ((m.C.length + 1 : Nat) : Int) * 8 + 4 /\ (∀ k (hk : k < 5), at0 m'.C (m.C.length + 1 + k) = [w, ((e0 + 2 : Nat) : Int), (e1 : Int), 0, 0][k]) := by
 have fz := f.z1
 have fc := f.c
 have hbl := r.lt
 obtain ⟨h1, bd, u1, F1, hbd, r1, rd1, m1, n1, s1⟩ := Avf hT HR HRw HS H r mm f hb (by omega) (by omega)
 rw [show ((e0 : Int) + 2) = ((e0 + 2 : Nat) : Int) by omega, show ((m.C.length : Int) + 1) = ((m.C.length + 1 : Nat) : Int) by omega] at *
 have hb1 : ¬ cl bm u1 b := fun e => by
  rcases e with e | e
  ·exact hb (.inl e)
  ·rcases n1 b e with e2 | e2
   ·exact hb (.inr e2)
   ·omega
 have hml := mm.lt
 have hbd1 : ¬ cl bm u1 bd := fun e => by
  rcases e with e | e
  ·have := hml bm (.inl rfl); omega
  ·have := rd1.blk.symm.trans (Aa2.use m1 bd e).1
   simp [Aeq, dcL] at this
 have l1 : (m.more [w, ((e0 + 2 : Nat) : Int), (e1 : Int), 0, 0]).C.length = m.C.length + 5 := by simp [PM.more]
 have a1 : ∀ y, 1 <= y -> y <= m.C.length -> at0 (m.more [w, ((e0 + 2 : Nat) : Int), (e1 : Int), 0, 0]).C y = at0 m.C y := fun y y1 y2 => Agn y1 y2
 have b1 : ∀ k (hk : k < 5), at0 (m.more [w, ((e0 + 2 : Nat) : Int), (e1 : Int), 0, 0]).C (m.C.length + 1 + k) = [w, ((e0 + 2 : Nat) : Int), (e1 : Int), 0, 0][k] := fun k hk => Ahn (C := m.C) (X := [w, ((e0 + 2 : Nat) : Int), (e1 : Int), 0, 0]) hk
 have f1 : (m.more [w, ((e0 + 2 : Nat) : Int), (e1 : Int), 0, 0]).fine := ⟨f.z0, f.z1, by rw [l1]; show _ <= m.z; omega, ⟨by show 0 <= m.c + 1; omega, by show m.c + 1 < _; omega⟩, f.o, f.r⟩
 have e1' : (m.more [w, ((e0 + 2 : Nat) : Int), (e1 : Int), 0, 0]).z = m.z /\ (m.more [w, ((e0 + 2 : Nat) : Int), (e1 : Int), 0, 0]).o = m.o /\ (m.more [w, ((e0 + 2 : Nat) : Int), (e1 : Int), 0, 0]).r = m.r /\ (m.more [w, ((e0 + 2 : Nat) : Int), (e1 : Int), 0, 0]).c = m.c + 1 := ⟨rfl, rfl, rfl, rfl⟩
 generalize m.more [w, ((e0 + 2 : Nat) : Int), (e1 : Int), 0, 0] = M1 at m1 l1 a1 b1 f1 e1'
 have x1 := s1.nq
 obtain ⟨h2, u2, m2, ⟨hL, k, hk, ch, FL, sL⟩, rd2, mm2, n2, ⟨z2, o2, r2', l2, c2, d2⟩, a2, v2⟩ := Atp hT HS V H V9 HM rd1 m1 f1 hbd1 (by omega) (by omega) (by omega) (by omega) p1 (by omega) hgp (by rw [a1 _ (by omega) g2]; exact hg) (by rw [a1 _ p1 p2]; exact hp)
 have hS2 : ¬ (b = bd \/ cl bm u1 b \/ h1.nq <= b) := fun e => by
  rcases e with e | e | e
  ·omega
  ·exact hb1 e
  ·omega
 obtain ⟨ch', rL⟩ := Ab3.lift (fun q => Rcd q b (rnL 1 e0 e1 w ((m.C.length + 1 : Nat) : Int) tg n mk gk rt i cm pc gt (pp bd) ok)) ch r1 (fun q q' a s => a.same s hS2) (fun q q' a F s => Ao8 hT HR a F s hS2 (by omega))
 have F3 := Amj hT HR rL FL sL hS2 (by omega) HS rd2
 have r2 := rL.same sL hS2
 have hb2 : ¬ cl bm u2 b := fun e => by
  rcases e with e | e
  ·exact hb (.inl e)
  ·rcases n2 b e with e2 | e2
   ·exact hb1 (.inr e2)
   ·omega
 have s3 : Aad h2 (h2.setR b (rnL 2 e0 e1 w ((m.C.length + 1 : Nat) : Int) tg n mk gk rt i cm pc gt (pp bd) ok)) (· = b) := Aad.setR rfl
 have m3 := mm2.same s3 (fun j hj e => hb2 (e ▸ hj))
 have n12 : ∀ y, u1 = some y -> um = some y \/ h.nq <= y := n1
 have hS : ∀ j, (j = bd \/ cl bm u1 j \/ h1.nq <= j) -> (j = b \/ cl bm um j \/ h.nq <= j) := fun j e => by
  rcases e with e | (e | e) | e
  ·exact .inr (.inr (by omega))
  ·exact .inr (.inl (.inl e))
  ·exact (n1 j e).elim (fun e => .inr (.inl (.inr e))) (fun e => .inr (.inr e))
  ·exact .inr (.inr (by omega))
 refine ⟨_, u2, m2, bd, 1 + k + 1, by omega, ((Ab3.one F1 (s1.mono (fun j e => e.elim .inl (fun e => .inr (.inl e))))).app (ch'.mono hS)).app (.one F3 ((sL.mono hS).trans s3 (fun j _ e => .inl e))), Rcd.set _ r2.lt, m3, fun y hy => ?_, ⟨by rw [z2, e1'.1], by rw [o2, e1'.2.1], by rw [r2', e1'.2.2.1], by omega, by omega, by omega⟩, fun y hy hye => ?_, v2, fun k hk => ?_⟩
 ·rcases n2 y hy with e | e
  ·exact n1 y e
  ·exact .inr (by omega)
 ·by_cases h0 : y = 0
  ·subst h0; rfl
  ·rw [a2 y (by omega) hye, a1 y (by omega) hy]
 ·rw [a2 _ (by omega) (by omega), b1 k hk]
end
section
variable (hT : Aa0 P tab) (HR : Aem tab) (HS : Afx tab) (V : Aea tab) (H : Has tab) (V9 : Acg tab) (HM : Agf tab)
include hT HR HS V H V9 HM
variable {x0 x1 x2 tg n rt i gt : Int} {mk gk pc dc : Value} {cm ok : Bool}
theorem Apd {h : Aac} {b bm A g p : Nat} {um : Option Nat} {m : PM} (r : Rcd h b (rnL 12 x0 x1 x2 A tg n mk gk rt i cm pc gt dc ok)) (mm : Aa8 h bm um m) (f : m.fine) (hb : ¬ cl bm um b) (room : (m.C.length : Int) + 5 <= m.z) (hc : m.c < 800000000) (A1 : 1 <= A) (A2 : A + 4 <= m.C.length) (g1 : 1 <= g) (g2 : g <= m.C.length) (p1 : 1 <= p) (p2 : p <= m.C.length) (hgp : g ≠ p) (hA1 : at0 m.C (A + 1) = g) (hA2 : at0 m.C (A + 2) = p) (hg : at0 m.C g = 0) (hp : at0 m.C p = (A : Int) * 8 + 4) :
  ∃ h' um' m' bd, Adm P 17 [(pp b), (pp bm)] (fun j => j = b \/ cl bm um j \/ h.nq <= j) 8 h h' true /\ Rcd h' b (rnL 15 x0 x1 x2 A tg n mk gk rt i cm pc g (pp bd) true) /\ Aa8 h' bm um' m' /\ (∀ y, um' = some y -> um = some y \/ h.nq <= y) /\ (m'.z = m.z /\ m'.o = m.o /\ m'.r = m.r /\ m'.C.length = m.C.length + 5 /\ m.c <= m'.c /\ m'.c <= m.c + 8) /\ (∀ y, y <= m.C.length -> y ≠ p -> at0 m'.C y = at0 m.C y) /\ at0 m'.C p = rt := by
 have fz := f.z1
 have fc := f.c
 have fl := f.len
 have hbl := r.lt
 have hml := mm.lt
 obtain ⟨h1, F1, r1, m1, s1⟩ := Azl hT HR V9 HM r mm f hb (by omega) (x := g) (by rw [show ((A : Int) + 1) = ((A + 1 : Nat) : Int) by omega, PM.get_at0, hA1])
 have t1 := Add (m := m) (y := (A : Int) + 1) (by omega) (by omega)
 have f1 := t1.fine f (by omega)
 generalize m.tick ((A : Int) + 1) = M1 at m1 t1 f1
 obtain ⟨h2, bd, F2, hbd, r2, rd2, m2, s2⟩ := Azd hT HR HS H V9 HM r1 m1 f1 hb A1 (by omega) (x := p) (by rw [show ((A : Int) + 2) = ((A + 2 : Nat) : Int) by omega, PM.get_at0, t1.C, hA2])
 have t2 := t1.trans (Add (m := M1) (y := (A : Int) + 2) (by omega) (by rw [t1.C]; omega))
 have f2 := t2.fine f (by omega)
 generalize M1.tick ((A : Int) + 2) = M2 at m2 t2 f2
 have y1 := s1.nq
 have y2 := s2.nq
 have hbd2 : ¬ cl bm um bd := fun e => by have := hml bd e; omega
 have eC := t2.C
 have tc0 := t2.c0
 have tc1 := t2.c1
 obtain ⟨h3, u3, m3, ⟨hL, k, hk, ch, FL, sL⟩, rd3, mm3, n3, ⟨z3, o3, r3', l3, c3, d3⟩, a3, v3⟩ := Atp hT HS V H V9 HM rd2 m2 f2 hbd2 (by rw [eC, t2.z]; exact room) (by omega) g1 (by rw [eC]; exact g2) p1 (by rw [eC]; exact p2) hgp (by rw [eC]; exact hg) (by rw [eC]; exact hp)
 have hS2 : ¬ (b = bd \/ cl bm um b \/ h2.nq <= b) := fun e => by
  rcases e with e | e | e
  ·omega
  ·exact hb e
  ·omega
 obtain ⟨ch', rL⟩ := Ab3.lift (fun q => Rcd q b (rnL 14 x0 x1 x2 A tg n mk gk rt i cm pc g (pp bd) ok)) ch r2 (fun q q' a s => a.same s hS2) (fun q q' a F s => Ap7 hT HR a F s hS2)
 have F4 := Ami hT HR HS rL FL sL hS2 rd3
 have r3 := rL.same sL hS2
 have hb3 : ¬ cl bm u3 b := fun e => by
  rcases e with e | e
  ·exact hb (.inl e)
  ·rcases n3 b e with e2 | e2
   ·exact hb (.inr e2)
   ·omega
 have s4 : Aad h3 (h3.setR b (rnL 15 x0 x1 x2 A tg n mk gk rt i cm pc g (pp bd) true)) (· = b) := Aad.setR rfl
 have m4 := mm3.same s4 (fun j hj e => hb3 (e ▸ hj))
 have hS0 : ∀ j, (j = b \/ cl bm um j) -> (j = b \/ cl bm um j \/ h.nq <= j) := fun j e => e.elim .inl (fun e => .inr (.inl e))
 have hS : ∀ j, (j = bd \/ cl bm um j \/ h2.nq <= j) -> (j = b \/ cl bm um j \/ h.nq <= j) := fun j e => by
  rcases e with e | e | e
  ·exact .inr (.inr (by omega))
  ·exact .inr (.inl e)
  ·exact .inr (.inr (by omega))
 exact ⟨_, u3, m3, bd, (((Ab3.cons F1 (s1.mono hS0) (.cons F2 (s2.mono hS0) (.nil _))).app (ch'.mono hS)).to (Adm.one F4 ((sL.mono hS).trans s4 (fun j _ e => .inl e)))).le (by omega), Rcd.set _ r3.lt, m4, fun y hy => (n3 y hy).imp_right (fun e => by omega), ⟨by rw [z3, t2.z], by rw [o3, t2.o], by rw [r3', t2.r], by rw [l3, eC], by omega, by omega⟩, fun y hy hye => by rw [a3 y (by rw [eC]; exact hy) hye, eC], v3⟩
end
section
variable (hT : Aa0 P tab) (HR : Aem tab) (Nu : Num P) (HS : Afx tab) (HK : Ah3 tab) (HMk : Air tab) (V : Aea tab) (H : Has tab) (V9 : Acg tab) (HM : Agf tab)
include hT HR Nu HS HK HMk V H V9 HM
variable {x0 x1 x2 tg n rt i gt : Int} {mk gk pc dc : Value} {cm ok : Bool}
theorem Axe {a : Nat} {sz sh ch0 sm0 : Int} {ks : List Int} {cs : List Tr} {l : List Pr} (hf : (Tr.inner a sz sh ch0 sm0 ks cs).old /\ (Tr.inner a sz sh ch0 sm0 ks cs).content = l) (h2 : 2 <= l.length) (h120 : l.length <= 120) (hdp : Adg cs <= 280) (hnd : (Tr.inner a sz sh ch0 sm0 ks cs).adrs.Nodup) {h : Aac} {b bm A : Nat} {um : Option Nat} {m : PM} (r : Rcd h b (rnL 2 x0 x1 x2 A tg n mk gk rt i cm pc gt dc ok)) (mm : Aa8 h bm um m) (f : m.fine) (hb : ¬ cl bm um b) (hok : (Tr.inner a sz sh ch0 sm0 ks cs).ok m.C) (hc : m.c + (10 * (Tr.inner a sz sh ch0 sm0 ks cs).adrs.length : Nat) < 800000000) (A1 : 1 <= A) (A2 : A + 4 <= m.C.length) (hin : ∀ y ∈ (Tr.inner a sz sh ch0 sm0 ks cs).adrs, 1 <= y /\ y <= m.C.length) (hA : at0 m.C A = (a : Int) * 8 + 3) (hA3 : at0 m.C (A + 3) = 0) (hAd : A + 3 ∉ (Tr.inner a sz sh ch0 sm0 ks cs).adrs) (room : (m.C.length : Int) + (Ac5 l.length).length <= m.z) :
  ∃ h' um' m' mk' k, k <= 10 * (Tr.inner a sz sh ch0 sm0 ks cs).adrs.length + 6 /\ Ab3 P 17 [(pp b), (pp bm)] (fun j => j = b \/ cl bm um j \/ h.nq <= j) h h' k /\ Rcd h' b (rnL 9 x0 x1 x2 A a l.length mk' gk (((m.C.length : Int) + 1) * 8 + 3) i cm pc gt dc ok) /\ Aa8 h' bm um' m' /\ (∀ y, um' = some y -> um = some y \/ h.nq <= y) /\ (m'.z = m.z /\ m'.o = m.o /\ m'.r = m.r /\ m'.C.length = m.C.length + (Ac5 l.length).length /\ m.c <= m'.c /\ m'.c <= m.c + (10 * (Tr.inner a sz sh ch0 sm0 ks cs).adrs.length + 6 : Nat)) /\ (∀ y, y <= m.C.length -> y ∉ (Tr.inner a sz sh ch0 sm0 ks cs).adrs -> y ≠ A + 3 -> at0 m'.C y = at0 m.C y) /\ at0 m'.C (A + 3) = ((m.C.length : Int) + 1) * 8 + 3 /\ (Tr.inner a sz sh ch0 sm0 ks cs).shut.ok m'.C /\ (∀ k (hk : k < (Ac5 l.length).length), at0 m'.C (m.C.length + 1 + k) = (Ac5 l.length)[k]) := by
 have fz := f.z1
 have fc := f.c
 have hbl := r.lt
 have hml := mm.lt
 have hfit := hf
 have hok0 := hok
 obtain ⟨⟨q1, q2, _, _⟩, _⟩ := hok0
 obtain ⟨h1, km, F1, hkm, r1, ma1, m1, s1⟩ := Ath hT HR HS V H V9 HM r mm f hb (by omega) (a := a) q1 (by omega) (by rw [PM.get_at0, hA])
 have y1 := s1.nq
 have t1 := Add (m := m) (y := (A : Int)) (by omega) (by omega)
 have f1 := t1.fine f (by omega)
 have eC := t1.C
 have tc1 := t1.c1
 generalize m.tick (A : Int) = M1 at m1 t1 f1 eC tc1
 have hkl := ma1.lt km (.inl rfl)
 have c1 : MkC h1.nq (fun j => j = km \/ cl bm um j \/ h1.nq <= j) h1 km bm none um M1 := ⟨m1, f1, fun j hj => hj.elim .inl (fun e => by cases e), fun j hj => .inr (.inl hj), fun j hj => .inr (.inr hj), fun j hj => by have := hml j hj; omega, fun j hj e => hj.elim (fun e2 => by have := hml j e; omega) (fun e2 => by cases e2), Nat.le_refl _⟩
 obtain ⟨hL, k, h3, u3, n3, M3, rdv3, lv3, hk, ch, FL, sL, c3, ma3, P3, ok3⟩ := Ax2 hT HS HK HMk V H V9 HM hfit (by omega) (by omega) hnd c1 ma1 (by rw [eC]; exact hok) (by omega)
 have hS2 : ¬ (b = km \/ cl bm um b \/ h1.nq <= b) := fun e => by
  rcases e with e | e | e
  ·omega
  ·exact hb e
  ·omega
 obtain ⟨ch', rL⟩ := Ab3.lift (fun q => Rcd q b (rnL 3 x0 x1 x2 A a n (pp km) gk rt i cm pc gt dc ok)) ch r1 (fun q q' a s => a.same s hS2) (fun q q' a F s => Ale hT HR a F s hS2)
 have F3 := Ai0 hT HR HS rL FL sL hS2 ma3
 have r3 := rL.same sL hS2
 have s4 : Aad h3 (h3.setR b (rnL 4 x0 x1 x2 A a l.length (pp km) gk rt i cm pc gt dc ok)) (· = b) := Aad.setR rfl
 have r4 : Rcd (h3.setR b (rnL 4 x0 x1 x2 A a l.length (pp km) gk rt i cm pc gt dc ok)) b (rnL 4 x0 x1 x2 A a l.length (pp km) gk rt i cm pc gt dc ok) := Rcd.set _ r3.lt
 have m4 := c3.mm.same s4 (fun j hj e => hb (e ▸ hj))
 have l3 := P3.len
 have pc0 := P3.c0
 have pc1 := P3.c1
 have tc0 := t1.c0
 have f3 := c3.f
 obtain ⟨h5, F5, r5, m5, s5⟩ := Ast hT HR V9 HM r4 m4 f3 hb (by omega) (by rw [show ((A : Int) + 3) = ((A + 3 : Nat) : Int) by omega, PM.get_at0, P3.get _ hAd, eC, hA3]) (by omega)
 have t5 := Add (m := M3) (y := (A : Int) + 3) (by omega) (by rw [l3, eC]; omega)
 have f5 := t5.fine f3 (by omega)
 have e5 := t5.C
 have c5 := t5.c1
 have d5 := t5.c0
 have z5 : (M3.tick ((A : Int) + 3)).z = m.z := by rw [t5.z, P3.z, t1.z]
 have o5 : (M3.tick ((A : Int) + 3)).o = m.o /\ (M3.tick ((A : Int) + 3)).r = m.r := ⟨by rw [t5.o, P3.o, t1.o], by rw [t5.r, P3.r, t1.r]⟩
 generalize M3.tick ((A : Int) + 3) = M5 at m5 f5 e5 c5 d5 z5 o5
 obtain ⟨h6, u6, F6, r6, m6, n6, s6⟩ := A1p hT HR Nu H r5 m5 f5 hb h2 h120 (by rw [e5, l3, eC, z5]; exact room)
 have lC : M5.C.length = m.C.length := by rw [e5, l3, eC]
 rw [lC] at r6
 have hb6 : ¬ cl bm u6 b := fun e => by
  rcases e with e | e
  ·exact hb (.inl e)
  ·rcases n6 b e with e2 | e2
   ·exact hb (.inr e2)
   ·have := s5.nq; have := s4.nq; have := sL.nq; have := ch.same.nq; omega
 have l6 : (M5.more (Ac5 l.length)).C.length = m.C.length + (Ac5 l.length).length := by simp [PM.more, lC]
 have f6 : (M5.more (Ac5 l.length)).fine := ⟨f5.z0, f5.z1, by rw [l6]; show _ <= M5.z; rw [z5]; omega, ⟨by have := f5.c; show 0 <= M5.c + 1; omega, by show M5.c + 1 < _; omega⟩, f5.o, f5.r⟩
 have v6 : at0 (M5.more (Ac5 l.length)).C (A + 3) = 0 := by
  show at0 (M5.C ++ _) (A + 3) = 0
  rw [Agn (by omega) (by omega), e5, P3.get _ hAd, eC, hA3]
 have c6 : (M5.more (Ac5 l.length)).c = M5.c + 1 := rfl
 have z6 : (M5.more (Ac5 l.length)).z = M5.z /\ (M5.more (Ac5 l.length)).o = M5.o /\ (M5.more (Ac5 l.length)).r = M5.r := ⟨rfl, rfl, rfl⟩
 have g6 : ∀ y, 1 <= y -> y <= m.C.length -> at0 (M5.more (Ac5 l.length)).C y = at0 M3.C y := fun y ya yb => by
  show at0 (M5.C ++ _) y = _
  rw [Agn ya (by omega), e5]
 have w6 : ∀ k (hk : k < (Ac5 l.length).length), at0 (M5.more (Ac5 l.length)).C (m.C.length + 1 + k) = (Ac5 l.length)[k] := fun k hk => by
  rw [<- lC]; exact Ahn hk
 generalize M5.more (Ac5 l.length) = M6 at m6 l6 f6 v6 c6 z6 g6 w6
 obtain ⟨h7, F7, r7, m7, s7⟩ := At3 hT HR V9 HM r6 m6 f6 hb6 (by omega)
 rw [show ((A : Int) + 3) = ((A + 3 : Nat) : Int) by omega, PM.cas_yes (by omega) (by omega) v6] at m7
 have m7 : Aa8 h7 bm u6 (M6.write ((A + 3 : Nat) : Int) (((m.C.length : Int) + 1) * 8 + 3)) := m7
 obtain ⟨P7, v7⟩ := Ab5 (m := M6) (y := A + 3) (x := ((m.C.length : Int) + 1) * 8 + 3) (· = A + 3) (by omega) (by omega) rfl
 have f7 := P7.fine f6 (by omega)
 obtain ⟨h8, F8, r8, m8, s8⟩ := A1s hT HR V9 HM r7 m7 f7 hb6 (by omega) (x := ((m.C.length : Int) + 1) * 8 + 3) (by rw [show ((A : Int) + 3) = ((A + 3 : Nat) : Int) by omega, PM.get_at0, v7]) (by omega)
 have y5 : h.nq <= h5.nq := by have := s5.nq; have := s4.nq; have := sL.nq; have := ch.same.nq; omega
 have n6' : ∀ y, u6 = some y -> um = some y \/ h.nq <= y := fun y hy => (n6 y hy).imp_right (fun e => by omega)
 have hS0 : ∀ j, (j = b \/ cl bm um j) -> (j = b \/ cl bm um j \/ h.nq <= j) := fun j e => e.elim .inl (fun e => .inr (.inl e))
 have hS6 : ∀ j, (j = b \/ cl bm u6 j) -> (j = b \/ cl bm um j \/ h.nq <= j) := fun j e => by
  rcases e with e | e | e
  ·exact .inl e
  ·exact .inr (.inl (.inl e))
  ·exact (n6' j e).elim (fun e => .inr (.inl (.inr e))) (fun e => .inr (.inr e))
 have hS : ∀ j, (j = km \/ cl bm um j \/ h1.nq <= j) -> (j = b \/ cl bm um j \/ h.nq <= j) := fun j e => by
  rcases e with e | e | e
  ·exact .inr (.inr (by omega))
  ·exact .inr (.inl e)
  ·exact .inr (.inr (by omega))
 have t8 := Add (m := M6.write ((A + 3 : Nat) : Int) (((m.C.length : Int) + 1) * 8 + 3)) (y := (A : Int) + 3) (by omega) (by rw [P7.len]; omega)
 have c8 := t8.c1
 have d8 := t8.c0
 have c7 := P7.c1
 have d7 := P7.c0
 refine ⟨h8, u6, _, _, _, ?_, ((Ab3.one F1 (s1.mono hS0)).app (ch'.mono hS)).app (.cons F3 ((sL.mono hS).trans s4 (fun j _ e => .inl e)) (.cons F5 (s5.mono hS0) (.cons F6 (s6.mono hS0) (.cons F7 (s7.mono hS6) (.cons F8 (s8.mono hS6) (.nil _)))))), r8, m8, n6', ⟨by rw [t8.z, P7.z, z6.1, z5], by rw [t8.o, P7.o, z6.2.1, o5.1], by rw [t8.r, P7.r, z6.2.2, o5.2], by rw [t8.C, P7.len, l6], by omega, by omega⟩, fun y ya yb yc => ?_, by rw [t8.C]; exact v7, ?_, fun k hk => ?_⟩
 ·omega
 ·by_cases h0 : y = 0
  ·subst h0; rfl
  ·rw [t8.C, P7.get y yc, g6 y (by omega) ya, P3.get y yb, eC]
 ·refine Ado (by rw [t8.C, P7.len, l6, l3, eC]; omega) _ (fun y hy => ?_) ok3
  rw [Ael] at hy
  have := hin y hy
  rw [t8.C, P7.get y (fun e => hAd (e ▸ hy)), g6 y this.1 this.2]
 ·rw [t8.C, P7.get _ (by omega), w6 k hk]
end
theorem Alp : ∀ (f g : Nat) (l : List Pr) (u : Nat), l.length < f -> l.length < g -> l.length <= 120 -> Abc f l u = Abc g l u
 | 0, g, l, u, h, _, _ => by omega
 | f + 1, 0, l, u, _, h, _ => by omega
 | f + 1, g + 1, l, u, hf, hg, hl => by
  by_cases h2 : 2 <= l.length
  ·have pn := Ac7 h2 hl
   have key : ∀ i, i <= Aar l.length -> Aay (Abc f) l u i = Aay (Abc g) l u i := by
    intro i
    induction i with
    | zero => intro _; rfl
    | succ i ih =>
     intro hi
     have hp := Abu h2 hl (i := i) (by omega)
     have hless := pn.less i (by omega)
     simp only [Aay]
     rw [ih (by omega), Alp f g (Aaq l i) _ (by omega) (by omega) (by omega)]
   rw [Afo h2, Afo h2, key _ (Nat.le_refl _)]
  ·match l, h2 with
   | [], _ => rfl
   | [p], _ => rfl
   | _ :: _ :: _, h2 => simp at h2
theorem Aes.app {C : List Int} {u : Nat} {A B : List Int} (h : Aes C u A) (g : Aes C (u + A.length) B) : Aes C u (A ++ B) := by
 refine ⟨by have := g.1; rw [List.length_append]; omega, fun j v hv => ?_⟩
 by_cases c : j < A.length
 ·rw [List.getElem?_append_left c] at hv; exact h.2 j v hv
 ·rw [List.getElem?_append_right (by omega)] at hv
  have := g.2 (j - A.length) v hv
  rwa [show u + A.length + 1 + (j - A.length) = u + 1 + j by omega] at this
theorem Aes.congr {C C' : List Int} {u : Nat} {A : List Int} (h : Aes C u A) (hl : C.length <= C'.length) (g : ∀ y, u + 1 <= y -> y <= u + A.length -> at0 C' y = at0 C y) : Aes C' u A := by
 refine ⟨by have := h.1; omega, fun j v hv => ?_⟩
 have hj : j < A.length := by
  rcases Nat.lt_or_ge j A.length with e | e
  ·exact e
  ·rw [List.getElem?_eq_none e] at hv; cases hv
 rw [g _ (by omega) (by omega)]
 exact h.2 j v hv
theorem Aka (C L : List Int) : Aes (C ++ L) C.length L := by
 refine ⟨by rw [List.length_append]; omega, fun j v hv => ?_⟩
 have hj : j < L.length := by
  rcases Nat.lt_or_ge j L.length with e | e
  ·exact e
  ·rw [List.getElem?_eq_none e] at hv; cases hv
 rw [Ahn hj]
 rw [List.getElem?_eq_getElem hj] at hv
 exact Option.some.inj hv
structure A82 (cs : List Tr) (ks : List Int × List Int) (l : List Pr) (u i : Nat) : Prop where
 len : cs.length = i
 words : ks.1 = cs.map Tr.word
 fits : Amg cs l 0
 ok : ∀ C, Aes C u ks.2 -> oks C cs
 adr : ∀ j ∈ Aak cs, u + 1 <= j /\ j <= u + ks.2.length
 nodup : (Aak cs).Nodup
theorem Ano {f : Nat} {l : List Pr} {u : Nat} (h2 : 2 <= l.length) (hl : l.length <= 120) (hf : l.length <= f) : ∀ i, i <= Aar l.length -> A82 (Afh (Af0 f) (Abc f) l u i) (Aay (Abc f) l u i) l u i := by
 have pn := Ac7 h2 hl
 intro i
 induction i with
 | zero => intro _; exact ⟨rfl, rfl, trivial, fun _ _ => trivial, by simp [Afh, Aak], by simp [Afh, Aak]⟩
 | succ i ih =>
  intro hi
  obtain ⟨k1, k2, k3, k4, k5, k6⟩ := ih (by omega)
  have hp := Abu h2 hl (i := i) (by omega)
  have hless := pn.less i (by omega)
  have s := Ajw f (Aaq l i) (u + (Aay (Abc f) l u i).2.length) (by omega) (by omega)
  refine ⟨by simp [Afh, k1], by simp [Afh, Aay, k2, s.word], Akn k3 (by rw [k1, Nat.zero_add]; exact s.fits), fun C hC => Alh (k4 C hC.left) (s.ok C hC.right), ?_, ?_⟩
  ·intro j hj
   simp only [Afh, Aay] at hj ⊢
   rw [Ab8] at hj
   simp only [List.mem_append, Aak, List.append_nil] at hj
   rw [List.length_append]
   rcases hj with hj | hj
   ·have := k5 j hj; omega
   ·have := s.adr j hj; omega
  ·simp only [Afh]
   rw [Ab8, List.nodup_append]
   refine ⟨k6, by simpa [Aak] using s.nodup, fun x hx y hy e => ?_⟩
   simp only [Aak, List.append_nil] at hy
   have h1 := k5 x hx
   have h2 := s.adr y hy
   omega
structure Auw (l : List Pr) (A R : Nat) (C0 : List Int) (i : Nat) (C : List Int) : Prop where
 len : C.length = C0.length + (Aay (Abc l.length) l C0.length i).2.length
 nxt : at0 C (A + 4) = i
 old : ∀ y, y <= R + 4 -> y ≠ A + 4 -> at0 C y = at0 C0 y
 keys : ∀ j, 1 <= j -> j < i -> at0 C (R + 4 + j) = Aca (Aaq l j) 0
 kids : ∀ j, j < i -> at0 C (R + 4 + Aar l.length + j) = ((Aay (Abc l.length) l C0.length i).1[j]?).getD 0
 none : ∀ j, i <= j -> j < Aar l.length -> at0 C (R + 4 + Aar l.length + j) = 0
 lies : Aes C C0.length (Aay (Abc l.length) l C0.length i).2
structure Awx (l : List Pr) (A R i : Nat) (C C' : List Int) : Prop where
 len : C'.length = C.length + (Abc ((Aaq l i).length + 1) (Aaq l i) C.length).2.length
 nxt : at0 C' (A + 4) = (i + 1 : Nat)
 key : 0 < i -> at0 C' (R + 4 + i) = Aca (Aaq l i) 0
 kid : at0 C' (R + 4 + Aar l.length + i) = (Abc ((Aaq l i).length + 1) (Aaq l i) C.length).1
 lies : Aes C' C.length (Abc ((Aaq l i).length + 1) (Aaq l i) C.length).2
 old : ∀ y, y <= C.length -> y ≠ A + 4 -> (y ≠ R + 4 + i \/ i = 0) -> y ≠ R + 4 + Aar l.length + i -> at0 C' y = at0 C y
theorem Amd {lay : List Pr -> Nat -> Int × List Int} {l : List Pr} {u : Nat} : ∀ i, (Aay lay l u i).1.length = i
 | 0 => rfl
 | i + 1 => by simp [Aay, Amd i]
theorem Auw.step {l : List Pr} {A R i : Nat} {C0 C C' : List Int} (h2 : 2 <= l.length) (hl : l.length <= 120) (hi : i < Aar l.length) (hR : R + (2 * Aar l.length + 4) = C0.length + 1) (hA : A + 4 < R) (a : Auw l A R C0 i C) (b : Awx l A R i C C') : Auw l A R C0 (i + 1) C' := by
 have pn := Ac7 h2 hl
 have hp := Abu h2 hl hi
 have hless := pn.less i hi
 have eL : Abc ((Aaq l i).length + 1) (Aaq l i) C.length = Abc l.length (Aaq l i) (C0.length + (Aay (Abc l.length) l C0.length i).2.length) := by
  rw [a.len, Alp _ l.length _ _ (by omega) (by omega) (by omega)]
 obtain ⟨a1, a2, a3, a4, a5, a6, a7⟩ := a
 obtain ⟨b1, b2, b3, b4, b5, b6⟩ := b
 rw [eL] at b1 b4 b5
 have kl := Amd (lay := Abc l.length) (l := l) (u := C0.length) i
 refine ⟨?_, b2, fun y hy hyA => ?_, fun j j1 ji => ?_, fun j ji => ?_, fun j ji jd => ?_, ?_⟩
 ·simp only [Aay, List.length_append]; omega
 ·rw [b6 y (by omega) hyA (by omega) (by omega), a3 y hy hyA]
 ·by_cases c : j = i
  ·subst c; exact b3 (by omega)
  ·rw [b6 _ (by omega) (by omega) (by omega) (by omega), a4 j j1 (by omega)]
 ·simp only [Aay]
  by_cases c : j = i
  ·subst c
   rw [b4, List.getElem?_append_right (by omega), kl, Nat.sub_self]; rfl
  ·rw [b6 _ (by omega) (by omega) (by omega) (by omega), a5 j (by omega), List.getElem?_append_left (by omega)]
 ·rw [b6 _ (by omega) (by omega) (by omega) (by omega), a6 j (by omega) jd]
 ·simp only [Aay]
  refine Aes.app (a7.congr (by omega) (fun y y1 y2 => ?_)) (by rw [<- a1] at b5 ⊢; exact b5)
  exact b6 y (by omega) (by omega) (by omega) (by omega)
def A49 (l : List Pr) (R : Nat) (u : Nat) : Tr := .inner R (l.length : Nat) 0 0 0 (Acl l (Aar l.length)) (Afh (Af0 l.length) (Abc l.length) l u (Aar l.length))
theorem Aph {l : List Pr} {j : Nat} (h2 : 2 <= l.length) (hl : l.length <= 120) (hj : j < Aar l.length) : Aca (Aaq l j) 0 = ((l[Aa1 l.length j]?).getD (0, 0)).1 := by
 have pn := Ac7 h2 hl
 have h1 := pn.one j hj
 have e := Aoe h1
 rw [<- e]
 have hp := Abu h2 hl hj
 match hpl : Aaq l j with
 | [] => rw [hpl] at hp; simp at hp; omega
 | p :: _ => rfl
theorem Auw.tree {l : List Pr} {A R : Nat} {C0 C : List Int} (h2 : 2 <= l.length) (hl : l.length <= 120) (hR : R + (2 * Aar l.length + 4) = C0.length + 1) (R1 : 1 <= R) (hA : A + 4 < R) (a : Auw l A R C0 (Aar l.length) C) (hw : ∀ k (hk : k < (Ac5 l.length).length), at0 C0 (R + k) = (Ac5 l.length)[k]) :
  (A49 l R C0.length).ok C /\ (A49 l R C0.length).fits l /\ (∀ y ∈ (A49 l R C0.length).adrs, R <= y /\ y <= C.length) /\ (A49 l R C0.length).adrs.Nodup := by
 have pn := Ac7 h2 hl
 have d2 := pn.deg2
 have d11 := pn.deg11
 have tk := Ano (f := l.length) (l := l) (u := C0.length) h2 hl (Nat.le_refl _) _ (Nat.le_refl _)
 obtain ⟨a1, a2, a3, a4, a5, a6, a7⟩ := a
 obtain ⟨t1, t2, t3, t4, t5, t6⟩ := tk
 unfold A49
 generalize Aay (Abc l.length) l C0.length (Aar l.length) = ks at *
 generalize Afh (Af0 l.length) (Abc l.length) l C0.length (Aar l.length) = cs at *
 have kl := Ac0 l (Aar l.length)
 have hd : ∀ k (hk : k < 5), at0 C (R + k) = [(Aar l.length : Int), (l.length : Int), 0, 0, 0][k] := fun k hk => by
  rw [a3 _ (by omega) (by omega), hw k (by simp [Ac5]; omega)]
  simp only [Ac5]
  rw [List.getElem_append_left (by simp; omega), List.getElem_append_left (by simpa using hk)]
 refine ⟨⟨⟨R1, by omega, by omega, by omega⟩, ⟨?_, ?_, ?_, ?_, ?_⟩, .inl rfl, ⟨by omega, by omega⟩, fun i hi => ?_, fun i hi => ?_, t4 C a7⟩, ⟨⟨h2, hl⟩, ⟨rfl, rfl, rfl, rfl⟩, rfl, t1, t3⟩, fun y hy => ?_, ?_⟩
 ·rw [t1]; exact hd 0 (by omega)
 ·exact hd 1 (by omega)
 ·exact hd 2 (by omega)
 ·exact hd 3 (by omega)
 ·exact hd 4 (by omega)
 ·have e := a4 (i + 1) (by omega) (by omega)
  have k := Aiw l (Aar l.length) i (by omega)
  rw [List.getElem?_eq_getElem hi] at k
  rw [show R + 5 + i = R + 4 + (i + 1) by omega, e, Aph h2 hl (by omega)]
  exact (Option.some.inj k).symm
 ·rw [t1, a5 i (by omega), t2, List.getElem?_map, List.getElem?_eq_getElem hi]
  rfl
 ·simp only [Tr.adrs, List.mem_append, List.mem_range'_1, t1] at hy
  rcases hy with hy | hy
  ·omega
  ·have := t5 y hy; omega
 ·show (List.range' _ _ ++ Aak cs).Nodup
  rw [List.nodup_append]
  refine ⟨List.nodup_range', t6, fun x hx y hy e => ?_⟩
  simp only [List.mem_range'_1, t1] at hx
  have := t5 y hy
  omega
theorem PM.laid_claim {m : PM} {L : List Int} {c3 w x : Int} {R d i : Nat} (hi : i < d) (R1 : 1 <= R) (R2 : R + (2 * d + 4) <= m.C.length + 1) (h0 : at0 m.C (R + 4 + d + i) = 0) :
  ∃ X, ((if 0 < i then (m.laid L c3).write ((R + 4 + i : Nat) : Int) x else m.laid L c3).cas ((R + 4 + d + i : Nat) : Int) 0 w).2 = X /\ X.z = m.z /\ X.o = m.o /\ X.r = m.r /\ X.C.length = m.C.length + L.length /\ c3 <= X.c /\ X.c <= c3 + 2 /\ (∀ y, y <= m.C.length -> (y ≠ R + 4 + i \/ i = 0) -> y ≠ R + 4 + d + i -> at0 X.C y = at0 m.C y) /\ (0 < i -> at0 X.C (R + 4 + i) = x) /\ at0 X.C (R + 4 + d + i) = w /\ Aes X.C m.C.length L := by
 have l0 : (m.laid L c3).C.length = m.C.length + L.length := by show (m.C ++ L).length = _; rw [List.length_append]
 have a0 : ∀ y, y <= m.C.length -> at0 (m.laid L c3).C y = at0 m.C y := fun y hy => by
  by_cases e : y = 0
  ·subst e; rfl
  ·exact Agn (by omega) hy
 have b0 : Aes (m.laid L c3).C m.C.length L := Aka m.C L
 have e0 : (m.laid L c3).z = m.z /\ (m.laid L c3).o = m.o /\ (m.laid L c3).r = m.r /\ (m.laid L c3).c = c3 := ⟨rfl, rfl, rfl, rfl⟩
 generalize m.laid L c3 = m0 at *
 obtain ⟨m1, e1, P1, v1⟩ : ∃ m1, (if 0 < i then m0.write ((R + 4 + i : Nat) : Int) x else m0) = m1 /\ Pas m0 m1 (fun y => 0 < i /\ y = R + 4 + i) 1 /\ (0 < i -> at0 m1.C (R + 4 + i) = x) := by
  by_cases c : 0 < i
  ·rw [if_pos c]
   obtain ⟨q1, q2⟩ := Ab5 (m := m0) (y := R + 4 + i) (x := x) (fun y => 0 < i /\ y = R + 4 + i) (by omega) (by omega) ⟨c, rfl⟩
   exact ⟨_, rfl, q1, fun _ => q2⟩
  ·rw [if_neg c]
   exact ⟨_, rfl, (Pas.refl m0 _).mono (fun _ x => x) (by omega), fun h => (c h).elim⟩
 rw [e1]
 have s1 : at0 m1.C (R + 4 + d + i) = 0 := by rw [P1.get _ (fun e => by omega), a0 _ (by omega), h0]
 have l1 := P1.len
 have y2 := PM.cas_yes (m := m1) (y := R + 4 + d + i) (old := 0) (w := w) (by omega) (by omega) s1
 rw [y2]
 obtain ⟨P2, v2⟩ := Ab5 (m := m1) (y := R + 4 + d + i) (x := w) (· = R + 4 + d + i) (by omega) (by omega) rfl
 have c1 := P1.c0
 have c2 := P1.c1
 have c3' := P2.c0
 have c4 := P2.c1
 refine ⟨_, rfl, by rw [P2.z, P1.z, e0.1], by rw [P2.o, P1.o, e0.2.1], by rw [P2.r, P1.r, e0.2.2.1], by rw [P2.len, P1.len, l0], ?_, ?_, fun y hy hy1 hy2 => ?_, fun hi0 => ?_, v2, b0.congr (by rw [P2.len, P1.len]; exact Nat.le_refl _) (fun y y1 _ => ?_)⟩
 ·show c3 <= (m1.write _ _).c; omega
 ·show (m1.write _ _).c <= _; omega
 ·rw [P2.get y hy2, P1.get y (fun e => by omega), a0 y hy]
 ·rw [P2.get _ (by omega), v1 hi0]
 ·rw [P2.get _ (by omega), P1.get _ (fun e => by omega)]
section
variable (hT : Aa0 P tab) (HR : Aem tab) (HP : Aid tab) (Nu : Num P) (HS : Afx tab) (HK : Ae4 tab) (HG : Aep tab) (G : Amh tab) (V : Aea tab) (H : Has tab) (V9 : Acg tab) (HM : Agf tab)
include hT HR HP Nu HS HK HG G V H V9 HM
variable {x0 x1 x2 gt : Int} {mk gk pc dc : Value} {cm ok : Bool}
theorem Ayh {a : Nat} {sz sh ch0 sm0 : Int} {ks : List Int} {cs : List Tr} {l : List Pr} (hf : (Tr.inner a sz sh ch0 sm0 ks cs).old /\ (Tr.inner a sz sh ch0 sm0 ks cs).content = l) (h2 : 2 <= l.length) (h120 : l.length <= 120) (hdp : Adg cs <= 280) {h : Aac} {b bm A R i : Nat} {um : Option Nat} {m : PM} {i0 : Int} (r : Rcd h b (rnL 9 x0 x1 x2 A a l.length mk gk ((R : Int) * 8 + 3) i0 cm pc gt dc ok)) (mm : Aa8 h bm um m) (f : m.fine) (hb : ¬ cl bm um b) (hok : (Tr.inner a sz sh ch0 sm0 ks cs).shut.ok m.C) (hAd : A + 4 ∉ (Tr.inner a sz sh ch0 sm0 ks cs).adrs) (hc : m.c + (4 * (Aak cs).length : Nat) < 700000000) (A2 : A + 4 <= m.C.length) (hi : i < Aar l.length) (hA : at0 m.C (A + 4) = i) (R1 : 1 <= R) (R2 : R + (2 * Aar l.length + 4) <= m.C.length + 1) (hRA : A + 4 < R) (h0 : at0 m.C (R + 4 + Aar l.length + i) = 0) (asc : Asc (Aaq l i)) (room : (m.C.length : Int) + (Abc ((Aaq l i).length + 1) (Aaq l i) m.C.length).2.length <= m.z) :
  ∃ h' um' m' pc' k, k <= 4 * (Aak cs).length + 312 /\ Ab3 P 17 [(pp b), (pp bm)] (fun j => j = b \/ cl bm um j \/ h.nq <= j) h h' k /\ Rcd h' b (rnL 9 x0 x1 x2 A a l.length mk gk ((R : Int) * 8 + 3) i true pc' gt dc ok) /\ Aa8 h' bm um' m' /\ (∀ y, um' = some y -> um = some y \/ h.nq <= y) /\ (m'.z = m.z /\ m'.o = m.o /\ m'.r = m.r /\ m.c <= m'.c /\ m'.c <= m.c + (4 * (Aak cs).length + 303 : Nat)) /\ Awx l A R i m.C m'.C := by
 have fz := f.z1
 have fc := f.c
 have fl := f.len
 have hbl := r.lt
 have hml := mm.lt
 have hfit := hf
 have pn := Ac7 h2 h120
 have d11 := pn.deg11
 obtain ⟨h1, g, F1, hg, r1, rp1, g1, m1, s1⟩ := Anu hT HR HP Nu HG V H V9 HM r mm f hb (by omega) (by omega) (by omega) h2 h120 (by rw [show ((A : Int) + 4) = ((A + 4 : Nat) : Int) by omega, PM.get_at0, hA]) hi
 have em : (m.add ((A : Int) + 4) 1).2 = m.write ((A + 4 : Nat) : Int) ((i + 1 : Nat) : Int) := by
  unfold PM.add
  rw [show ((A : Int) + 4) = ((A + 4 : Nat) : Int) by omega, PM.get_at0, hA, show Aan .i64 ((i : Int) + 1) = ((i + 1 : Nat) : Int) by rw [Aav] <;> omega]
 rw [em] at m1
 obtain ⟨P1, v1⟩ := Ab5 (m := m) (y := A + 4) (x := ((i + 1 : Nat) : Int)) (· = A + 4) (by omega) A2 rfl
 have f1 := P1.fine f (by omega)
 have l1 := P1.len
 have c1 := P1.c1
 have d1 := P1.c0
 generalize m.write ((A + 4 : Nat) : Int) ((i + 1 : Nat) : Int) = M1 at m1 P1 v1 f1 l1 c1 d1
 have y1 := s1.nq
 obtain ⟨h2', u2, c3, ⟨hL, k, hk, ch, FL, sL⟩, ⟨gw, rp2⟩, m2, n2, q1, q2⟩ := Azv hT HP Nu HS HK HG G V H V9 HM hfit h2 h120 hdp rp1 g1 (by omega) m1 f1 (fun e => by have := hml _ e; omega) (fun e => by have := hml _ e; omega) hi ⟨by omega, by omega⟩ asc (Ado (by omega) _ (fun y hy => P1.get y (fun e => hAd (by rw [<- e, <- Ael]; exact hy))) hok) (by omega) (by rw [l1, P1.z]; exact room)
 have hS2 : ¬ (b = g + 1 \/ b = g \/ cl bm um b \/ h1.nq <= b) := fun e => by
  have := r1.lt
  rcases e with e | e | e | e
  ·omega
  ·omega
  ·exact hb e
  ·omega
 obtain ⟨ch', rL⟩ := Ab3.lift (fun q => Rcd q b (rnL 10 x0 x1 x2 A a l.length mk gk ((R : Int) * 8 + 3) i true (pp (g + 1)) gt dc ok)) ch r1 (fun q q' a s => a.same s hS2) (fun q q' a F s => Arl hT HR a F s hS2)
 have F3 := An3 hT HR rL FL sL hS2 rp2
 have r3 := rL.same sL hS2
 have hb2 : ¬ cl bm u2 b := fun e => by
  rcases e with e | e
  ·exact hb (.inl e)
  ·rcases n2 b e with e2 | e2
   ·exact hb (.inr e2)
   ·omega
 have s4 : Aad h2' (h2'.setR b (rnL 9 x0 x1 x2 A a l.length mk gk ((R : Int) * 8 + 3) i true (pp (g + 1)) gt dc ok)) (· = b) := Aad.setR rfl
 have m4 := m2.same s4 (fun j hj e => hb2 (e ▸ hj))
 have hS0 : ∀ j, (j = b \/ cl bm um j) -> (j = b \/ cl bm um j \/ h.nq <= j) := fun j e => e.elim .inl (fun e => .inr (.inl e))
 have hS : ∀ j, (j = g + 1 \/ j = g \/ cl bm um j \/ h1.nq <= j) -> (j = b \/ cl bm um j \/ h.nq <= j) := fun j e => by
  rcases e with e | e | e | e
  ·exact .inr (.inr (by omega))
  ·exact .inr (.inr (by omega))
  ·exact .inr (.inl e)
  ·exact .inr (.inr (by omega))
 obtain ⟨X, eX, z1, z2, z3, z4, z5, z6, z7, z8, z9, z10⟩ := PM.laid_claim (m := M1) (L := (Abc ((Aaq l i).length + 1) (Aaq l i) M1.C.length).2) (c3 := c3) (w := (Abc ((Aaq l i).length + 1) (Aaq l i) M1.C.length).1) (x := Aca (Aaq l i) 0) hi R1 (by omega) (by rw [P1.get _ (by omega)]; exact h0)
 rw [eX] at m4
 rw [l1] at z4 z9 z10
 refine ⟨_, u2, X, _, 1 + k + 1, by omega, ((Ab3.one F1 (s1.mono hS0)).app (ch'.mono hS)).app (.one F3 ((sL.mono hS).trans s4 (fun j _ e => .inl e))), Rcd.set _ r3.lt, m4, fun y hy => (n2 y hy).imp_right (fun e => by omega), ⟨by rw [z1, P1.z], by rw [z2, P1.o], by rw [z3, P1.r], by omega, by omega⟩, ⟨z4, by rw [z7 (A + 4) (by omega) (by omega) (by omega), v1], z8, z9, z10, fun y hy hyA y1 y2 => by rw [z7 y (by omega) y1 y2, P1.get y hyA]⟩⟩
end
section
variable (hT : Aa0 P tab) (HR : Aem tab) (HP : Aid tab) (Nu : Num P) (HS : Afx tab) (HK : Ae4 tab) (HG : Aep tab) (G : Amh tab) (V : Aea tab) (H : Has tab) (V9 : Acg tab) (HM : Agf tab)
include hT HR HP Nu HS HK HG G V H V9 HM
variable {x0 x1 x2 gt : Int} {mk gk pc dc : Value} {cm ok : Bool}
theorem Aul {a : Nat} {sz sh ch0 sm0 : Int} {ks : List Int} {cs : List Tr} {l : List Pr} (hf : (Tr.inner a sz sh ch0 sm0 ks cs).old /\ (Tr.inner a sz sh ch0 sm0 ks cs).content = l) (h2 : 2 <= l.length) (h120 : l.length <= 120) (hdp : Adg cs <= 280) (asc : Asc l) {h : Aac} {b bm A R : Nat} {um : Option Nat} {m : PM} {i0 : Int} (r : Rcd h b (rnL 9 x0 x1 x2 A a l.length mk gk ((R : Int) * 8 + 3) i0 cm pc gt dc ok)) (mm : Aa8 h bm um m) (f : m.fine) (hb : ¬ cl bm um b) (hok : (Tr.inner a sz sh ch0 sm0 ks cs).shut.ok m.C) (hin : ∀ y ∈ (Tr.inner a sz sh ch0 sm0 ks cs).adrs, y < A) (hc : m.c + (12 * (4 * (Aak cs).length + 310) : Nat) < 600000000) (hR : R + (2 * Aar l.length + 4) = m.C.length + 1) (hRA : A + 4 < R) (h0 : at0 m.C (A + 4) = 0) (hz : ∀ j, j < Aar l.length -> at0 m.C (R + 4 + Aar l.length + j) = 0) (room : (m.C.length : Int) + (Aay (Abc l.length) l m.C.length (Aar l.length)).2.length <= m.z) :
  ∀ i, i <= Aar l.length -> ∃ h' um' m' pc' cm' k, ∃ i1 : Int, k <= i * (4 * (Aak cs).length + 312) /\ Ab3 P 17 [(pp b), (pp bm)] (fun j => j = b \/ cl bm um j \/ h.nq <= j) h h' k /\ Rcd h' b (rnL 9 x0 x1 x2 A a l.length mk gk ((R : Int) * 8 + 3) i1 cm' pc' gt dc ok) /\ Aa8 h' bm um' m' /\ (∀ y, um' = some y -> um = some y \/ h.nq <= y) /\ (m'.z = m.z /\ m'.o = m.o /\ m'.r = m.r /\ m.c <= m'.c /\ m'.c <= m.c + (i * (4 * (Aak cs).length + 303) : Nat)) /\ Auw l A R m.C i m'.C := by
 have pn := Ac7 h2 h120
 have d11 := pn.deg11
 have hbl := r.lt
 have fc := f.c
 have fz := f.z1
 have klen : ∀ i, i < Aar l.length -> (Aay (Abc l.length) l m.C.length i).2.length + (Abc l.length (Aaq l i) (m.C.length + (Aay (Abc l.length) l m.C.length i).2.length)).2.length <= (Aay (Abc l.length) l m.C.length (Aar l.length)).2.length := by
  have mono : ∀ j, ∀ i, i <= j -> (Aay (Abc l.length) l m.C.length i).2.length <= (Aay (Abc l.length) l m.C.length j).2.length := by
   intro j
   induction j with
   | zero => intro i hi; rw [Nat.le_zero.1 hi]; exact Nat.le_refl _
   | succ j ih =>
    intro i hi
    by_cases e : i = j + 1
    ·subst e; exact Nat.le_refl _
    ·have := ih i (by omega)
     simp only [Aay, List.length_append]; omega
  intro i hi
  have := mono (Aar l.length) (i + 1) hi
  simpa only [Aay, List.length_append] using this
 intro i
 induction i with
 | zero =>
  intro _
  exact ⟨h, um, m, pc, cm, 0, i0, Nat.zero_le _, .nil h, r, mm, fun y hy => .inl hy, ⟨rfl, rfl, rfl, Int.le_refl _, by rw [Nat.zero_mul]; simp⟩, ⟨by simp [Aay], by simpa using h0, fun _ _ _ => rfl, fun j _ e => by omega, fun j e => by omega, fun j _ e => hz j e, ⟨by simp [Aay], fun j v hv => by simp [Aay] at hv⟩⟩⟩
 | succ i ih =>
  intro hi
  obtain ⟨h1, u1, m1, pc1, cm1, k1, i1, hk1, ch1, r1, mm1, n1, ⟨z1, o1, q1, c1, c1'⟩, I1⟩ := ih (by omega)
  have kl := klen i (by omega)
  have hp := Abu h2 h120 (i := i) (by omega)
  have hless := pn.less i (by omega)
  have eL : Abc ((Aaq l i).length + 1) (Aaq l i) m1.C.length = Abc l.length (Aaq l i) (m.C.length + (Aay (Abc l.length) l m.C.length i).2.length) := by
   rw [I1.len, Alp _ l.length _ _ (by omega) (by omega) (by omega)]
  have hlen := I1.len
  have hml := Nat.mul_le_mul_right (4 * (Aak cs).length + 303) (show i <= 11 by omega)
  have f1 : m1.fine := ⟨by rw [z1]; exact f.z0, by rw [z1]; exact f.z1, by rw [z1]; omega, ⟨by omega, by omega⟩, by rw [o1]; exact f.o, by rw [q1]; exact f.r⟩
  have hb1 : ¬ cl bm u1 b := fun e => by
   rcases e with e | e
   ·exact hb (.inl e)
   ·rcases n1 b e with e2 | e2
    ·exact hb (.inr e2)
    ·omega
  have ok1 : (Tr.inner a sz sh ch0 sm0 ks cs).shut.ok m1.C := Ado (by omega) _ (fun y hy => by
   rw [Ael] at hy
   have := hin y hy
   exact I1.old y (by omega) (by omega)) hok
  obtain ⟨h2', u2, m2, pc2, k2, hk2, ch2, r2, mm2, n2, ⟨z2, o2, q2, c2, c2'⟩, C2⟩ := Ayh hT HR HP Nu HS HK HG G V H V9 HM hf h2 h120 hdp r1 mm1 f1 hb1 ok1 (fun e => by have := hin _ e; omega) (by omega) (by omega) (by omega) I1.nxt (by omega) (by omega) hRA (I1.none i (Nat.le_refl _) (by omega)) (Aok asc i) (by rw [eL, z1]; omega)
  have x1 := ch1.same.nq
  refine ⟨h2', u2, m2, pc2, true, k1 + k2, i, by rw [Nat.add_mul, Nat.one_mul]; omega, (ch1.app (ch2.mono (fun j e => ?_))), r2, mm2, fun y hy => ?_, ⟨by rw [z2, z1], by rw [o2, o1], by rw [q2, q1], by omega, ?_⟩, I1.step h2 h120 (by omega) hR hRA C2⟩
  ·rcases e with e | (e | e) | e
   ·exact .inl e
   ·exact .inr (.inl (.inl e))
   ·exact (n1 j e).elim (fun e => .inr (.inl (.inr e))) (fun e => .inr (.inr e))
   ·exact .inr (.inr (by omega))
  ·rcases n2 y hy with e | e
   ·exact n1 y e
   ·exact .inr (by omega)
  ·have : (i + 1) * (4 * (Aak cs).length + 303) = i * (4 * (Aak cs).length + 303) + (4 * (Aak cs).length + 303) := by rw [Nat.add_mul, Nat.one_mul]
   omega
omit HP HS HK HG G in
theorem Axj {h : Aac} {b bm A R n : Nat} {tg : Int} {um : Option Nat} {m : PM} (n2 : 2 <= n) (n120 : n <= 120) (r : Rcd h b (rnL 11 x0 x1 x2 A tg n mk gk ((R : Int) * 8 + 3) 0 cm pc gt dc ok)) (mm : Aa8 h bm um m) (f : m.fine) (hb : ¬ cl bm um b) (hc : m.c < 800000000) (R1 : 1 <= R) (hR : R + (2 * Aar n + 4) <= m.C.length + 1) (hz : ∀ j, j < Aar n -> at0 m.C (R + 4 + Aar n + j) ≠ 0) :
  ∀ i, i <= Aar n -> 0 < i -> ∃ h' m' k, k <= i /\ Ab3 P 17 [(pp b), (pp bm)] (fun j => j = b \/ cl bm um j) h h' k /\ Rcd h' b (rnL (if Aar n <= i then 12 else 11) x0 x1 x2 A tg n mk gk ((R : Int) * 8 + 3) i false pc gt dc ok) /\ Aa8 h' bm um m' /\ Tk m m' i := by
 have pn := Ac7 n2 n120
 have d11 := pn.deg11
 have fl := f.len
 have fz := f.z1
 intro i
 induction i with
 | zero => intro _ e; omega
 | succ i ih =>
  intro hi _
  by_cases h0 : i = 0
  ·subst h0
   obtain ⟨h1, F1, r1, m1, s1⟩ := Ati (i := 0) hT HR Nu V H V9 HM r mm f hb R1 (by omega) n2 n120 (by omega) rfl (by rw [PM.get_at0]; exact hz 0 (by omega))
   exact ⟨h1, _, 1, by omega, .one F1 s1, r1, m1, Add (by omega) (by omega)⟩
  ·obtain ⟨h1, m1, k1, hk1, ch1, r1, mm1, t1⟩ := ih (by omega) (by omega)
   rw [if_neg (by omega)] at r1
   have c1 := t1.c1
   obtain ⟨h2, F2, r2, mm2, s2⟩ := Ati (i := i) hT HR Nu V H V9 HM r1 mm1 (t1.fine f (by omega)) hb R1 (by omega) n2 n120 (by omega) rfl (by rw [PM.get_at0, t1.C]; exact hz i (by omega))
   exact ⟨h2, _, k1 + 1, by omega, ch1.app (.one F2 s2), r2, mm2, t1.trans (Add (by omega) (by rw [t1.C]; omega))⟩
end
theorem Aiy {u0 u1 u2 : Option Nat} {x0 x1 : Nat} (n1 : ∀ y, u1 = some y -> u0 = some y \/ x0 <= y) (n2 : ∀ y, u2 = some y -> u1 = some y \/ x1 <= y) (hx : x0 <= x1) : ∀ y, u2 = some y -> u0 = some y \/ x0 <= y := fun y hy => by
 rcases n2 y hy with e | e
 ·exact n1 y e
 ·exact .inr (by omega)
theorem A1x {b bm x0 x1 : Nat} {u0 u1 : Option Nat} (n1 : ∀ y, u1 = some y -> u0 = some y \/ x0 <= y) (hx : x0 <= x1) : ∀ j, (j = b \/ cl bm u1 j \/ x1 <= j) -> (j = b \/ cl bm u0 j \/ x0 <= j) := fun j e => by
 rcases e with e | (e | e) | e
 ·exact .inl e
 ·exact .inr (.inl (.inl e))
 ·exact (n1 j e).elim (fun e => .inr (.inl (.inr e))) (fun e => .inr (.inr e))
 ·exact .inr (.inr (by omega))
theorem Ayb {b bm x0 : Nat} {u0 u1 : Option Nat} (n1 : ∀ y, u1 = some y -> u0 = some y \/ x0 <= y) : ∀ j, (j = b \/ cl bm u1 j) -> (j = b \/ cl bm u0 j \/ x0 <= j) := fun j e => by
 rcases e with e | e | e
 ·exact .inl e
 ·exact .inr (.inl (.inl e))
 ·exact (n1 j e).elim (fun e => .inr (.inl (.inr e))) (fun e => .inr (.inr e))
theorem Aof {b bm x0 : Nat} {u0 u1 : Option Nat} (hb : ¬ cl bm u0 b) (hbl : b < x0) (n1 : ∀ y, u1 = some y -> u0 = some y \/ x0 <= y) : ¬ cl bm u1 b := fun e => by
 rcases e with e | e
 ·exact hb (.inl e)
 ·rcases n1 b e with e2 | e2
  ·exact hb (.inr e2)
  ·omega
theorem Tr.word_pos (t : Tr) : 0 < t.word := by cases t <;> simp only [Tr.word, Tr.adr, Tr.kind] <;> omega
theorem Azu {n : Nat} (h2 : 2 <= Aar n) : (Ac5 n).length = 2 * Aar n + 4 := by simp [Ac5]; omega
theorem Au6 {n k : Nat} (hk : k < (Ac5 n).length) (h : 2 <= k) : (Ac5 n)[k] = 0 := by
 have e : Ac5 n = [(Aar n : Int), (n : Int)] ++ List.replicate (3 + (Aar n - 1) + Aar n) 0 := by
  rw [<- List.replicate_append_replicate, <- List.replicate_append_replicate]
  simp [Ac5, List.replicate_succ]
 simp only [e]
 rw [List.getElem_append_right (by simp; omega)]
 simp
theorem Aur {l : List Pr} (h2 : 2 <= l.length) (h120 : l.length <= 120) (u : Nat) : (Aay (Abc l.length) l u (Aar l.length)).2.length + (2 * Aar l.length + 4) = Abf l.length := by
 have pn := Ac7 h2 h120
 have d2 := pn.deg2
 have e := Agi (l.length + 1) l u (by omega) h120
 rw [Afo h2] at e
 have kl := Ac0 l (Aar l.length)
 have k2 := Amd (lay := Abc l.length) (l := l) (u := u) (Aar l.length)
 simp only [List.length_append, List.length_cons, List.length_nil] at e
 omega
section
variable (hT : Aa0 P tab) (HR : Aem tab) (HRw : tab 28 = some af28) (HP : Aid tab) (Nu : Num P) (HS : Afx tab) (HKM : Ah3 tab) (HMk : Air tab) (HK : Ae4 tab) (HG : Aep tab) (G : Amh tab) (V : Aea tab) (H : Has tab) (V9 : Acg tab) (HM : Agf tab)
include hT HR HP Nu HS HKM HMk HK HG G V H V9 HM
variable {x0 x1 x2 tg n rt i gt : Int} {mk gk pc dc : Value} {cm ok : Bool}
theorem A0n {a : Nat} {sz sh ch0 sm0 : Int} {ks : List Int} {cs : List Tr} {l : List Pr} (hf : (Tr.inner a sz sh ch0 sm0 ks cs).old /\ (Tr.inner a sz sh ch0 sm0 ks cs).content = l) (h2 : 2 <= l.length) (h120 : l.length <= 120) (hdp : Adg cs <= 280) (asc : Asc l) (hnd : (Tr.inner a sz sh ch0 sm0 ks cs).adrs.Nodup) {h : Aac} {b bm A g p : Nat} {um : Option Nat} {m : PM} (r : Rcd h b (rnL 2 x0 x1 x2 A tg n mk gk rt i cm pc gt dc ok)) (mm : Aa8 h bm um m) (f : m.fine) (hb : ¬ cl bm um b) (hok : (Tr.inner a sz sh ch0 sm0 ks cs).ok m.C) (hc : m.c + (12 * (4 * (Aak cs).length + 310) + 10 * (Tr.inner a sz sh ch0 sm0 ks cs).adrs.length : Nat) < 500000000) (A1 : 1 <= A) (A2 : A + 4 <= m.C.length) (hin : ∀ y ∈ (Tr.inner a sz sh ch0 sm0 ks cs).adrs, 1 <= y /\ y < A)
  (hA : ∀ k (hk : k < 5), at0 m.C (A + k) = [(a : Int) * 8 + 3, (g : Int), (p : Int), 0, 0][k]) (g1 : 1 <= g) (g2 : g < A) (p1 : 1 <= p) (p2 : p < A) (hgp : g ≠ p) (hgn : g ∉ (Tr.inner a sz sh ch0 sm0 ks cs).adrs) (hpn : p ∉ (Tr.inner a sz sh ch0 sm0 ks cs).adrs) (hg : at0 m.C g = 0) (hp : at0 m.C p = (A : Int) * 8 + 4) (room : (m.C.length : Int) + (Abf l.length + 5 : Nat) <= m.z) :
  ∃ h' um' m', ∃ T : Tr, ∃ L : List Value, Adm P 17 [(pp b), (pp bm)] (fun j => j = b \/ cl bm um j \/ h.nq <= j) (12 * (4 * (Aak cs).length + 320) + 10 * (Tr.inner a sz sh ch0 sm0 ks cs).adrs.length) h h' true /\ Rcd h' b L /\ (∃ x0 x1 x2 A' tg n mk gk rt i cm pc gt dc, L = rnL 15 x0 x1 x2 A' tg n mk gk rt i cm pc gt dc true) /\ Aa8 h' bm um' m' /\ (∀ y, um' = some y -> um = some y \/ h.nq <= y) /\ (m'.z = m.z /\ m'.o = m.o /\ m'.r = m.r /\ m'.C.length = m.C.length + (Abf l.length + 5) /\ m.c <= m'.c /\ m'.c <= m.c + (12 * (4 * (Aak cs).length + 310) + 10 * (Tr.inner a sz sh ch0 sm0 ks cs).adrs.length : Nat)) /\ (∀ y, y < A -> y ∉ (Tr.inner a sz sh ch0 sm0 ks cs).adrs -> y ≠ p -> at0 m'.C y = at0 m.C y) /\ at0 m'.C p = T.word /\ T.ok m'.C /\ T.fits l /\ (∀ y ∈ T.adrs, m.C.length < y /\ y <= m'.C.length) /\ T.adrs.Nodup /\ (Tr.inner a sz sh ch0 sm0 ks cs).shut.ok m'.C := by
 have pn := Ac7 h2 h120
 have d2 := pn.deg2
 have d11 := pn.deg11
 have fz := f.z1
 have fc := f.c
 have hbl := r.lt
 have kc := Aur h2 h120
 have rl := Azu d2
 have hml := Nat.mul_le_mul_right (4 * (Aak cs).length + 303) (show Aar l.length <= 11 from d11)
 have hml2 := Nat.mul_le_mul_right (4 * (Aak cs).length + 312) (show Aar l.length <= 11 from d11)
 obtain ⟨h1, u1, M1, mk1, k1, hk1, ch1, r1, m1, n1, ⟨z1, o1, q1, l1, c1, c1'⟩, a1, v1, ok1, w1⟩ := Axe hT HR Nu HS HKM HMk V H V9 HM hf h2 h120 hdp hnd r mm f hb hok (by omega) A1 A2 (fun y hy => ⟨(hin y hy).1, by have := (hin y hy).2; omega⟩) (hA 0 (by omega)) (hA 3 (by omega)) (fun e => by have := (hin _ e).2; omega) (by rw [rl]; have := kc 0; omega)
 rw [rl] at l1
 have s1 := ch1.same.nq
 have hb1 := Aof hb hbl n1
 have f1 : M1.fine := ⟨by rw [z1]; exact f.z0, by rw [z1]; exact f.z1, by rw [z1]; have := kc 0; omega, ⟨by omega, by omega⟩, by rw [o1]; exact f.o, by rw [q1]; exact f.r⟩
 rw [show ((m.C.length : Int) + 1) = ((m.C.length + 1 : Nat) : Int) by omega] at r1
 have nin : ∀ y, A <= y -> y ∉ (Tr.inner a sz sh ch0 sm0 ks cs).adrs := fun y hy e => by have := (hin y e).2; omega
 have hA1' : ∀ k, k < 5 -> k ≠ 3 -> at0 M1.C (A + k) = at0 m.C (A + k) := fun k hk hk3 => a1 _ (by omega) (nin _ (by omega)) (by omega)
 have hw1 := w1
 have cl1 := kc M1.C.length
 obtain ⟨h2', u2, M2, pc2, cm2, k2, i2, hk2, ch2, r2, m2, n2, ⟨z2, o2, q2, c2, c2'⟩, I2⟩ := Aul hT HR HP Nu HS HK HG G V H V9 HM hf h2 h120 hdp asc r1 m1 f1 hb1 ok1 (fun y hy => (hin y hy).2) (by omega) (by omega) (by omega) (by rw [hA1' 4 (by omega) (by omega)]; exact hA 4 (by omega)) (fun j hj => by rw [show m.C.length + 1 + 4 + Aar l.length + j = m.C.length + 1 + (4 + Aar l.length + j) by omega, hw1 _ (by omega)]; exact Au6 _ (by omega)) (by rw [z1]; omega) (Aar l.length) (Nat.le_refl _)
 have s2 := ch2.same.nq
 have hb2 := Aof hb1 (by omega) n2
 have l2 := I2.len
 have f2 : M2.fine := ⟨by rw [z2]; exact f1.z0, by rw [z2]; exact f1.z1, by rw [z2, z1]; omega, ⟨by omega, by omega⟩, by rw [o2]; exact f1.o, by rw [q2]; exact f1.r⟩
 obtain ⟨tok, tfit, tadr, tnd⟩ := I2.tree h2 h120 (by omega) (by omega) (by omega) hw1
 generalize hTT : A49 l (m.C.length + 1) M1.C.length = TT at tok tfit tadr tnd
 have hTa : TT.word = ((m.C.length + 1 : Nat) : Int) * 8 + 3 := by rw [<- hTT]; rfl
 obtain ⟨h3, F3, r3, m3, s3⟩ := Arf hT HR Nu V9 HM r2 m2 f2 hb2 (by omega) h2 h120 (x := (Aar l.length : Int)) (by rw [show ((A : Int) + 4) = ((A + 4 : Nat) : Int) by omega, PM.get_at0]; exact I2.nxt) (Int.le_refl _)
 obtain ⟨M3, e3, P3⟩ : ∃ M3, (M2.add ((A : Int) + 4) 1).2 = M3 /\ Pas M2 M3 (· = A + 4) 1 := by
  refine ⟨_, rfl, ?_⟩
  unfold PM.add
  rw [show ((A : Int) + 4) = ((A + 4 : Nat) : Int) by omega]
  exact (Ab5 (· = A + 4) (by omega) (by omega) rfl).1
 rw [e3] at m3
 have f3 := P3.fine f2 (by omega)
 have l3 := P3.len
 have c3 := P3.c0
 have c3' := P3.c1
 have y3 := s3.nq
 have kidw : ∀ j, j < Aar l.length -> at0 M3.C (m.C.length + 1 + 4 + Aar l.length + j) ≠ 0 := fun j hj => by
  rw [P3.get _ (by omega), I2.kids j hj]
  have tk := Ano (f := l.length) (l := l) (u := M1.C.length) h2 h120 (Nat.le_refl _) _ (Nat.le_refl _)
  rw [tk.words, List.getElem?_map]
  have hl := tk.len
  rw [List.getElem?_eq_getElem (by omega)]
  have := Tr.word_pos ((Afh (Af0 l.length) (Abc l.length) l M1.C.length (Aar l.length))[j]'(by omega))
  show Tr.word _ ≠ 0
  omega
 obtain ⟨h4, M4, k4, hk4, ch4, r4, m4, t4⟩ := Axj hT HR Nu V H V9 HM h2 h120 r3 m3 f3 hb2 (by omega) (by omega) (by omega) kidw (Aar l.length) (Nat.le_refl _) (by omega)
 rw [if_pos (Nat.le_refl _)] at r4
 have f4 := t4.fine f3 (by omega)
 have c4 := t4.c0
 have c4' := t4.c1
 have y4 := ch4.same.nq
 have old4 : ∀ y, y < A + 5 -> y ≠ A + 4 -> at0 M4.C y = at0 M1.C y := fun y h1 h2 => by rw [t4.C, P3.get y h2, I2.old y (by omega) h2]
 obtain ⟨h5, u5, M5, bd5, run5, r5, m5, n5, ⟨z5, o5, q5, l5, c5, c5'⟩, a5, v5⟩ := Apd hT HR HS V H V9 HM r4 m4 f4 hb2 (by rw [t4.C, t4.z, P3.z, z2, z1]; omega) (by omega) A1 (by rw [t4.C]; omega) g1 (by rw [t4.C]; omega) p1 (by rw [t4.C]; omega) hgp
  (by rw [old4 _ (by omega) (by omega), hA1' 1 (by omega) (by omega)]; exact hA 1 (by omega)) (by rw [old4 _ (by omega) (by omega), hA1' 2 (by omega) (by omega)]; exact hA 2 (by omega)) (by rw [old4 g (by omega) (by omega), a1 g (by omega) hgn (by omega)]; exact hg) (by rw [old4 p (by omega) (by omega), a1 p (by omega) hpn (by omega)]; exact hp)
 have e4 := t4.C
 have n12 := Aiy n1 n2 s1
 have hlen5 : M5.C.length = m.C.length + (Abf l.length + 5) := by rw [l5, e4, l3, l2]; omega
 refine ⟨h5, u5, M5, TT, _, ((((ch1.app (ch2.mono (A1x n1 s1))).app (.one F3 (s3.mono (Ayb n12)))).app (ch4.mono (Ayb n12))).to (run5.mono (A1x n12 (by omega)))).le (by omega), r5, ⟨_, _, _, _, _, _, _, _, _, _, _, _, _, _, rfl⟩, m5, Aiy n12 n5 (by omega), ⟨by rw [z5, t4.z, P3.z, z2, z1], by rw [o5, t4.o, P3.o, o2, o1], by rw [q5, t4.r, P3.r, q2, q1], hlen5, by omega, by omega⟩, fun y hy hyn hyp => ?_, by rw [v5, hTa], ?_, tfit, fun y hy => ?_, tnd, ?_⟩
 ·rw [a5 y (by rw [e4]; omega) hyp, old4 y (by omega) (by omega), a1 y (by omega) hyn (by omega)]
 ·refine Ado (by rw [hlen5]; omega) _ (fun y hy => ?_) tok
  have := tadr y hy
  rw [a5 y (by rw [e4, l3]; omega) (by omega), e4, P3.get y (by omega)]
 ·have := tadr y hy
  rw [hlen5]; omega
 ·refine Ado (by rw [hlen5]; omega) _ (fun y hy => ?_) ok1
  rw [Ael] at hy
  have := (hin y hy).2
  rw [a5 y (by rw [e4]; omega) (fun e => hpn (e ▸ hy)), old4 y (by omega) (by omega)]
end
end
end Go.Proofs.YtnonihjoimobmaaGreat.Ai
