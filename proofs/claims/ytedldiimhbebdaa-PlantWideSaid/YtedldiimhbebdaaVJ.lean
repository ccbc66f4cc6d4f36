/- Is it ideal. -/
import Derived.Test.YtedldiimhbebdaaVH
import Derived.Test.YtedldiimhbebdaaTabOk
namespace Go.Proofs.Ytedldiimhbebdaa.Ai
open Go.Proofs.Ytedldiimhbebdaa
noncomputable section
set_option linter.unusedVariables false
open Go.RowKit
structure HasV8 (tab : Nat → Option AFunc) : Prop where
  v45 : tab 45 = some af45
  v79 : tab 79 = some af79
  v115 : tab 115 = some af115

theorem hasV8 : HasV8 tabT.get := ⟨by kernel_rfl, by kernel_rfl, by kernel_rfl⟩

/-- two cells at once -/
def st2 (h : Heap) (p v : Value) : Option (Value × Heap) := match p with
  | .pointer (some ⟨b, o, none⟩) => (let vs := v.cells.toList
      bif Nat.beq vs.length 2 && Nat.ble 1 2 then (match h.wrs b o vs with
        | some h' => some (undef, h')
        | none => none) else none)
  | _ => none
theorem eop_store2 {ts : T Value} {h : Heap} {a x : Opd} : eop ts h (.store 2 a x) = st2 h (ev ts a) (ev ts x) := (rfl)
theorem st2_agg {h h' : Heap} {b o : Nat} {u v : Value} (w : h.wrs b o [u, v] = some h') : st2 h (.pointer (some ⟨b, o, none⟩)) (.agg #[u, v]) = some (undef, h') := by
  show (match h.wrs b o [u, v] with | some h' => some (undef, h') | none => none) = _
  rw [w]
theorem wrs2_of {h : Heap} {b n s : Nat} {x y u v : Value} {g : Bool} (hb : h.blks.get b = some ⟨[x, y], n, s, true, g⟩) (hu : scalar u = true) (hv : scalar v = true) : h.wrs b 0 [u, v] = some (h.setB b ⟨[u, v], n, s, true, g⟩) := by
  unfold Heap.wrs; rw [hb]
  have : 0 + 2 ≤ [x, y].length := Nat.le_refl _
  simp only [List.length_cons, List.length_nil, Nat.zero_add, leLen_le this, List.all_cons, hu, hv, List.all_nil, Bool.and_true, cond_true, spl_eq]
  rfl
theorem rds2_of {h : Heap} {b n s : Nat} {u v : Value} {o g : Bool} (hb : h.blks.get b = some ⟨[u, v], n, s, o, g⟩) : h.rds b 0 2 = some [u, v] := by
  unfold Heap.rds; rw [hb]; rfl
theorem pop_build {ts : T Value} {zero : List Value} {ps : List (Nat × Nat × Opd)} : pop ts (.build zero ps) = (match fillA zero (evP ts ps) with | some cs => some (.agg cs.toArray) | none => none) := (rfl)

mutual
def Tr.first : Tr → Int
  | .empty _ => 0
  | .leaf _ k _ => k
  | .inner _ _ _ _ _ _ cs => firsts cs
def firsts : List Tr → Int
  | [] => 0
  | t :: _ => t.first
end

mutual
def Tr.idl : Tr → Prop
  | .empty _ => True
  | .leaf _ _ _ => True
  | .inner _ sz sh ch sm ks cs => ((2 ≤ (contents cs).length ∧ (contents cs).length ≤ 120) ∧ cs.length = degN (contents cs).length ∧ sz = ((contents cs).length : Nat) ∧ sh = 0 ∧ ch = 0 ∧ sm = 0 ∧ (∀ i (h : i < cs.length), cs[i].content.length = sizeN (contents cs).length i) ∧ ∀ i (h : i < ks.length) (h2 : i + 1 < cs.length), ks[i] = cs[i + 1].first) ∧ idls cs
def idls : List Tr → Prop
  | [] => True
  | t :: cs => t.idl ∧ idls cs
end

theorem idls_mem : ∀ {cs : List Tr}, idls cs → ∀ i (h : i < cs.length), cs[i].idl
  | t :: cs, ⟨a, b⟩, 0, _ => a
  | t :: cs, ⟨a, b⟩, i + 1, h => idls_mem b i (by simpa using h)

/-- of a tree -/
def IdlP (P : Program) (bm : Nat) (um : Option Nat) (C : List Int) (z c o r : Int) (t : Tr) : Prop :=
  ∀ (h : Heap), MemAt h bm um C z c o r → t.ok C → t.idl → FSpec P 79 [.pointer (some ⟨bm, 0, none⟩), I t.word] h fun v h' => v = .tuple #[.agg #[I t.content.length, I t.first], .bool true] ∧ Same h h' (fun _ => False)

theorem cfOf_neA {f g : Nat} {args args2 : List Value} {h h2 k : Heap} {v : Value} {cf : CallF} (ne : args2 ≠ args) : cfOf f args h v k cf (.fn g) args2 h2 = cf (.fn g) args2 h2 := by
  unfold cfOf
  rw [if_neg (by rintro ⟨_, e, _⟩; exact ne e)]

theorem tailH {kR : Heap} {p5 p8 pA lim i : Nat} {tot tot' n f g : Int} {u8 : Option Nat} {L : List Value} (gR : kR.blks.get p5 = some ⟨[I tot, I f], 2, 2, true, false⟩) (zR : kR.blks.get pA = some ⟨[I n, I g], 2, 2, true, false⟩) (z8 : kR.blks.get p8 = some ⟨[ownSl u8 i], 1, 1, true, false⟩) (oR : OwnAt kR u8 1 i L) (h58 : p5 ≠ p8) (h5 : p5 < lim) (h8 : p8 < lim) (hA5 : pA ≠ p5) (hA8 : pA ≠ p8) (hA : pA < kR.next) (hl : lim ≤ kR.next) (hu : ∀ y, u8 = some y → lim ≤ y) (hi : i < 1000000) :
    ∃ kS kT u9 kU kV, kR.rd p5 0 = some (I tot) ∧ kR.rd pA 0 = some (I n) ∧ kR.wrs p5 0 [I tot'] = some kS ∧ kS.rd p8 0 = some (ownSl u8 i) ∧ kS.rd pA 0 = some (I n) ∧ kS.new ⟨[I n], 1, 1, true, false⟩ = kT ∧ appV kT 1 8 (ownSl u8 i) (.slice (some ⟨kS.next, 0, none⟩) 1 1) = some (ownSl u9 (i + 1), kU) ∧ kU.wrs p8 0 [ownSl u9 (i + 1)] = some kV ∧ kV.blks.get p5 = some ⟨[I tot', I f], 2, 2, true, false⟩ ∧ kV.blks.get p8 = some ⟨[ownSl u9 (i + 1)], 1, 1, true, false⟩ ∧ OwnAt kV u9 1 (i + 1) (L ++ [I n]) ∧ (∀ y, u9 = some y → lim ≤ y) ∧ Same kR kV (fun j => j = p5 ∨ j = p8 ∨ u8 = some j) := by
  have wS : kR.wrs p5 0 [I tot'] = some (kR.setB p5 ⟨[I tot', I f], 2, 2, true, false⟩) := wrs1_of gR rfl (by simp) rfl
  have sS : Same kR (kR.setB p5 ⟨[I tot', I f], 2, 2, true, false⟩) (fun j => j = p5) := Same.setB rfl
  have gS : (kR.setB p5 ⟨[I tot', I f], 2, 2, true, false⟩).blks.get p5 = some ⟨[I tot', I f], 2, 2, true, false⟩ := by rw [setB_get, if_pos rfl]
  generalize kR.setB p5 ⟨[I tot', I f], 2, 2, true, false⟩ = kS at wS sS gS
  have xS := sS.next
  have r8 : kS.blks.get p8 = some ⟨[ownSl u8 i], 1, 1, true, false⟩ := by rw [sS.get p8 (by omega) (fun e => h58 e.symm)]; exact z8
  have rA : kS.rd pA 0 = some (I n) := rd_of (by rw [sS.get pA (by omega) hA5]; exact zR)
  have oS := oR.same sS (fun y hy e => by have := hu y hy; omega)
  have hcell : RdAt (kS.new ⟨[I n], 1, 1, true, false⟩) kS.next 0 1 1 1 [I n] := RdAt.fresh kS [I n] 1 1 true false rfl
  have sT : Same kS (kS.new ⟨[I n], 1, 1, true, false⟩) (fun _ => False) := Same.new
  have xT : (kS.new ⟨[I n], 1, 1, true, false⟩).next = kS.next + 1 := rfl
  generalize hhT : kS.new ⟨[I n], 1, 1, true, false⟩ = kT at hcell sT xT
  obtain ⟨u9, kU, aU, oU, sU, nU⟩ := app_own (bytes := 8) (oS.same sT (fun _ _ x => x)) hcell.src rfl rfl (by omega) (by omega) (by omega)
  have xU := sU.next
  have zU : kU.blks.get p8 = some ⟨[ownSl u8 i], 1, 1, true, false⟩ := by rw [sU.get p8 (by omega) (fun e => by have := hu _ e; omega), sT.get p8 (by omega) (fun x => x)]; exact r8
  have wV : kU.wrs p8 0 [ownSl u9 (i + 1)] = some (kU.setB p8 ⟨[ownSl u9 (i + 1)], 1, 1, true, false⟩) := wrs1_of zU rfl (by simp) rfl
  have sV : Same kU (kU.setB p8 ⟨[ownSl u9 (i + 1)], 1, 1, true, false⟩) (fun j => j = p8) := Same.setB rfl
  have gV : (kU.setB p8 ⟨[ownSl u9 (i + 1)], 1, 1, true, false⟩).blks.get p8 = some ⟨[ownSl u9 (i + 1)], 1, 1, true, false⟩ := by rw [setB_get, if_pos rfl]
  generalize kU.setB p8 ⟨[ownSl u9 (i + 1)], 1, 1, true, false⟩ = kV at wV sV gV
  have gV7 : kV.blks.get p5 = some ⟨[I tot', I f], 2, 2, true, false⟩ := by rw [sV.get p5 (by omega) h58, sU.get p5 (by omega) (fun e => by have := hu _ e; omega), sT.get p5 (by omega) (fun x => x)]; exact gS
  have hn : ∀ y, u9 = some y → lim ≤ y := fun y hy => by
    rcases nU y hy with e | e
    · exact hu y e
    · omega
  refine ⟨kS, kT, u9, kU, kV, rd_of gR, rd_of zR, wS, rd_of r8, rA, hhT, aU, wV, gV7, gV, oU.same sV (fun y hy e => by have := hn y hy; omega), hn, ?_⟩
  exact (((sS.mono (T := fun j => j = p5 ∨ j = p8 ∨ u8 = some j) (fun _ e => .inl e)).trans sT (fun _ _ x => x.elim)).trans sU (fun j hj e => .inr (.inr e))).trans sV (fun j hj e => .inr (.inl e))

def Tr.kindN : Tr → Nat
  | .empty _ => 1
  | .leaf _ _ _ => 2
  | .inner _ _ _ _ _ _ _ => 3
theorem ok_word {C : List Int} : ∀ {t : Tr}, t.ok C → ∃ a, 1 ≤ a ∧ a ≤ C.length ∧ (1 ≤ t.kindN ∧ t.kindN ≤ 3) ∧ t.word = (a : Int) * 8 + (t.kindN : Nat)
  | .empty a, h => ⟨a, h.1, h.2, ⟨by simp [Tr.kindN], by simp [Tr.kindN]⟩, rfl⟩
  | .leaf a _ _, h => ⟨a, h.1, by have := h.2.1; omega, ⟨by simp [Tr.kindN], by simp [Tr.kindN]⟩, rfl⟩
  | .inner a _ _ _ _ _ cs, h => ⟨a, h.1.1, by have := h.1.2.1; omega, ⟨by simp [Tr.kindN], by simp [Tr.kindN]⟩, rfl⟩

section
variable {P : Program} {tab : Nat → Option AFunc} (hT : TabOk P tab) (V : HasV tab)
include hT V

set_option maxHeartbeats 1000000 in
theorem idealInner_spec (H : Has tab) (V5 : HasV5 tab) (V8 : HasV8 tab) (Nu : Num P) {bm : Nat} {um : Option Nat} {C : List Int} {z c o r : Int} (hC : C.length ≤ 65536) {a : Nat} {sz sh ch sm : Int} {ks : List Int} {cs : List Tr} (ih : ∀ t ∈ cs, IdlP P bm um C z c o r t) {h : Heap} (m : MemAt h bm um C z c o r) (hok : (Tr.inner a sz sh ch sm ks cs).ok C) (hid : (Tr.inner a sz sh ch sm ks cs).idl) :
    FSpec P 115 [.pointer (some ⟨bm, 0, none⟩), I a] h fun v h' => v = .tuple #[.agg #[I (contents cs).length, I (firsts cs)], .bool true] ∧ Same h h' (fun _ => False) := by
    refine fspec_cwf hT V8.v115 rfl ?_
    obtain ⟨⟨q1, q2, q3, q4⟩, ⟨p0, p1, p2, p3, p4⟩, hsh, hsz, hks, hcs, hoks⟩ := hok
    obtain ⟨⟨⟨n2, n120⟩, hd, esz, esh, ech, esm, hsi, hkf⟩, hids⟩ := hid
    have hbm := m.lt
    have huml := fun y hy => (m.use y hy).2.2.1
    have s1 : Same h (h.new ⟨[.pointer (some ⟨bm, 0, none⟩)], 1, 1, true, false⟩) (fun _ => False) := Same.new
    have g1 : (h.new ⟨[.pointer (some ⟨bm, 0, none⟩)], 1, 1, true, false⟩).blks.get h.next = some ⟨[.pointer (some ⟨bm, 0, none⟩)], 1, 1, true, false⟩ := by rw [new_get, if_pos rfl]
    have x1 : (h.new ⟨[.pointer (some ⟨bm, 0, none⟩)], 1, 1, true, false⟩).next = h.next + 1 := rfl
    generalize hh1 : h.new ⟨[.pointer (some ⟨bm, 0, none⟩)], 1, 1, true, false⟩ = k1 at s1 g1 x1
    have s2 : Same k1 (k1.new ⟨[I a], 1, 1, true, false⟩) (fun _ => False) := Same.new
    have g2 : (k1.new ⟨[I a], 1, 1, true, false⟩).blks.get k1.next = some ⟨[I a], 1, 1, true, false⟩ := by rw [new_get, if_pos rfl]
    have x2 : (k1.new ⟨[I a], 1, 1, true, false⟩).next = k1.next + 1 := rfl
    generalize hh2 : k1.new ⟨[I a], 1, 1, true, false⟩ = k2 at s2 g2 x2
    have s3 : Same k2 (k2.new ⟨[I 0, I 0], 2, 2, true, false⟩) (fun _ => False) := Same.new
    have g3 : (k2.new ⟨[I 0, I 0], 2, 2, true, false⟩).blks.get k2.next = some ⟨[I 0, I 0], 2, 2, true, false⟩ := by rw [new_get, if_pos rfl]
    have x3 : (k2.new ⟨[I 0, I 0], 2, 2, true, false⟩).next = k2.next + 1 := rfl
    generalize hh3 : k2.new ⟨[I 0, I 0], 2, 2, true, false⟩ = k3 at s3 g3 x3
    have s4 : Same k3 (k3.new ⟨[.bool false], 1, 1, true, false⟩) (fun _ => False) := Same.new
    have g4 : (k3.new ⟨[.bool false], 1, 1, true, false⟩).blks.get k3.next = some ⟨[.bool false], 1, 1, true, false⟩ := by rw [new_get, if_pos rfl]
    have x4 : (k3.new ⟨[.bool false], 1, 1, true, false⟩).next = k3.next + 1 := rfl
    generalize hh4 : k3.new ⟨[.bool false], 1, 1, true, false⟩ = k4 at s4 g4 x4
    have m4 : MemAt k4 bm um C z c o r := m.same (((s1.trans s2 (fun _ _ x => x)).trans s3 (fun _ _ x => x)).trans s4 (fun _ _ x => x)) (fun x => x) (fun _ _ x => x)
    have r41 : k4.rd h.next 0 = some (.pointer (some ⟨bm, 0, none⟩)) := rd_of (by rw [s4.get h.next (by omega) (fun x => x), s3.get h.next (by omega) (fun x => x), s2.get h.next (by omega) (fun x => x)]; exact g1)
    have r42 : k4.rd k1.next 0 = some (I a) := rd_of (by rw [s4.get k1.next (by omega) (fun x => x), s3.get k1.next (by omega) (fun x => x)]; exact g2)
    have F0 : Fact P 58 [.pointer (some ⟨bm, 0, none⟩), I a] k4 (I (cs.length : Int)) k4 := by
      obtain ⟨_, _, F, e, rfl⟩ := at_spec hT V m4 a (by omega)
      rw [p0] at e; subst e; exact F
    have wz : wrapF .i64 ((a : Int) + 0) = (a : Int) := by rw [wrapI] <;> omega
    have s5 : Same k4 (k4.new ⟨[I 0], 1, 1, true, false⟩) (fun _ => False) := Same.new
    have g5 : (k4.new ⟨[I 0], 1, 1, true, false⟩).blks.get k4.next = some ⟨[I 0], 1, 1, true, false⟩ := by rw [new_get, if_pos rfl]
    have x5 : (k4.new ⟨[I 0], 1, 1, true, false⟩).next = k4.next + 1 := rfl
    generalize hh5 : k4.new ⟨[I 0], 1, 1, true, false⟩ = k5 at s5 g5 x5
    have s6 : Same k5 (k5.new ⟨[I 0, I 0], 2, 2, true, false⟩) (fun _ => False) := Same.new
    have g6 : (k5.new ⟨[I 0, I 0], 2, 2, true, false⟩).blks.get k5.next = some ⟨[I 0, I 0], 2, 2, true, false⟩ := by rw [new_get, if_pos rfl]
    have x6 : (k5.new ⟨[I 0, I 0], 2, 2, true, false⟩).next = k5.next + 1 := rfl
    generalize hh6 : k5.new ⟨[I 0, I 0], 2, 2, true, false⟩ = k6 at s6 g6 x6
    have g56 : k6.blks.get k4.next = some ⟨[I 0], 1, 1, true, false⟩ := by rw [s6.get k4.next (by omega) (fun x => x)]; exact g5
    have w7 : k6.wrs k4.next 0 [I (cs.length : Int)] = some (k6.setB k4.next ⟨[I (cs.length : Int)], 1, 1, true, false⟩) := wrs1_of g56 rfl (by simp) rfl
    have s7 : Same k6 (k6.setB k4.next ⟨[I (cs.length : Int)], 1, 1, true, false⟩) (fun j => j = k4.next) := Same.setB rfl
    have g7 : (k6.setB k4.next ⟨[I (cs.length : Int)], 1, 1, true, false⟩).blks.get k4.next = some ⟨[I (cs.length : Int)], 1, 1, true, false⟩ := by rw [setB_get, if_pos rfl]
    have x7 : (k6.setB k4.next ⟨[I (cs.length : Int)], 1, 1, true, false⟩).next = k6.next := rfl
    generalize k6.setB k4.next ⟨[I (cs.length : Int)], 1, 1, true, false⟩ = k7 at w7 s7 g7 x7
    have g67 : k7.blks.get k5.next = some ⟨[I 0, I 0], 2, 2, true, false⟩ := by rw [s7.get k5.next (by omega) (by omega)]; exact g6
    have w8 := st2_agg (wrs2_of (u := I 0) (v := I 0) g67 rfl rfl)
    have s8 : Same k7 (k7.setB k5.next ⟨[I 0, I 0], 2, 2, true, false⟩) (fun j => j = k5.next) := Same.setB rfl
    have g8 : (k7.setB k5.next ⟨[I 0, I 0], 2, 2, true, false⟩).blks.get k5.next = some ⟨[I 0, I 0], 2, 2, true, false⟩ := by rw [setB_get, if_pos rfl]
    have x8 : (k7.setB k5.next ⟨[I 0, I 0], 2, 2, true, false⟩).next = k7.next := rfl
    generalize k7.setB k5.next ⟨[I 0, I 0], 2, 2, true, false⟩ = k8 at w8 s8 g8 x8
    have s9 : Same k8 (k8.new ⟨[.slice none 0 0], 1, 1, true, false⟩) (fun _ => False) := Same.new
    have g9 : (k8.new ⟨[.slice none 0 0], 1, 1, true, false⟩).blks.get k8.next = some ⟨[.slice none 0 0], 1, 1, true, false⟩ := by rw [new_get, if_pos rfl]
    have x9 : (k8.new ⟨[.slice none 0 0], 1, 1, true, false⟩).next = k8.next + 1 := rfl
    generalize hh9 : k8.new ⟨[.slice none 0 0], 1, 1, true, false⟩ = k9 at s9 g9 x9
    obtain ⟨_, h4, F109, rfl, c1, c2, x4h, s4h⟩ := children_spec hT V5 k9 (some ⟨bm, 0, none⟩) a
    have s48 : Same k4 k9 (fun _ => False) := (((s5.trans s6 (fun _ _ x => x)).trans s7 (fun j hj e => by omega)).trans s8 (fun j hj e => by omega)).trans s9 (fun _ _ x => x)
    have r91 : k9.rd h.next 0 = some (.pointer (some ⟨bm, 0, none⟩)) := rd_of (by rw [s48.get h.next (by omega) (fun x => x), s4.get h.next (by omega) (fun x => x), s3.get h.next (by omega) (fun x => x), s2.get h.next (by omega) (fun x => x)]; exact g1)
    have r92 : k9.rd k1.next 0 = some (I a) := rd_of (by rw [s48.get k1.next (by omega) (fun x => x), s4.get k1.next (by omega) (fun x => x), s3.get k1.next (by omega) (fun x => x)]; exact g2)
    simp only [af115, cwf_seq, cwf_ops, andThen_normal, owf_nil, o_p, o_r, o_e, owf_call, behind_eq, bo_eq, optQ_some, opt2_some, pop, popQ, rop_load1, ldV_ptr, ev, evs, putA, putArgs, look_put, abinF_eq, abin, eop_box, List.length_cons, List.length_nil, scalar_int, scalar_ptr, decide_true, cond_true, ite_true, ite_false, Nat.reduceEqDiff, Nat.reduceAdd, Nat.zero_add, eop_alloc, box1, hh1, hh2, List.length_cons, List.length_nil, hh3, hh4, r41, r42, wz]
    refine ⟨_, _, F0, ?_⟩
    simp only [cwf_seq, cwf_ops, andThen_normal, owf_nil, o_p, o_r, o_e, owf_call, behind_eq, bo_eq, optQ_some, opt2_some, pop, popQ, rop_load1, ldV_ptr, ev, evs, putA, look_put, eop_store1, st1, evP_nil, fillA_nil, List.length_cons, List.length_nil, scalar_int, ite_true, ite_false, Nat.reduceEqDiff, Nat.reduceAdd, Nat.zero_add, eop_alloc, List.length_cons, List.length_nil, hh5, hh6, w7, eop_store2, w8, hh9, r91, r92]
    refine ⟨_, _, F109, ?_⟩
    simp only [cwf_block, andThen_normal, owf_nil, behind_eq, putA, cwf_range]
    refine cw_gen (fun t => look t 2 = .pointer (some ⟨h.next, 0, none⟩) ∧ look t 3 = .pointer (some ⟨k1.next, 0, none⟩) ∧ look t 4 = .pointer (some ⟨k2.next, 0, none⟩) ∧ look t 5 = .pointer (some ⟨k3.next, 0, none⟩) ∧ look t 6 = .pointer (some ⟨k4.next, 0, none⟩) ∧ look t 7 = .pointer (some ⟨k5.next, 0, none⟩) ∧ look t 8 = .pointer (some ⟨k8.next, 0, none⟩) ∧ look t 22 = .func (.func 125) #[] #[.pointer (some ⟨k9.next, 0, none⟩), .pointer (some ⟨k9.next + 1, 0, none⟩)]) ⟨by simp only [look_put, ite_true, ite_false, Nat.reduceEqDiff], by simp only [look_put, ite_true, ite_false, Nat.reduceEqDiff], by simp only [look_put, ite_true, ite_false, Nat.reduceEqDiff], by simp only [look_put, ite_true, ite_false, Nat.reduceEqDiff], by simp only [look_put, ite_true, ite_false, Nat.reduceEqDiff], by simp only [look_put, ite_true, ite_false, Nat.reduceEqDiff], by simp only [look_put, ite_true, ite_false, Nat.reduceEqDiff], by simp only [look_put, ite_true, ite_false, Nat.reduceEqDiff]⟩ ?_
    rintro tsX ⟨t2, t3, t4, t5, t6, t7, t8, t22⟩
    refine cw_range' t22 (fun k kts kn kps kasg kbody kst kpd => ?_)
    have T9 : SameB k9 (h4.enter k) (fun _ => False) := s4h.toB.trans (sameB_enter h4 k) (fun _ _ x => x)
    have xE : (h4.enter k).next = h4.next + 2 := rfl
    have lE : (h4.enter k).loops.get (h4.next + 1) = some k := by rw [enter_loops, if_pos rfl]
    have e1 : (h4.enter k).rd k9.next 0 = some (.pointer (some ⟨bm, 0, none⟩)) := c1
    have e2 : (h4.enter k).rd (k9.next + 1) 0 = some (I a) := c2
    generalize hE : h4.enter k = E at T9 xE lE e1 e2
    have T4 : SameB k4 E (fun _ => False) := s48.toB.trans T9 (fun _ _ x => x)
    have T0 : SameB h E (fun _ => False) := (((s1.trans s2 (fun _ _ x => x)).trans s3 (fun _ _ x => x)).trans s4 (fun _ _ x => x)).toB.trans T4 (fun _ _ x => x)
    have b1 : E.blks.get h.next = some ⟨[.pointer (some ⟨bm, 0, none⟩)], 1, 1, true, false⟩ := by rw [T4.get h.next (by omega) (fun x => x), s4.get h.next (by omega) (fun x => x), s3.get h.next (by omega) (fun x => x), s2.get h.next (by omega) (fun x => x)]; exact g1
    have b2 : E.blks.get k1.next = some ⟨[I a], 1, 1, true, false⟩ := by rw [T4.get k1.next (by omega) (fun x => x), s4.get k1.next (by omega) (fun x => x), s3.get k1.next (by omega) (fun x => x)]; exact g2
    have b3 : E.blks.get k2.next = some ⟨[I 0, I 0], 2, 2, true, false⟩ := by rw [T4.get k2.next (by omega) (fun x => x), s4.get k2.next (by omega) (fun x => x)]; exact g3
    have b4 : E.blks.get k3.next = some ⟨[.bool false], 1, 1, true, false⟩ := by rw [T4.get k3.next (by omega) (fun x => x)]; exact g4
    have b6 : E.blks.get k4.next = some ⟨[I (cs.length : Int)], 1, 1, true, false⟩ := by rw [T9.get k4.next (by omega) (fun x => x), s9.get k4.next (by omega) (fun x => x), s8.get k4.next (by omega) (by omega)]; exact g7
    have b7 : E.blks.get k5.next = some ⟨[I 0, I 0], 2, 2, true, false⟩ := by rw [T9.get k5.next (by omega) (fun x => x), s9.get k5.next (by omega) (fun x => x)]; exact g8
    have b8 : E.blks.get k8.next = some ⟨[.slice none 0 0], 1, 1, true, false⟩ := by rw [T9.get k8.next (by omega) (fun x => x)]; exact g9
    have mE : MemAt E bm um C z c o r := m.sameB T0 (fun x => x) (fun _ _ x => x)
    have memk : ∀ q, Same E q (fun j => j = k5.next ∨ j = k8.next) → MemAt q bm um C z c o r := fun q s => mE.same s (fun e => by omega) (fun y hy e => by have := huml y hy; omega)
    have rdk : ∀ (q : Heap) (b : Nat) (v : Value), Same E q (fun j => j = k5.next ∨ j = k8.next) → b ≠ k5.next → b ≠ k8.next → b < E.next → E.rd b 0 = some v → q.rd b 0 = some v := by
      intro q b v s hb hb' hb2 hv
      unfold Heap.rd at hv ⊢
      rw [s.get b hb2 (fun e => by omega)]; exact hv
    have hct : ∀ i, i < cs.length → (contents (cs.take (i + 1))).length = (contents (cs.take i)).length + sizeN (contents cs).length i := by
      intro i hi
      rw [take_one cs hi, contents_app, List.length_append]
      simp only [contents, List.append_nil]
      rw [hsi i hi]
    have hcm : ∀ i, (contents (cs.take i)).length ≤ (contents cs).length := by
      intro i
      have e : contents cs = contents (cs.take i ++ cs.drop i) := by rw [List.take_append_drop]
      rw [e, contents_app, List.length_append]; omega
    have ef : ∀ (hi : 0 < cs.length), cs[0].first = firsts cs := by
      intro hi
      cases cs with
      | nil => simp at hi
      | cons c cs => rfl
    obtain ⟨vv, hX, FX, ⟨uX, gX7, gX8, oX, nX, sX⟩⟩ := children1_spec hT V H V5 (yv := .func (.yield (h4.next + 1)) #[] #[]) (bm := bm) (um := um) (C := C) (z := z) (c := c) (o := o) (r := r) (a := a) (d := cs.length) (pm := k9.next) (pa := k9.next + 1) (cs := cs) rfl hC (by omega) p0 hcs hoks (fun f fs cs e => by cases e) (fun f fs cs e => by cases e)
      (fun i q => ∃ u8 : Option Nat, q.blks.get k5.next = some ⟨[I ((contents (cs.take i)).length : Int), I (if i = 0 then 0 else firsts cs)], 2, 2, true, false⟩ ∧ q.blks.get k8.next = some ⟨[ownSl u8 i], 1, 1, true, false⟩ ∧ OwnAt q u8 1 i ((List.range i).map fun j => I (sizeN (contents cs).length j)) ∧ (∀ y, u8 = some y → E.next ≤ y) ∧ Same E q (fun j => j = k5.next ∨ j = k8.next))
      (fun i q ⟨_, _, _, _, _, s⟩ => ⟨memk q s, rdk q _ _ s (by omega) (by omega) (by omega) e1, rdk q _ _ s (by omega) (by omega) (by omega) e2⟩)
      (fun i q q' ⟨u8, i1, i2, i3, i4, s⟩ s' => ⟨u8, by rw [s'.get k5.next (by have := s.next; omega) (fun x => x)]; exact i1, by rw [s'.get k8.next (by have := s.next; omega) (fun x => x)]; exact i2, i3.same s' (fun _ _ x => x), i4, s.trans s' (fun _ _ x => x.elim)⟩)
      (fun i q q' ⟨_, _, _, _, _, s⟩ ⟨_, _, _, _, _, s'⟩ => by rw [s'.marks, s.marks])
      (fun i hi q ⟨u8, i1, i2, i3, i4, s⟩ => by
        rw [callV_y]
        have lq : q.loops.get (h4.next + 1) = some k := by rw [s.loops _ (by omega) (by omega)]; exact lE
        refine yspec_round lq kts kn kps kasg kbody kst kpd rfl rfl (fun q1 hq1 => ?_)
        have bq : SameB q (q.setL (h4.next + 1) { k with st := 1 } q.marks) (fun j => j = h4.next + 1) := sameB_setL _ _ _ _
        have l1 : (q.setL (h4.next + 1) { k with st := 1 } q.marks).loops.get (h4.next + 1) = some { k with st := 1 } := by rw [setL_loops, if_pos rfl]
        have x1q : (q.setL (h4.next + 1) { k with st := 1 } q.marks).next = q.next := rfl
        have m1q : (q.setL (h4.next + 1) { k with st := 1 } q.marks).marks = q.marks := rfl
        have bl1 : ∀ j, (q.setL (h4.next + 1) { k with st := 1 } q.marks).blks.get j = q.blks.get j := fun j => rfl
        rw [← hq1] at bq l1 x1q m1q bl1
        have xs := s.next
        have mq1 : MemAt q1 bm um C z c o r := (memk q s).sameB bq (fun e => by omega) (fun y hy e => by have := huml y hy; omega)
        have y1 : q1.blks.get h.next = some ⟨[.pointer (some ⟨bm, 0, none⟩)], 1, 1, true, false⟩ := by rw [bl1, s.get h.next (by omega) (by omega)]; exact b1
        have y2 : q1.blks.get k1.next = some ⟨[I a], 1, 1, true, false⟩ := by rw [bl1, s.get k1.next (by omega) (by omega)]; exact b2
        have y6 : q1.blks.get k4.next = some ⟨[I (cs.length : Int)], 1, 1, true, false⟩ := by rw [bl1, s.get k4.next (by omega) (by omega)]; exact b6
        have y7 : q1.blks.get k5.next = some ⟨[I ((contents (cs.take i)).length : Int), I (if i = 0 then 0 else firsts cs)], 2, 2, true, false⟩ := by rw [bl1]; exact i1
        have y8 : q1.blks.get k8.next = some ⟨[ownSl u8 i], 1, 1, true, false⟩ := by rw [bl1]; exact i2
        have o1 : OwnAt q1 u8 1 i ((List.range i).map fun j => I (sizeN (contents cs).length j)) := ⟨fun y hy => by
          obtain ⟨z1, z2, z3⟩ := i3.use y hy
          exact ⟨by rw [bl1]; exact z1, by omega, z3⟩, i3.non, i3.len, i3.sc⟩
        obtain ⟨_, q2, F2, rfl, s2q⟩ := ih cs[i] (List.getElem_mem _) q1 mq1 (oks_mem hoks i hi) (idls_mem hids i hi)
        have x2q := s2q.next
        have sA : Same q2 (q2.new ⟨[I 0, I 0], 2, 2, true, false⟩) (fun _ => False) := Same.new
        have gA : (q2.new ⟨[I 0, I 0], 2, 2, true, false⟩).blks.get q2.next = some ⟨[I 0, I 0], 2, 2, true, false⟩ := by rw [new_get, if_pos rfl]
        have xA : (q2.new ⟨[I 0, I 0], 2, 2, true, false⟩).next = q2.next + 1 := rfl
        generalize hhA : q2.new ⟨[I 0, I 0], 2, 2, true, false⟩ = kA at sA gA xA
        have wB := st2_agg (wrs2_of (u := I (cs[i].content.length : Int)) (v := I cs[i].first) gA rfl rfl)
        have sB : Same kA (kA.setB q2.next ⟨[I (cs[i].content.length : Int), I cs[i].first], 2, 2, true, false⟩) (fun j => j = q2.next) := Same.setB rfl
        have gB : (kA.setB q2.next ⟨[I (cs[i].content.length : Int), I cs[i].first], 2, 2, true, false⟩).blks.get q2.next = some ⟨[I (cs[i].content.length : Int), I cs[i].first], 2, 2, true, false⟩ := by rw [setB_get, if_pos rfl]
        have xB : (kA.setB q2.next ⟨[I (cs[i].content.length : Int), I cs[i].first], 2, 2, true, false⟩).next = kA.next := rfl
        generalize kA.setB q2.next ⟨[I (cs[i].content.length : Int), I cs[i].first], 2, 2, true, false⟩ = kB at wB sB gB xB
        have s1B : Same q1 kB (fun _ => False) := (s2q.trans sA (fun _ _ x => x)).trans sB (fun j hj e => by omega)
        have mB : MemAt kB bm um C z c o r := mq1.same s1B (fun x => x) (fun _ _ x => x)
        obtain ⟨_, kC, FC, rfl, sC⟩ := childat_spec hT V kB a cs.length i (by omega) (by omega) (by omega)
        have xC := sC.next
        have s1C : Same q1 kC (fun _ => False) := s1B.trans sC (fun _ _ x => x)
        have mC : MemAt kC bm um C z c o r := mB.same sC (fun x => x) (fun _ _ x => x)
        have FD : Fact P 58 [.pointer (some ⟨bm, 0, none⟩), I ((a + 4 + cs.length + i : Nat) : Int)] kC (I cs[i].word) kC := by
          obtain ⟨_, _, F, e, rfl⟩ := at_spec hT V mC (a + 4 + cs.length + i) (by omega)
          rw [hcs i hi] at e; subst e; exact F
        obtain ⟨ct, hct1, hct2, hct3, hct4⟩ := ok_word (oks_mem hoks i hi)
        obtain ⟨_, kC', FK, rfl, rfl⟩ := kind_spec hT V H kC ct cs[i].kindN hct1 (by omega) hct3.1 (by omega)
        rw [← hct4] at FK
        have ck5 : ((cs[i].kindN : Int) == 5) = false := by rw [beq_eq_false_iff_ne]; omega
        obtain ⟨_, kD, FE, rfl, sD⟩ := keyat_spec hT V kC' a i (by omega) (by omega)
        have xD := sD.next
        have s1D : Same q1 kD (fun _ => False) := s1C.trans sD (fun _ _ x => x)
        have mD : MemAt kD bm um C z c o r := mC.same sD (fun x => x) (fun _ _ x => x)
        let J : Heap → Prop := fun k => k.rd h.next 0 = some (.pointer (some ⟨bm, 0, none⟩)) ∧ k.rd k1.next 0 = some (I a) ∧ k.rd k4.next 0 = some (I (cs.length : Int)) ∧ k.rd q2.next 1 = some (I cs[i].first)
        have jB : J kB := ⟨rd_of (by rw [s1B.get h.next (by omega) (fun x => x)]; exact y1), rd_of (by rw [s1B.get k1.next (by omega) (fun x => x)]; exact y2), rd_of (by rw [s1B.get k4.next (by omega) (fun x => x)]; exact y6), rd_of gB⟩
        have jC : J kC' := ⟨rd_of (by rw [s1C.get h.next (by omega) (fun x => x)]; exact y1), rd_of (by rw [s1C.get k1.next (by omega) (fun x => x)]; exact y2), rd_of (by rw [s1C.get k4.next (by omega) (fun x => x)]; exact y6), rd_of (by rw [sC.get q2.next (by omega) (fun x => x)]; exact gB)⟩
        have jD : J kD := ⟨rd_of (by rw [s1D.get h.next (by omega) (fun x => x)]; exact y1), rd_of (by rw [s1D.get k1.next (by omega) (fun x => x)]; exact y2), rd_of (by rw [s1D.get k4.next (by omega) (fun x => x)]; exact y6), rd_of (by rw [sD.get q2.next (by omega) (fun x => x), sC.get q2.next (by omega) (fun x => x)]; exact gB)⟩
        have vp : veq (.pointer (some ⟨bm, 0, none⟩)) (.pointer (some ⟨bm, 0, none⟩)) = true := by simp [veq, veq1]
        have r1q : q1.rd h.next 0 = some (.pointer (some ⟨bm, 0, none⟩)) := rd_of y1
        simp only [cwf_seq, cwf_ops, cwf_block, andThen_normal, owf_nil, o_p, o_r, owf_call, bo_eq, optQ_some, pop, popQ, rop_load1, ldV_ptr, ev, evs, putA, look_put, ite_true, ite_false, Nat.reduceEqDiff, true_and, putPs_nil, putPs_cons, t2, r1q]
        refine ⟨_, _, F2, ?_⟩
        simp only [cwf_seq, andThen_normal, owf_nil, o_p, o_e, behind_eq, bo_eq, optQ_some, opt2_some, pop, popQ, ev, putA, look_put, List.length_cons, List.length_nil, ite_true, ite_false, Nat.reduceEqDiff, Nat.reduceAdd, Nat.zero_add, List.getElem?_cons_zero, List.getElem?_cons_succ, eop_alloc, List.length_cons, List.length_nil, hhA, eop_store2, wB]
        by_cases h0 : i = 0
        · skip
          obtain ⟨CR, hcr, g118, g58, g108⟩ : ∃ CR : CallF, CfOk P CR ∧ CR (.fn 118) [I a, I (cs.length : Int), I i] kB = some (I ((a + 4 + cs.length + i : Nat) : Int), kC') ∧ CR (.fn 58) [.pointer (some ⟨bm, 0, none⟩), I ((a + 4 + cs.length + i : Nat) : Int)] kC' = some (I cs[i].word, kC') ∧ CR (.fn 108) [I cs[i].word] kC' = some (I (cs[i].kindN : Int), kC') :=
            ⟨cfOf 118 _ kB _ kC' (cfOf 58 _ kC' _ kC' (cfOf 108 _ kC' _ kC' cf00)), cfOf_ok FC (cfOf_ok FD (cfOf_ok FK cf00_ok)), cfOf_eq, by rw [cfOf_ne (by decide)]; exact cfOf_eq, by rw [cfOf_ne (by decide), cfOf_ne (by decide)]; exact cfOf_eq⟩
          have cgt : ((i : Int) > 0) = False := by simp; omega
          have pjB := fun (r : List AOper) (ts : T Value) (dst : Option Nat) (q : POp) (S : T Value → Heap → Prop) => j_p (J := J) (cf := CR) (r := r) (ts := ts) (dst := dst) (q := q) (S := S) jB
          have pjC := fun (r : List AOper) (ts : T Value) (dst : Option Nat) (q : POp) (S : T Value → Heap → Prop) => j_p (J := J) (cf := CR) (r := r) (ts := ts) (dst := dst) (q := q) (S := S) jC
          have pjD := fun (r : List AOper) (ts : T Value) (dst : Option Nat) (q : POp) (S : T Value → Heap → Prop) => j_p (J := J) (cf := CR) (r := r) (ts := ts) (dst := dst) (q := q) (S := S) jD
          have zA : kC'.blks.get q2.next = some ⟨[I (cs[i].content.length : Int), I cs[i].first], 2, 2, true, false⟩ := by rw [sC.get q2.next (by omega) (fun x => x)]; exact gB
          have z7 : kC'.blks.get k5.next = some ⟨[I ((contents (cs.take i)).length : Int), I (if i = 0 then 0 else firsts cs)], 2, 2, true, false⟩ := by rw [s1C.get k5.next (by omega) (fun x => x)]; exact y7
          have z8 : kC'.blks.get k8.next = some ⟨[ownSl u8 i], 1, 1, true, false⟩ := by rw [s1C.get k8.next (by omega) (fun x => x)]; exact y8
          have oQ := o1.same s1C (fun _ _ x => x)
          have xQ := s1C.next
          have c0 : ((i : Int) == 0) = true := by simp; omega
          have rA1 : kC'.rd q2.next (0 + 1) = some (I cs[i].first) := rd_of zA
          have wR : kC'.wrs k5.next (0 + 1) [I cs[i].first] = some (kC'.setB k5.next ⟨[I ((contents (cs.take i)).length : Int), I cs[i].first], 2, 2, true, false⟩) := wrs1_of z7 rfl (by simp) rfl
          have sR : Same kC' (kC'.setB k5.next ⟨[I ((contents (cs.take i)).length : Int), I cs[i].first], 2, 2, true, false⟩) (fun j => j = k5.next) := Same.setB rfl
          have gR : (kC'.setB k5.next ⟨[I ((contents (cs.take i)).length : Int), I cs[i].first], 2, 2, true, false⟩).blks.get k5.next = some ⟨[I ((contents (cs.take i)).length : Int), I cs[i].first], 2, 2, true, false⟩ := by rw [setB_get, if_pos rfl]
          generalize kC'.setB k5.next ⟨[I ((contents (cs.take i)).length : Int), I cs[i].first], 2, 2, true, false⟩ = kR at wR sR gR
          have xR := sR.next
          have efi : cs[i].first = firsts cs := by
            subst h0
            exact ef hi
          have zR : kR.blks.get q2.next = some ⟨[I (cs[i].content.length : Int), I cs[i].first], 2, 2, true, false⟩ := by rw [sR.get q2.next (by omega) (by omega)]; exact zA
          have zR8 : kR.blks.get k8.next = some ⟨[ownSl u8 i], 1, 1, true, false⟩ := by rw [sR.get k8.next (by omega) (by omega)]; exact z8
          have oR := oQ.same sR (fun y hy e => by have := i4 y hy; omega)
          have s1R : Same q1 kR (fun j => j = k5.next ∨ j = k8.next) := (s1C.mono (fun _ x => x.elim)).trans sR (fun j hj e => .inl e)
          rw [efi] at gR
          have hxR : q2.next < kR.next := by omega
          have wT : wrapF .i64 (((contents (cs.take i)).length : Int) + (cs[i].content.length : Int)) = ((contents (cs.take (i + 1))).length : Int) := by
            have h1 := hct i hi
            have h2 := hcm (i + 1)
            have h3 := hsi i hi
            rw [wrapI] <;> omega
          obtain ⟨kS, kT, u9, kU, kV, rT, rS, wS, rS8, rSA, hhT, aU, wV, gV7, gV8, oV, nV, sRV⟩ := tailH (lim := E.next) (tot' := ((contents (cs.take (i + 1))).length : Int)) gR zR zR8 oR (by omega) (by omega) (by omega) (by omega) (by omega) hxR (by omega) i4 (by omega)
          refine cwf_calm J CR hcr jB ?_
          simp only [optQ_some, pop, popQ, ldV_ptr, ev, evs, putA, look_put, isB_false, ite_true, ite_false, Bool.not_true, Bool.not_false, Nat.reduceEqDiff, j_load, j_call, j_on, bj_eq, pjB, t2, t3, t6]
          refine ⟨_, fun k hk => hk.1, vp, _, fun k hk => hk.2.1, veq_int _ _, _, fun k hk => hk.2.2.1, veq_int _ _, ?_⟩
          simp only [cwf_seq, cwf_ops, c_false, cwf_skip, andThen_normal, owf_nil, o_p, bo_eq, optQ_some, opt2_some, pop, popQ, ev, evs, putA, look_put, isB_true, isB_false, abinF_eq, abin, decide_true, decide_false, cond_true, cond_false, ite_true, ite_false, Bool.not_false, Nat.reduceEqDiff, j_nil, j_call, j_on, j_off, bj_eq, bj2_eq, pjC, g118, g58, g108, ck5, cgt]
          refine ⟨jC, jC, jC, ?_⟩
          simp only [cwf_seq, cwf_ops, c_true, andThen_normal, owf_nil, o_p, o_r, o_e, behind_eq, bo_eq, optQ_some, opt2_some, pop, popQ, rop_load1, ldV_ptr, ev, putA, look_put, isB_true, eop_store1, st1, Nat.add_zero, scalar_int, ite_true, ite_false, Nat.reduceEqDiff, Nat.zero_add, t7, c0, rA1, wR]
          simp only [cwf_ops, andThen_normal, blockQ_normal, owf_nil, o_p, o_r, o_e, behind_eq, bo_eq, optQ_some, opt2_some, pop, popQ, rop_load1, ldV_ptr, ev, putA, look_put, abinF_eq, abin, eop_store1, eop_app, st1, eop_buildS, bldS_some, evP_nil, evP_cons, fillA_nil, fillA_one, List.length_cons, List.length_nil, List.set_cons_zero, Nat.lt_add_one, Nat.mul_one, Nat.add_zero, scalar_slice, scalar_int, decide_true, cond_true, ite_true, ite_false, Nat.reduceEqDiff, Nat.zero_add, true_and, t7, t8, rT, rS, wT, wS, rS8, rSA, hhT, aU, wV]
          have hno9 : ¬ (h4.next + 1 = k5.next ∨ h4.next + 1 = k8.next ∨ u8 = some (h4.next + 1)) := by
            rintro (e | e | e)
            · omega
            · omega
            · have := i4 _ e
              omega
          have l2 : kV.loops.get (h4.next + 1) = some { k with st := 1 } := by rw [sRV.loops (h4.next + 1) (by omega) hno9, s1R.loops (h4.next + 1) (by omega) (by omega)]; exact l1
          have oV' : OwnAt kV u9 1 (i + 1) ((List.range (i + 1)).map fun j => I (sizeN (contents cs).length j)) := by
            rw [List.range_succ, List.map_append]
            have e := hsi i hi
            rw [e] at oV
            exact oV
          have hsub : ∀ j, j < E.next → (j = k5.next ∨ j = k8.next ∨ u8 = some j) → (j = k5.next ∨ j = k8.next) ∨ j = h4.next + 1 := by
            rintro j hj (e | e | e)
            · exact .inl (.inl e)
            · exact .inl (.inr e)
            · have := i4 _ e
              omega
          refine ⟨l2, u9, gV7, gV8, ⟨fun y hy => oV'.use y hy, oV'.non, oV'.len, oV'.sc⟩, nV, ?_⟩
          refine SameB.of ?_ ?_
          · refine SameB.less (b := h4.next + 1) (((((s.toB.mono (T := fun j => (j = k5.next ∨ j = k8.next) ∨ j = h4.next + 1) (fun j e => .inl e)).trans bq (fun j hj e => .inr e)).trans s1R.toB (fun j hj e => .inl e)).trans sRV.toB (fun j hj e => hsub j hj e)).trans (sameB_setL kV (h4.next + 1) k q.marks) (fun j hj e => .inr e)) ?_ ?_
            · rw [setL_loops, if_pos rfl]; exact lE.symm
            · show kV.blks.get _ = _
              rw [sRV.get (h4.next + 1) (by omega) hno9, s1R.get (h4.next + 1) (by omega) (by omega), bl1, s.get (h4.next + 1) (by omega) (by omega)]
          · rw [setL_marks, s.marks]
        · skip
          have FF : Fact P 58 [.pointer (some ⟨bm, 0, none⟩), I ((a + 4 + i : Nat) : Int)] kD (I cs[i].first) kD := by
            obtain ⟨_, _, F, e, rfl⟩ := at_spec hT V mD (a + 4 + i) (by omega)
            have e1 := hks (i - 1) (by omega)
            have e2 := hkf (i - 1) (by omega) (by omega)
            have e3 : i - 1 + 1 = i := by omega
            simp only [e3] at e2
            rw [show a + 5 + (i - 1) = a + 4 + i by omega, e2] at e1
            rw [e1] at e; subst e; exact F
          obtain ⟨CR, hcr, g118, g58, g108, g130, g58b⟩ : ∃ CR : CallF, CfOk P CR ∧ CR (.fn 118) [I a, I (cs.length : Int), I i] kB = some (I ((a + 4 + cs.length + i : Nat) : Int), kC') ∧ CR (.fn 58) [.pointer (some ⟨bm, 0, none⟩), I ((a + 4 + cs.length + i : Nat) : Int)] kC' = some (I cs[i].word, kC') ∧ CR (.fn 108) [I cs[i].word] kC' = some (I (cs[i].kindN : Int), kC') ∧ CR (.fn 130) [I a, I i] kC' = some (I ((a + 4 + i : Nat) : Int), kD) ∧ CR (.fn 58) [.pointer (some ⟨bm, 0, none⟩), I ((a + 4 + i : Nat) : Int)] kD = some (I cs[i].first, kD) :=
            ⟨cfOf 118 _ kB _ kC' (cfOf 58 _ kC' _ kC' (cfOf 108 _ kC' _ kC' (cfOf 130 _ kC' _ kD (cfOf 58 _ kD _ kD cf00)))), cfOf_ok FC (cfOf_ok FD (cfOf_ok FK (cfOf_ok FE (cfOf_ok FF cf00_ok)))), cfOf_eq, by rw [cfOf_ne (by decide)]; exact cfOf_eq, by rw [cfOf_ne (by decide), cfOf_ne (by decide)]; exact cfOf_eq, by rw [cfOf_ne (by decide), cfOf_ne (by decide), cfOf_ne (by decide)]; exact cfOf_eq, by
              rw [cfOf_ne (by decide)]
              unfold cfOf
              rw [if_neg (by
                rintro ⟨_, e, _⟩
                simp only [List.cons.injEq, Value.int.injEq, true_and, and_true] at e
                omega), if_neg (by
                rintro ⟨e, _⟩
                cases e), if_neg (by
                rintro ⟨e, _⟩
                cases e), if_pos ⟨rfl, rfl, rfl⟩]⟩
          have cgt : ((i : Int) > 0) = True := by simp; omega
          have cne : (cs[i].first != cs[i].first) = false := by simp
          have pjB := fun (r : List AOper) (ts : T Value) (dst : Option Nat) (q : POp) (S : T Value → Heap → Prop) => j_p (J := J) (cf := CR) (r := r) (ts := ts) (dst := dst) (q := q) (S := S) jB
          have pjC := fun (r : List AOper) (ts : T Value) (dst : Option Nat) (q : POp) (S : T Value → Heap → Prop) => j_p (J := J) (cf := CR) (r := r) (ts := ts) (dst := dst) (q := q) (S := S) jC
          have pjD := fun (r : List AOper) (ts : T Value) (dst : Option Nat) (q : POp) (S : T Value → Heap → Prop) => j_p (J := J) (cf := CR) (r := r) (ts := ts) (dst := dst) (q := q) (S := S) jD
          have zA : kD.blks.get q2.next = some ⟨[I (cs[i].content.length : Int), I cs[i].first], 2, 2, true, false⟩ := by rw [sD.get q2.next (by omega) (fun x => x), sC.get q2.next (by omega) (fun x => x)]; exact gB
          have z7 : kD.blks.get k5.next = some ⟨[I ((contents (cs.take i)).length : Int), I (if i = 0 then 0 else firsts cs)], 2, 2, true, false⟩ := by rw [s1D.get k5.next (by omega) (fun x => x)]; exact y7
          have z8 : kD.blks.get k8.next = some ⟨[ownSl u8 i], 1, 1, true, false⟩ := by rw [s1D.get k8.next (by omega) (fun x => x)]; exact y8
          have oQ := o1.same s1D (fun _ _ x => x)
          have xQ := s1D.next
          have c0 : ((i : Int) == 0) = false := by simp; omega
          rw [if_neg h0] at z7
          have s1R : Same q1 kD (fun j => j = k5.next ∨ j = k8.next) := s1D.mono (fun _ x => x.elim)
          obtain ⟨kR, ekR⟩ : ∃ k, k = kD := ⟨_, rfl⟩
          have gR := z7
          have zR := zA
          have zR8 := z8
          have oR := oQ
          rw [← ekR] at gR zR zR8 oR s1R
          have xR : kR.next = kD.next := by rw [ekR]
          have hxR : q2.next < kR.next := by omega
          have wT : wrapF .i64 (((contents (cs.take i)).length : Int) + (cs[i].content.length : Int)) = ((contents (cs.take (i + 1))).length : Int) := by
            have h1 := hct i hi
            have h2 := hcm (i + 1)
            have h3 := hsi i hi
            rw [wrapI] <;> omega
          obtain ⟨kS, kT, u9, kU, kV, rT, rS, wS, rS8, rSA, hhT, aU, wV, gV7, gV8, oV, nV, sRV⟩ := tailH (lim := E.next) (tot' := ((contents (cs.take (i + 1))).length : Int)) gR zR zR8 oR (by omega) (by omega) (by omega) (by omega) (by omega) hxR (by omega) i4 (by omega)
          refine cwf_calm J CR hcr jB ?_
          simp only [optQ_some, pop, popQ, ldV_ptr, ev, evs, putA, look_put, isB_false, ite_true, ite_false, Bool.not_true, Bool.not_false, Nat.reduceEqDiff, j_load, j_call, j_on, bj_eq, pjB, t2, t3, t6]
          refine ⟨_, fun k hk => hk.1, vp, _, fun k hk => hk.2.1, veq_int _ _, _, fun k hk => hk.2.2.1, veq_int _ _, ?_⟩
          simp only [optQ_some, opt2_some, pop, popQ, ldV_ptr, ev, evs, putA, look_put, isB_true, isB_false, abinF_eq, abin, decide_true, cond_true, cond_false, ite_true, ite_false, Bool.not_false, Nat.reduceEqDiff, j_load, j_call, j_on, bj_eq, bj2_eq, pjC, t2, t3, g118, g58, g108, ck5, cgt]
          refine ⟨jC, jC, jC, _, fun k hk => hk.1, vp, _, fun k hk => hk.2.1, veq_int _ _, ?_⟩
          simp only [optQ_some, opt2_some, pop, popQ, ldV_ptr, ev, evs, putA, look_put, isB_true, abinF_eq, abin, cond_false, ite_true, ite_false, Nat.reduceEqDiff, Nat.zero_add, j_load, j_call, j_on, bj_eq, bj2_eq, pjD, g130, g58b]
          refine ⟨jD, jD, _, fun k hk => hk.2.2.2, veq_int _ _, ?_⟩
          simp only [cwf_seq, cwf_ops, c_false, cwf_skip, andThen_normal, owf_nil, o_p, bo_eq, optQ_some, pop, popQ, ev, putA, look_put, isB_false, abinF_eq, abin, decide_true, cond_true, cond_false, ite_true, ite_false, Bool.not_false, Nat.reduceEqDiff, j_nil, j_on, bj_eq, pjD, cne]
          simp only [cwf_seq, cwf_ops, c_false, cwf_skip, andThen_normal, o_p, o_r, bo_eq, optQ_some, pop, popQ, rop_load1, ldV_ptr, ev, putA, look_put, isB_false, Nat.add_zero, ite_true, ite_false, Bool.not_false, Nat.reduceEqDiff, t7, c0, ← ekR]
          simp only [cwf_ops, andThen_normal, blockQ_normal, owf_nil, o_p, o_r, o_e, behind_eq, bo_eq, optQ_some, opt2_some, pop, popQ, rop_load1, ldV_ptr, ev, putA, look_put, abinF_eq, abin, eop_store1, eop_app, st1, eop_buildS, bldS_some, evP_nil, evP_cons, fillA_nil, fillA_one, List.length_cons, List.length_nil, List.set_cons_zero, Nat.lt_add_one, Nat.mul_one, Nat.add_zero, scalar_slice, scalar_int, decide_true, cond_true, ite_true, ite_false, Nat.reduceEqDiff, Nat.zero_add, true_and, t7, t8, rT, rS, wT, wS, rS8, rSA, hhT, aU, wV]
          have hno9 : ¬ (h4.next + 1 = k5.next ∨ h4.next + 1 = k8.next ∨ u8 = some (h4.next + 1)) := by
            rintro (e | e | e)
            · omega
            · omega
            · have := i4 _ e
              omega
          have l2 : kV.loops.get (h4.next + 1) = some { k with st := 1 } := by rw [sRV.loops (h4.next + 1) (by omega) hno9, s1R.loops (h4.next + 1) (by omega) (by omega)]; exact l1
          have oV' : OwnAt kV u9 1 (i + 1) ((List.range (i + 1)).map fun j => I (sizeN (contents cs).length j)) := by
            rw [List.range_succ, List.map_append]
            have e := hsi i hi
            rw [e] at oV
            exact oV
          have hsub : ∀ j, j < E.next → (j = k5.next ∨ j = k8.next ∨ u8 = some j) → (j = k5.next ∨ j = k8.next) ∨ j = h4.next + 1 := by
            rintro j hj (e | e | e)
            · exact .inl (.inl e)
            · exact .inl (.inr e)
            · have := i4 _ e
              omega
          refine ⟨l2, u9, gV7, gV8, ⟨fun y hy => oV'.use y hy, oV'.non, oV'.len, oV'.sc⟩, nV, ?_⟩
          refine SameB.of ?_ ?_
          · refine SameB.less (b := h4.next + 1) (((((s.toB.mono (T := fun j => (j = k5.next ∨ j = k8.next) ∨ j = h4.next + 1) (fun j e => .inl e)).trans bq (fun j hj e => .inr e)).trans s1R.toB (fun j hj e => .inl e)).trans sRV.toB (fun j hj e => hsub j hj e)).trans (sameB_setL kV (h4.next + 1) k q.marks) (fun j hj e => .inr e)) ?_ ?_
            · rw [setL_loops, if_pos rfl]; exact lE.symm
            · show kV.blks.get _ = _
              rw [sRV.get (h4.next + 1) (by omega) hno9, s1R.get (h4.next + 1) (by omega) (by omega), bl1, s.get (h4.next + 1) (by omega) (by omega)]
          · rw [setL_marks, s.marks]) (h := E) ⟨none, b7, b8, OwnAt.nil _ _, fun y hy => (by cases hy), Same.refl _ _⟩
    rw [List.take_length] at gX7
    have d2 : 2 ≤ cs.length := by omega
    rw [if_neg (by omega)] at gX7
    have lX : hX.loops.get (h4.next + 1) = some k := by rw [sX.loops (h4.next + 1) (by omega) (by omega)]; exact lE
    refine ⟨vv, hX, FX, lX, ?_⟩
    have xX := sX.next
    have bX : SameB hX (hX.setL (h4.next + 1) { k with st := 3 } hX.marks) (fun j => j = h4.next + 1) := sameB_setL _ _ _ _
    have blX : ∀ j, (hX.setL (h4.next + 1) { k with st := 3 } hX.marks).blks.get j = hX.blks.get j := fun j => rfl
    have xY : (hX.setL (h4.next + 1) { k with st := 3 } hX.marks).next = hX.next := rfl
    simp only [cwf_seq, andThen_normal, blockQ_normal]
    generalize hX.setL (h4.next + 1) { k with st := 3 } hX.marks = Y at bX blX xY
    have y1 : Y.blks.get h.next = some ⟨[.pointer (some ⟨bm, 0, none⟩)], 1, 1, true, false⟩ := by rw [blX, sX.get h.next (by omega) (by omega)]; exact b1
    have y2 : Y.blks.get k1.next = some ⟨[I a], 1, 1, true, false⟩ := by rw [blX, sX.get k1.next (by omega) (by omega)]; exact b2
    have y3 : Y.blks.get k2.next = some ⟨[I 0, I 0], 2, 2, true, false⟩ := by rw [blX, sX.get k2.next (by omega) (by omega)]; exact b3
    have y4 : Y.blks.get k3.next = some ⟨[.bool false], 1, 1, true, false⟩ := by rw [blX, sX.get k3.next (by omega) (by omega)]; exact b4
    have y6 : Y.blks.get k4.next = some ⟨[I (cs.length : Int)], 1, 1, true, false⟩ := by rw [blX, sX.get k4.next (by omega) (by omega)]; exact b6
    have y7 : Y.blks.get k5.next = some ⟨[I ((contents cs).length : Int), I (firsts cs)], 2, 2, true, false⟩ := by rw [blX]; exact gX7
    have y8 : Y.blks.get k8.next = some ⟨[ownSl uX cs.length], 1, 1, true, false⟩ := by rw [blX]; exact gX8
    have oY : OwnAt Y uX 1 cs.length ((List.range cs.length).map fun j => I (sizeN (contents cs).length j)) := ⟨fun y hy => by
      obtain ⟨z1, z2, z3⟩ := oX.use y hy
      exact ⟨by rw [blX]; exact z1, by omega, z3⟩, oX.non, oX.len, oX.sc⟩
    have mY : MemAt Y bm um C z c o r := (memk hX sX).sameB bX (fun e => by omega) (fun y hy e => by have := huml y hy; omega)
    have SY : SameB h Y (fun _ => False) := (T0.trans sX.toB (fun j hj e => by omega)).trans bX (fun j hj e => by omega)
    have xSY := SY.next
    obtain ⟨yX, rfl⟩ : ∃ y, uX = some y := by
      cases uX with
      | none => have := oX.non rfl; omega
      | some y => exact ⟨y, rfl⟩
    have rY := oY.rd
    have FA : ∀ (j : Nat) (x : Int), j ≤ 4 → at0 C (a + j) = x → Fact P 58 [.pointer (some ⟨bm, 0, none⟩), I ((a + j : Nat) : Int)] Y (I x) Y := by
      intro j x hj hx
      obtain ⟨_, _, F, e, rfl⟩ := at_spec hT V mY (a + j) (by omega)
      rw [hx] at e; subst e; exact F
    have FA1 := FA 1 ((contents cs).length : Int) (by omega) (by rw [p1, esz])
    have FA2 := FA 2 0 (by omega) (by rw [p2, esh])
    have FA3 := FA 3 0 (by omega) (by rw [p3, ech])
    have FA4 := FA 4 0 (by omega) (by rw [p4, esm])
    have F71 := Nu.deg (contents cs).length n120 Y
    rw [← hd] at F71
    obtain ⟨CR, hcr, g71, gA1, gA2, gA3, gA4⟩ : ∃ CR : CallF, CfOk P CR ∧ CR (.fn 71) [I ((contents cs).length : Nat)] Y = some (I (cs.length : Nat), Y) ∧ CR (.fn 58) [.pointer (some ⟨bm, 0, none⟩), I ((a + 1 : Nat) : Int)] Y = some (I ((contents cs).length : Nat), Y) ∧ CR (.fn 58) [.pointer (some ⟨bm, 0, none⟩), I ((a + 2 : Nat) : Int)] Y = some (I 0, Y) ∧ CR (.fn 58) [.pointer (some ⟨bm, 0, none⟩), I ((a + 3 : Nat) : Int)] Y = some (I 0, Y) ∧ CR (.fn 58) [.pointer (some ⟨bm, 0, none⟩), I ((a + 4 : Nat) : Int)] Y = some (I 0, Y) :=
      ⟨cfOf 71 _ Y _ Y (cfOf 58 _ Y _ Y (cfOf 58 _ Y _ Y (cfOf 58 _ Y _ Y (cfOf 58 _ Y _ Y cf00)))), cfOf_ok F71 (cfOf_ok FA1 (cfOf_ok FA2 (cfOf_ok FA3 (cfOf_ok FA4 cf00_ok)))), cfOf_eq, by rw [cfOf_ne (by decide)]; exact cfOf_eq, by rw [cfOf_ne (by decide), cfOf_neA (by simp)]; exact cfOf_eq, by rw [cfOf_ne (by decide), cfOf_neA (by simp), cfOf_neA (by simp)]; exact cfOf_eq, by rw [cfOf_ne (by decide), cfOf_neA (by simp), cfOf_neA (by simp), cfOf_neA (by simp)]; exact cfOf_eq⟩
    have a1 : wrapF .i64 ((a : Int) + 1) = ((a + 1 : Nat) : Int) := by rw [wrapI] <;> omega
    have a2 : wrapF .i64 ((a : Int) + 2) = ((a + 2 : Nat) : Int) := by rw [wrapI] <;> omega
    have a3 : wrapF .i64 ((a : Int) + 3) = ((a + 3 : Nat) : Int) := by rw [wrapI] <;> omega
    have a4 : wrapF .i64 ((a : Int) + 4) = ((a + 4 : Nat) : Int) := by rw [wrapI] <;> omega
    have vp : veq (.pointer (some ⟨bm, 0, none⟩)) (.pointer (some ⟨bm, 0, none⟩)) = true := by simp [veq, veq1]
    have i1 : Y.rd h.next 0 = some (.pointer (some ⟨bm, 0, none⟩)) := rd_of y1
    have i2 : Y.rd k1.next 0 = some (I a) := rd_of y2
    have i6 : Y.rd k4.next 0 = some (I (cs.length : Int)) := rd_of y6
    have i7 : Y.rd k5.next 0 = some (I ((contents cs).length : Int)) := rd_of y7
    have i8 : Y.rd k8.next 0 = some (ownSl (some yX) cs.length) := rd_of y8
    have cd1 : ((cs.length : Int) != (cs.length : Int)) = false := by simp
    have cd2 : (((contents cs).length : Int) != ((contents cs).length : Int)) = false := by simp
    have cd3 : ((0 : Int) != 0) = false := rfl
    have w3 := st2_agg (wrs2_of (u := I ((contents cs).length : Int)) (v := I (firsts cs)) y3 rfl rfl)
    have s3' : Same Y (Y.setB k2.next ⟨[I ((contents cs).length : Int), I (firsts cs)], 2, 2, true, false⟩) (fun j => j = k2.next) := Same.setB rfl
    have z3 : (Y.setB k2.next ⟨[I ((contents cs).length : Int), I (firsts cs)], 2, 2, true, false⟩).blks.get k2.next = some ⟨[I ((contents cs).length : Int), I (firsts cs)], 2, 2, true, false⟩ := by rw [setB_get, if_pos rfl]
    generalize Y.setB k2.next ⟨[I ((contents cs).length : Int), I (firsts cs)], 2, 2, true, false⟩ = Z1 at w3 s3' z3
    have z4 : Z1.blks.get k3.next = some ⟨[.bool false], 1, 1, true, false⟩ := by rw [s3'.get k3.next (by omega) (by omega)]; exact y4
    have w4 : Z1.wrs k3.next 0 [.bool true] = some (Z1.setB k3.next ⟨[.bool true], 1, 1, true, false⟩) := wrs1_of z4 rfl (by simp) rfl
    have s4' : Same Z1 (Z1.setB k3.next ⟨[.bool true], 1, 1, true, false⟩) (fun j => j = k3.next) := Same.setB rfl
    have z5 : (Z1.setB k3.next ⟨[.bool true], 1, 1, true, false⟩).blks.get k3.next = some ⟨[.bool true], 1, 1, true, false⟩ := by rw [setB_get, if_pos rfl]
    generalize Z1.setB k3.next ⟨[.bool true], 1, 1, true, false⟩ = Z2 at w4 s4' z5
    have xZ1 := s3'.next
    have e3 : Z2.rds k2.next 0 2 = some [I ((contents cs).length : Int), I (firsts cs)] := rds2_of (by rw [s4'.get k2.next (by omega) (by omega)]; exact z3)
    have e4 : Z2.rd k3.next 0 = some (.bool true) := rd_of z5
    have e7 := ldN_of (rds2_of y7)
    have SZ : SameB h Z2 (fun _ => False) := (SY.trans s3'.toB (fun j hj e => by omega)).trans s4'.toB (fun j hj e => by omega)
    have hfin := SZ.close
    refine cwf_quiet CR hcr ?_
    simp only [cwf_seq, cwf_ops, c_false, cwf_skip, andThen_normal, o_r, optQ_some, opt2_some, pop, popQ, rop_load1, ldV_ptr, ev, evs, putA, look_put, isB_false, abinF_eq, abin, Nat.add_zero, decide_true, cond_true, cond_false, ite_true, ite_false, Bool.not_false, Nat.reduceEqDiff, true_and, q_nil, q_p, q_r, q_call, q_on, bq_eq, bqv_eq, bq2_eq, veq_int, vp, t2, t3, t6, t7, t8, i1, i2, i6, i7, g71, gA1, gA2, gA3, gA4, a1, a2, a3, a4, cd1, cd2, cd3]
    simp only [cwf_block, cwf_loop, andThen_normal, owf_nil, o_p, bo_eq, optQ_some, pop, popQ, ev, putA, look_put, cond_false, ite_true, ite_false, Nat.reduceEqDiff, i8, ownSl, Option.map_some]
    refine cw_loop (fun k ts h' => ∃ i : Nat, k = cs.length - i ∧ i ≤ cs.length ∧ h' = Y ∧ look ts 4 = .pointer (some ⟨k2.next, 0, none⟩) ∧ look ts 5 = .pointer (some ⟨k3.next, 0, none⟩) ∧ look ts 7 = .pointer (some ⟨k5.next, 0, none⟩) ∧ look ts 110 = .slice (some ⟨yX, 0, none⟩) cs.length cs.length ∧ look ts 111 = I cs.length ∧ look ts 112 = I i) ?_ (n := cs.length) ⟨0, rfl, Nat.zero_le _, rfl, by simp only [look_put, ite_false, Nat.reduceEqDiff, t4], by simp only [look_put, ite_false, Nat.reduceEqDiff, t5], by simp only [look_put, ite_false, Nat.reduceEqDiff, t7], by simp only [look_put, ite_true, ite_false, Nat.reduceEqDiff], by simp only [look_put, ite_true, ite_false, Nat.reduceEqDiff], by simp only [look_put, Int.cast_ofNat_Int, ite_true, ite_false, Nat.reduceEqDiff] <;> rfl⟩
    rintro k ts h' ⟨i, rfl, i2, rfl, t4, t5, t7, t110, t111, t112⟩
    refine cwf_cw ?_
    by_cases hi : i < cs.length
    · have ci : ((i : Int) < cs.length) = True := by simp [hi]
      have wi : wrapF .i64 ((i : Int) + 1) = ((i + 1 : Nat) : Int) := by rw [wrapI] <;> omega
      have rk : h'.rd yX i = some (I (sizeN (contents cs).length i)) := by
        have := rY.rd (i := i) (by omega)
        rw [Nat.zero_add] at this
        rw [this]; simp [hi]
      have Fs := Nu.siz (contents cs).length i n2 n120 (by omega) h'
      have ce : ((sizeN (contents cs).length i : Int) != (sizeN (contents cs).length i : Int)) = false := by simp
      simp only [cwf_seq, cwf_ops, c_true, cwf_skip, cwf_block, andThen_normal, owf_nil, o_p, o_r, owf_call, bo_eq, optQ_some, pop, popQ, rop_load1, ldV_ptr, ev, evs, putA, look_put, isB_true, abinF_eq, abin, Int.toNat_natCast, Int.natCast_nonneg, Nat.mul_one, Nat.add_zero, inB_eq, decide_true, cond_true, ite_true, ite_false, Bool.and_true, Nat.reduceEqDiff, Nat.zero_add, t7, t110, t111, t112, ci, rk, i7]
      refine ⟨_, _, Fs, ?_⟩
      simp only [cwf_ops, c_false, cwf_skip, andThen_normal, blockQ_normal, roundQ_normal, owf_nil, o_p, behind_eq, bo_eq, optQ_some, pop, popQ, ev, putA, look_put, isB_false, abinF_eq, abin, decide_true, cond_true, ite_true, ite_false, Bool.not_false, Nat.reduceEqDiff, true_and, t4, t5, t7, t110, t111, t112, ce, wi]
      exact ⟨cs.length - (i + 1), by omega, i + 1, rfl, by omega, rfl⟩
    · have ci : ((i : Int) < cs.length) = False := by simp; omega
      simp only [cwf_seq, cwf_ops, cwf_ret, c_false, cwf_exit, andThen_normal, andThen_exit, blockQ_exit, roundQ_exit, fnQ_ret, owf_nil, o_p, o_r, o_e, behind_eq, bo_eq, optQ_some, opt2_some, pop, popQ, ev, putA, look_put, isB_false, abinF_eq, abin, resAll, resA, mkRes2, eop_store1, st1, scalar_bool, decide_true, decide_false, cond_true, ite_true, ite_false, Bool.not_false, Nat.reduceEqDiff, Option.some.injEq, exists_eq_left', true_and, rop_loadN, t4, t5, t7, t111, t112, ci, e7, eop_store2, w3, w4, e3, e4]
      exact hfin

theorem ideal_spec (H : Has tab) (V5 : HasV5 tab) (V8 : HasV8 tab) (Nu : Num P) {bm : Nat} {um : Option Nat} {C : List Int} {z c o r : Int} (hC : C.length ≤ 65536) : ∀ t : Tr, IdlP P bm um C z c o r t := by
  intro t
  induction t using Tr.ind with
  | e a =>
    intro h m hok _
    refine fspec_cwf hT V8.v79 rfl ?_
    have s1 : Same h (h.new ⟨[I 0, I 0], 2, 2, true, false⟩) (fun _ => False) := Same.new
    have g1 : (h.new ⟨[I 0, I 0], 2, 2, true, false⟩).blks.get h.next = some ⟨[I 0, I 0], 2, 2, true, false⟩ := by rw [new_get, if_pos rfl]
    have x1 : (h.new ⟨[I 0, I 0], 2, 2, true, false⟩).next = h.next + 1 := rfl
    generalize hh1 : h.new ⟨[I 0, I 0], 2, 2, true, false⟩ = h1 at s1 g1 x1
    obtain ⟨_, h1, F1, rfl, rfl⟩ := refat_spec hT V H h1 a 1 hok.1 (by have := hok.2; omega) (by omega) (by omega)
    obtain ⟨_, h1, F2, rfl, rfl⟩ := kind_spec hT V H h1 a 1 hok.1 (by have := hok.2; omega) (by omega) (by omega)
    have c1 : ((1 : Int) == 1) = true := rfl
    have s2 : Same h1 (h1.setB h.next ⟨[I 0, I 0], 2, 2, true, false⟩) (fun j => j = h.next) := Same.setB rfl
    have w2 := st2_agg (wrs2_of (u := I 0) (v := I 0) g1 rfl rfl)
    have g2 : (h1.setB h.next ⟨[I 0, I 0], 2, 2, true, false⟩).blks.get h.next = some ⟨[I 0, I 0], 2, 2, true, false⟩ := by rw [setB_get, if_pos rfl]
    generalize h1.setB h.next ⟨[I 0, I 0], 2, 2, true, false⟩ = h2 at s2 w2 g2
    have r2 := rds2_of g2
    simp only [af79, cwf_seq, cwf_ops, andThen_normal, owf_nil, o_p, o_e, owf_call, behind_eq, bo_eq, optQ_some, opt2_some, pop, popQ, ev, evs, putA, putArgs, look_put, List.length_cons, List.length_nil, ite_true, ite_false, Nat.reduceEqDiff, Nat.reduceAdd, Nat.zero_add, eop_alloc, List.length_cons, List.length_nil, hh1]
    refine ⟨_, _, F1, ?_⟩
    simp only [cwf_seq, cwf_ops, andThen_normal, owf_nil, o_p, owf_call, behind_eq, bo_eq, optQ_some, pop, popQ, ev, evs, putA, look_put, ite_true, ite_false, Nat.reduceEqDiff]
    refine ⟨_, _, F2, ?_⟩
    simp only [cwf_seq, cwf_ops, cwf_ret, c_true, cwf_block, andThen_normal, andThen_ret, blockQ_ret, fnQ_ret, owf_nil, o_p, o_e, behind_eq, bo_eq, optQ_some, opt2_some, pop, popQ, ev, putA, look_put, isB_true, abinF_eq, abin, resAll, resA, mkRes2, evP_nil, fillA_nil, Int.cast_ofNat_Int, decide_true, cond_true, ite_true, ite_false, Nat.reduceEqDiff, Option.some.injEq, exists_eq_left', c1, eop_store2, w2, r2]
    have sf : Same h h2 (fun _ => False) := s1.trans s2 (fun j hj e => by omega)
    rw [tail_marks h h2 sf.marks]
    exact ⟨rfl, sf⟩
  | l a k v =>
    intro h m hok _
    refine fspec_cwf hT V8.v79 rfl ?_
    obtain ⟨q1, q2, q3, q4⟩ := hok
    have s1 : Same h (h.new ⟨[I 0, I 0], 2, 2, true, false⟩) (fun _ => False) := Same.new
    have g1 : (h.new ⟨[I 0, I 0], 2, 2, true, false⟩).blks.get h.next = some ⟨[I 0, I 0], 2, 2, true, false⟩ := by rw [new_get, if_pos rfl]
    have x1 : (h.new ⟨[I 0, I 0], 2, 2, true, false⟩).next = h.next + 1 := rfl
    generalize hh1 : h.new ⟨[I 0, I 0], 2, 2, true, false⟩ = h1 at s1 g1 x1
    obtain ⟨_, h1, F1, rfl, rfl⟩ := refat_spec hT V H h1 a 2 q1 (by omega) (by omega) (by omega)
    obtain ⟨_, h1, F2, rfl, rfl⟩ := kind_spec hT V H h1 a 2 q1 (by omega) (by omega) (by omega)
    have F3 : Fact P 58 [.pointer (some ⟨bm, 0, none⟩), I a] h1 (I k) h1 := by
      obtain ⟨_, _, F, e, rfl⟩ := at_spec hT V (m.same s1 (fun x => x) (fun _ _ x => x)) a (by omega)
      rw [q3] at e; subst e; exact F
    have wz : wrapF .i64 ((a : Int) + 0) = (a : Int) := by rw [wrapI] <;> omega
    have c1 : ((2 : Int) == 1) = false := rfl
    have c2 : ((2 : Int) == 2) = true := rfl
    have s2 : Same h1 (h1.setB h.next ⟨[I 1, I k], 2, 2, true, false⟩) (fun j => j = h.next) := Same.setB rfl
    have w2 := st2_agg (wrs2_of (u := I 1) (v := I k) g1 rfl rfl)
    have g2 : (h1.setB h.next ⟨[I 1, I k], 2, 2, true, false⟩).blks.get h.next = some ⟨[I 1, I k], 2, 2, true, false⟩ := by rw [setB_get, if_pos rfl]
    generalize h1.setB h.next ⟨[I 1, I k], 2, 2, true, false⟩ = h2 at s2 w2 g2
    have r2 := rds2_of g2
    simp only [af79, cwf_seq, cwf_ops, andThen_normal, owf_nil, o_p, o_e, owf_call, behind_eq, bo_eq, optQ_some, opt2_some, pop, popQ, ev, evs, putA, putArgs, look_put, List.length_cons, List.length_nil, ite_true, ite_false, Nat.reduceEqDiff, Nat.reduceAdd, Nat.zero_add, eop_alloc, List.length_cons, List.length_nil, hh1]
    refine ⟨_, _, F1, ?_⟩
    simp only [cwf_seq, cwf_ops, andThen_normal, owf_nil, o_p, owf_call, behind_eq, bo_eq, optQ_some, pop, popQ, ev, evs, putA, look_put, ite_true, ite_false, Nat.reduceEqDiff]
    refine ⟨_, _, F2, ?_⟩
    simp only [cwf_seq, cwf_ops, c_true, c_false, cwf_block, andThen_normal, owf_nil, o_p, owf_call, behind_eq, bo_eq, optQ_some, pop, popQ, ev, evs, putA, look_put, isB_true, isB_false, abinF_eq, abin, Int.cast_ofNat_Int, decide_true, cond_true, ite_true, ite_false, Bool.not_false, Nat.reduceEqDiff, c1, c2, wz]
    refine ⟨_, _, F3, ?_⟩
    simp only [cwf_ret, andThen_normal, andThen_ret, blockQ_ret, fnQ_ret, owf_nil, o_p, o_e, behind_eq, bo_eq, optQ_some, opt2_some, pop, popQ, ev, putA, look_put, resAll, resA, mkRes2, evP_nil, evP_cons, fillA_nil, fillA_one, List.length_cons, List.length_nil, List.set_cons_zero, List.set_cons_succ, Nat.reduceLT, Nat.lt_add_one, scalar_int, ite_true, ite_false, Nat.reduceEqDiff, Nat.reduceAdd, Nat.zero_add, Option.some.injEq, exists_eq_left', eop_store2, w2, r2]
    have sf : Same h h2 (fun _ => False) := s1.trans s2 (fun j hj e => by omega)
    rw [tail_marks h h2 sf.marks]
    exact ⟨rfl, sf⟩
  | i a sz sh ch sm ks cs ih =>
    intro h m hok hid
    refine fspec_cwf hT V8.v79 rfl ?_
    have s1 : Same h (h.new ⟨[I 0, I 0], 2, 2, true, false⟩) (fun _ => False) := Same.new
    have g1 : (h.new ⟨[I 0, I 0], 2, 2, true, false⟩).blks.get h.next = some ⟨[I 0, I 0], 2, 2, true, false⟩ := by rw [new_get, if_pos rfl]
    have x1 : (h.new ⟨[I 0, I 0], 2, 2, true, false⟩).next = h.next + 1 := rfl
    generalize hh1 : h.new ⟨[I 0, I 0], 2, 2, true, false⟩ = h1 at s1 g1 x1
    have qa := hok.1.1
    have qb := hok.1.2.1
    obtain ⟨_, h1, F1, rfl, rfl⟩ := refat_spec hT V H h1 a 3 qa (by omega) (by omega) (by omega)
    obtain ⟨_, h1, F2, rfl, rfl⟩ := kind_spec hT V H h1 a 3 qa (by omega) (by omega) (by omega)
    obtain ⟨_, h2, F3, rfl, s2⟩ := idealInner_spec hT V H V5 V8 Nu hC ih (m.same s1 (fun x => x) (fun _ _ x => x)) hok hid
    have x2 := s2.next
    have c1 : ((3 : Int) == 1) = false := rfl
    have c2 : ((3 : Int) == 2) = false := rfl
    have c3 : ((3 : Int) == 3) = true := rfl
    have g2 : h2.blks.get h.next = some ⟨[I 0, I 0], 2, 2, true, false⟩ := by rw [s2.get h.next (by omega) (fun x => x)]; exact g1
    have w3 := st2_agg (wrs2_of (u := I ((contents cs).length : Int)) (v := I (firsts cs)) g2 rfl rfl)
    have s3 : Same h2 (h2.setB h.next ⟨[I ((contents cs).length : Int), I (firsts cs)], 2, 2, true, false⟩) (fun j => j = h.next) := Same.setB rfl
    have g3 : (h2.setB h.next ⟨[I ((contents cs).length : Int), I (firsts cs)], 2, 2, true, false⟩).blks.get h.next = some ⟨[I ((contents cs).length : Int), I (firsts cs)], 2, 2, true, false⟩ := by rw [setB_get, if_pos rfl]
    generalize h2.setB h.next ⟨[I ((contents cs).length : Int), I (firsts cs)], 2, 2, true, false⟩ = h3 at w3 s3 g3
    have r3 := rds2_of g3
    have ew : (Tr.inner a sz sh ch sm ks cs).word = (a : Int) * 8 + ((3 : Nat) : Int) := rfl
    have sf : Same h h3 (fun _ => False) := (s1.trans s2 (fun _ _ x => x)).trans s3 (fun j hj e => by omega)
    rw [ew]
    simp only [af79, cwf_seq, cwf_ops, andThen_normal, owf_nil, o_p, o_e, owf_call, behind_eq, bo_eq, optQ_some, opt2_some, pop, popQ, ev, evs, putA, putArgs, look_put, List.length_cons, List.length_nil, Int.cast_ofNat_Int, ite_true, ite_false, Nat.reduceEqDiff, Nat.reduceAdd, Nat.zero_add, eop_alloc, List.length_cons, List.length_nil, hh1]
    refine ⟨_, _, F1, ?_⟩
    simp only [cwf_seq, cwf_ops, andThen_normal, owf_nil, o_p, owf_call, behind_eq, bo_eq, optQ_some, pop, popQ, ev, evs, putA, look_put, ite_true, ite_false, Nat.reduceEqDiff]
    refine ⟨_, _, F2, ?_⟩
    simp only [cwf_seq, cwf_ops, c_true, c_false, cwf_block, andThen_normal, owf_nil, o_p, owf_call, behind_eq, bo_eq, optQ_some, pop, popQ, ev, evs, putA, look_put, isB_true, isB_false, abinF_eq, abin, Int.cast_ofNat_Int, decide_true, cond_true, ite_true, ite_false, Bool.not_false, Nat.reduceEqDiff, c1, c2, c3]
    refine ⟨_, _, F3, ?_⟩
    simp only [cwf_ret, andThen_normal, andThen_ret, blockQ_ret, fnQ_ret, owf_nil, o_p, o_e, behind_eq, bo_eq, optQ_some, opt2_some, pop, popQ, ev, putA, look_put, resAll, resA, mkRes2, ite_true, ite_false, Nat.reduceEqDiff, Option.some.injEq, exists_eq_left', List.getElem?_cons_zero, List.getElem?_cons_succ, eop_store2, w3, r3]
    rw [tail_marks h h3 sf.marks]
    exact ⟨rfl, sf⟩

theorem ideal1_spec (H : Has tab) (V2 : HasV2 tab) (V3 : HasV3 tab) (V4 : HasV4 tab) (V5 : HasV5 tab) (V6 : HasV6 tab) (V8 : HasV8 tab) (Nu : Num P) {bm : Nat} {um : Option Nat} {C : List Int} {z c o r : Int} {t : Tr} {h : Heap} (m : MemAt h bm um C z c o r) (R : Rooted C t) (hid : t.idl) : FSpec P 45 [.pointer (some ⟨bm, 0, none⟩), I t.word] h fun v h' => v = .bool true ∧ Same h h' (fun _ => False) := by
  refine fspec_cwf hT V8.v45 rfl ?_
  obtain ⟨_, h1, F1, bt, ut, us, rfl, w, _, s1⟩ := survey_spec hT V H V2 V3 V4 m R
  obtain ⟨_, h2, F2, rfl, s2⟩ := has_spec hT V V6 w (by have := R.few; simp; omega) (x := t.word) ⟨((6 : Int), t.word), by simp, rfl⟩
  have s02 := s1.trans s2 (fun _ _ x => x)
  have m2 := m.same s02 (fun x => x) (fun _ _ x => x)
  obtain ⟨_, h3, F3, rfl, s3⟩ := ideal_spec hT V H V5 V8 Nu R.len.2 t h2 m2 R.ok hid
  have s4 : Same h3 (h3.new ⟨[I 0, I 0], 2, 2, true, false⟩) (fun _ => False) := Same.new
  have g4 : (h3.new ⟨[I 0, I 0], 2, 2, true, false⟩).blks.get h3.next = some ⟨[I 0, I 0], 2, 2, true, false⟩ := by rw [new_get, if_pos rfl]
  have x4 : (h3.new ⟨[I 0, I 0], 2, 2, true, false⟩).next = h3.next + 1 := rfl
  generalize hh4 : h3.new ⟨[I 0, I 0], 2, 2, true, false⟩ = h4 at s4 g4 x4
  have w5 := st2_agg (wrs2_of (u := I (t.content.length : Int)) (v := I t.first) g4 rfl rfl)
  have s5 : Same h4 (h4.setB h3.next ⟨[I (t.content.length : Int), I t.first], 2, 2, true, false⟩) (fun j => j = h3.next) := Same.setB rfl
  generalize h4.setB h3.next ⟨[I (t.content.length : Int), I t.first], 2, 2, true, false⟩ = h5 at w5 s5
  have sf : Same h h5 (fun _ => False) := ((s02.trans s3 (fun _ _ x => x)).trans s4 (fun _ _ x => x)).trans s5 (fun j hj e => by have := s02.next; have := s3.next; omega)
  simp only [af45, cwf_seq, cwf_ops, andThen_normal, owf_nil, o_p, owf_call, bo_eq, optQ_some, pop, popQ, ev, evs, putA, putArgs, look_put, ite_true, ite_false, Nat.reduceEqDiff, Nat.zero_add]
  refine ⟨_, _, F1, ?_⟩
  simp only [cwf_seq, cwf_ops, andThen_normal, owf_nil, o_p, owf_call, o_on, behind_eq, bo_eq, optQ_some, pop, popQ, ev, evs, putA, look_put, isB_false, ite_true, ite_false, Bool.not_true, Bool.not_false, Nat.reduceEqDiff, List.getElem?_cons_zero, List.getElem?_cons_succ]
  refine ⟨_, _, F2, ?_⟩
  simp only [cwf_seq, cwf_ops, c_false, cwf_skip, andThen_normal, owf_nil, o_p, owf_call, o_on, behind_eq, bo_eq, optQ_some, pop, popQ, ev, evs, putA, look_put, isB_false, cond_false, ite_true, ite_false, Bool.not_true, Bool.not_false, Nat.reduceEqDiff]
  refine ⟨_, _, F3, ?_⟩
  simp only [cwf_seq, cwf_ops, cwf_ret, andThen_normal, fnQ_ret, owf_nil, o_p, o_e, behind_eq, bo_eq, optQ_some, opt2_some, pop, popQ, ev, putA, look_put, resAll, resA, mkRes1, List.length_cons, List.length_nil, ite_true, ite_false, Nat.reduceEqDiff, Nat.reduceAdd, Nat.zero_add, Option.some.injEq, exists_eq_left', true_and, List.getElem?_cons_zero, List.getElem?_cons_succ, eop_alloc, List.length_cons, List.length_nil, hh4, eop_store2, w5]
  rw [tail_marks h h5 sf.marks]
  exact sf
end
end
end Go.Proofs.Ytedldiimhbebdaa.Ai
